/- DERIVED. The reference's small functions on trees. -/
import Derived.Test.YtjcimajkjnjdpaaGreatDoorTreeMount
import Derived.Test.YtjcimajkjnjdpaaGreatDoorPathJoinsV
namespace Go.Proofs.YtjcimajkjnjdpaaGreatDoor
open Go.RowKit
set_option linter.unusedVariables false

set_option maxHeartbeats 2000000 in
theorem rahead_any (D S : ByteArray) (w : World) (hd : D.size ≤ 400000) (hs : S.size ≤ 400000) : Calls Tryz.prog 35 #[.string D, .string S] w (fun e w' => e = .returned (.bool (underP D.data.toList S.data.toList).2) ∧ Below w.heap.size w w') := by
  have hU := runder_any D S w hd hs
  obtain ⟨u, hu⟩ : ∃ u, u = underP D.data.toList S.data.toList := ⟨_, rfl⟩
  rw [← hu] at hU ⊢
  obtain ⟨u1, u2⟩ := u
  dsimp only at hU ⊢
  unfold strV at hU
  obtain ⟨U, hU1⟩ : ∃ U : ByteArray, U = ⟨u1.toArray⟩ := ⟨_, rfl⟩
  rw [← hU1] at hU
  have HU := Lib.hid hU
  clear hU hu hU1
  go_enter Tryz.func35, Tryz.ntmps35
  go_wp2_with fail
  refine HU.out.mono ?_
  rintro e w1 ⟨rfl, h1⟩
  have H1 := Lib.hid h1; clear h1
  go_wp2_with fail
  go_ret
  exact ⟨rfl, H1.out⟩
set_option maxHeartbeats 2000000 in
theorem rplace_any (D : ByteArray) (w : World) (hd : D.size ≤ 400000) : Calls Tryz.prog 49 #[.string D] w (fun e w' => e = .returned (.bool (placeB D.data.toList)) ∧ Below w.heap.size w w') := by
  have hG := fun W => rgood_any D W (by omega)
  obtain ⟨g, hg⟩ : ∃ g, g = goodB D.data.toList := ⟨_, rfl⟩
  have hp : placeB D.data.toList = (D.data.toList.isEmpty || g) := by unfold placeB; rw [hg]
  rw [← hg] at hG
  rw [hp]
  cases hD : D.toList.isEmpty
  · have hD2 : D.data.toList.isEmpty = false := by rw [← Lib.toList_data]; exact hD
    rw [hD2, Bool.false_or]
    have HG := Lib.hid hG
    clear hG hg hp hD2
    go_enter Tryz.func49, Tryz.ntmps49
    go_wp2_with fail
    refine (HG.out w).mono ?_
    rintro e w1 ⟨rfl, h1⟩
    have H1 := Lib.hid h1; clear h1
    go_wp2_with fail
    go_ret
    exact ⟨rfl, H1.out⟩
  · have hD2 : D.data.toList.isEmpty = true := by rw [← Lib.toList_data]; exact hD
    rw [hD2, Bool.true_or]
    clear hG hg hp hD2
    go_enter Tryz.func49, Tryz.ntmps49
    go_wp2_with fail
    go_ret
    exact ⟨rfl, Below.refl _ _⟩
end Go.Proofs.YtjcimajkjnjdpaaGreatDoor
