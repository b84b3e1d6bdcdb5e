/- DERIVED. The reference's place. -/
import Derived.Test.YtjcimajkjnjdpaaGreatDoorTreeRefA
namespace Go.Proofs.YtjcimajkjnjdpaaGreatDoor
open Go.RowKit
set_option linter.unusedVariables false

set_option maxHeartbeats 2000000 in
theorem rplace_any (D : ByteArray) (w : World) (hd : D.size ≤ 400000) : Calls Tryz.prog 49 #[.string D] w (fun e w' => e = .returned (.bool (placeB D.data.toList)) ∧ Below w.heap.size w w') := by
  have hG := fun W => rgood_any D W (by omega)
  obtain ⟨g, hg⟩ : ∃ g, g = goodB D.data.toList := ⟨_, rfl⟩
  have hp : placeB D.data.toList = (D.data.toList.isEmpty || g) := by unfold placeB; rw [hg]
  rw [← hg] at hG
  rw [hp]
  cases hD : D.toList.isEmpty
  · have hD2 : D.data.toList.isEmpty = false := by rw [← Lib.toList_data]; exact hD
    rw [hD2, Bool.false_or]
    have HG := Lib.hid hG
    clear hG hg hp hD2
    go_enter Tryz.func49, Tryz.ntmps49
    go_wp2_with fail
    refine (HG.out w).mono ?_
    rintro e w1 ⟨rfl, h1⟩
    have H1 := Lib.hid h1; clear h1
    go_wp2_with fail
    go_ret
    exact ⟨rfl, H1.out⟩
  · have hD2 : D.data.toList.isEmpty = true := by rw [← Lib.toList_data]; exact hD
    rw [hD2, Bool.true_or]
    clear hG hg hp hD2
    go_enter Tryz.func49, Tryz.ntmps49
    go_wp2_with fail
    go_ret
    exact ⟨rfl, Below.refl _ _⟩
end Go.Proofs.YtjcimajkjnjdpaaGreatDoor
