/- DERIVED. The reference's small functions on trees. -/
import Derived.Test.YtjcimajkjnjdpabGreatDoorTreeMount
import Derived.Test.YtjcimajkjnjdpabGreatDoorPathUnderR
namespace Go.Proofs.YtjcimajkjnjdpabGreatDoor
open Go.RowKit
set_option linter.unusedVariables false

set_option maxHeartbeats 2000000 in
theorem rahead_any (D S : ByteArray) (w : World) (hd : D.size ≤ 400000) (hs : S.size ≤ 400000) : Calls Tryz.prog 63 #[.string D, .string S] w (fun e w' => e = .returned (.bool (underP D.data.toList S.data.toList).2) ∧ Below w.heap.size w w') := by
  have hU := runder_any D S w hd hs
  obtain ⟨u, hu⟩ : ∃ u, u = underP D.data.toList S.data.toList := ⟨_, rfl⟩
  rw [← hu] at hU ⊢
  obtain ⟨u1, u2⟩ := u
  dsimp only at hU ⊢
  unfold strV at hU
  obtain ⟨U, hU1⟩ : ∃ U : ByteArray, U = ⟨u1.toArray⟩ := ⟨_, rfl⟩
  rw [← hU1] at hU
  have HU := Lib.hid hU
  clear hU hu hU1
  go_enter Tryz.func63, Tryz.ntmps63
  go_wp2_with fail
  refine HU.out.mono ?_
  rintro e w1 ⟨rfl, h1⟩
  have H1 := Lib.hid h1; clear h1
  go_wp2_with fail
  go_ret
  exact ⟨rfl, H1.out⟩
end Go.Proofs.YtjcimajkjnjdpabGreatDoor
