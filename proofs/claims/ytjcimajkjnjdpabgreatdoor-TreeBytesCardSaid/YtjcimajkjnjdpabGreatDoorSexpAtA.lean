/- DERIVED. Atom. -/
import Derived.Test.YtjcimajkjnjdpabGreatDoorSexpEnc
namespace Go.Proofs.YtjcimajkjnjdpabGreatDoor
open Go.RowKit
set_option linter.unusedVariables false
set_option maxRecDepth 100000

theorem atom_any (w : World) (S : ByteArray) : Calls Tryz.prog 22 #[.string S] w (fun e w' => e = .returned (.agg #[.bool true, .string S, .slice none 0 0]) ∧ Below w.heap.size w w') := by
  obtain ⟨c0, c1, c2⟩ := box_cells w (.bool true) (.string S) (.slice none 0 0)
  have hB : Below w.heap.size w (w.alloc (.cells #[.bool true, .string S, .slice none 0 0] 50)) := (Below.refl _ w).alloc (Nat.le_refl _) _
  have HB := Lib.hid hB; clear hB
  go_enter Tryz.func22, Tryz.ntmps22
  go_wp2
  refine bodyPost_ret (by simp [results, Tryz.results22, go_sem, c0, c1, c2]; rfl) rfl ?_
  exact ⟨rfl, HB.out⟩
end Go.Proofs.YtjcimajkjnjdpabGreatDoor
