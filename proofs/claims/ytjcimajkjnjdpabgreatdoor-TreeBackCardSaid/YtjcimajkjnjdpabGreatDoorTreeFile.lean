/- DERIVED. An argument that is a file. -/
import Derived.Test.YtjcimajkjnjdpabGreatDoorTreeArg
namespace Go.Proofs.YtjcimajkjnjdpabGreatDoor
open Go.RowKit
set_option linter.unusedVariables false
set_option maxRecDepth 100000

section
open Go.Shelf Go.ChangeShapes Go.WideShapes
theorem fileV {H : Type} {enc : TypeId × Value → H} {w : World} {fuel base : Nat} {r : Reach} {v : Value} (o : Value.okWide Tryz.prog w r base 35 v) (h : Arg enc Tryz.prog w fuel 35 v.cells.toList) :
    ∃ p : Pr, v = .agg #[strV p.1, strV p.2] ∧ p.1.length ≤ 140737488351232 ∧ p.2.length ≤ 140737488351232 := by
  obtain ⟨cs, rfl, hs⟩ := okWide_struct Tryz.underlying35 o
  rw [show Tryz.prog.cellsOf 35 = 2 from by kernel_rfl] at hs
  obtain ⟨cs⟩ := cs
  have hs : cs.length = 2 := by simpa using hs
  obtain ⟨x, y, rfl⟩ : ∃ x y, cs = [x, y] := by
    match cs, hs with
    | [x, y], _ => exact ⟨x, y, rfl⟩
  obtain ⟨p, rfl, rfl, h1, h2⟩ := file_of_arg (u := x) (v := y) h
  exact ⟨p, rfl, h1, h2⟩
end
theorem rdFl_one {w : World} {b : Nat} {p : Pr} (h : w.heap[b]? = some (.cells #[strV p.1, strV p.2] 35 (0, 0))) : RdFl w (some ⟨b, 0, none⟩) [p] := fun _ =>
  ⟨b, 0, rfl, lt_of_heap h, fun i x hi => by
    match i, hi with
    | 0, hi =>
      obtain rfl := Option.some.inj hi
      exact ⟨cell_of_heap h 0, cell_of_heap h 1⟩
    | i + 1, hi => cases hi⟩
end Go.Proofs.YtjcimajkjnjdpabGreatDoor
