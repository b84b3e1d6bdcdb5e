/- DERIVED. An argument that is a tree, or a file. -/
import Derived.Test.YtjcimajkjnjdpaaGreatDoorTreeArg
namespace Go.Proofs.YtjcimajkjnjdpaaGreatDoor
open Go.RowKit Go.Shelf Go.ChangeShapes Go.WideShapes
set_option linter.unusedVariables false
set_option maxRecDepth 100000

theorem tree_of_arg {H : Type} {enc : TypeId × Value → H} {w : World} {fuel : Nat} {v : Value} (h : Arg enc Tryz.prog w fuel 26 [v]) :
    ∃ (ps : List Pr) (a : Option Addr) (c : Nat), v = .slice a ps.length c ∧ RdFl w a ps ∧ Sl a ps.length c ∧ ps.length ≤ c ∧ c ≤ 4398046511104 ∧ Sz ps := by
  obtain ⟨_, hf⟩ := h.struct Tryz.underlying26
  have f0 : Arg enc Tryz.prog w (fuel - 1) 22 (List.take (Tryz.prog.cellsOf 22) [v]) := hf 0 _ rfl
  rw [show Tryz.prog.cellsOf 22 = 1 from by kernel_rfl] at f0
  exact files_of_arg f0
theorem treeV {H : Type} {enc : TypeId × Value → H} {w : World} {fuel base : Nat} {r : Reach} {v : Value} (o : Value.okWide Tryz.prog w r base 26 v) (h : Arg enc Tryz.prog w fuel 26 v.cells.toList) :
    ∃ (ps : List Pr) (a : Option Addr) (c : Nat), v = .agg #[.slice a ps.length c] ∧ RdFl w a ps ∧ Sl a ps.length c ∧ Sz ps := by
  obtain ⟨cs, rfl, hs⟩ := okWide_struct Tryz.underlying26 o
  rw [show Tryz.prog.cellsOf 26 = 1 from by kernel_rfl] at hs
  obtain ⟨cs⟩ := cs
  have hs : cs.length = 1 := by simpa using hs
  obtain ⟨x, rfl⟩ : ∃ x, cs = [x] := by
    match cs, hs with
    | [x], _ => exact ⟨x, rfl⟩
  obtain ⟨ps, a, c, rfl, h1, h2, _, _, h3⟩ := tree_of_arg (v := x) h
  exact ⟨ps, a, c, rfl, h1, h2, h3⟩
end Go.Proofs.YtjcimajkjnjdpaaGreatDoor
