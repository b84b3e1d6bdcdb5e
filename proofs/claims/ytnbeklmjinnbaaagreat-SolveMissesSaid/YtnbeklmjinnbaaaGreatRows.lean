/-
  No cell of these rows narrows 'for every input' (looked for: loops, veiled, ifaces, maps, wideKeys, modest, calm, conditions, laid).
  DERIVED. THE GIVEN ROWS OF THIS SEAT. 5 by the template 'for every input the law returns true; each argument reads behind the call as it read before'; 0 by the template 'total and deterministic' (their statements: YtnbeklmjinnbaaaGreatTotals.lean).
  GIVEN WITH THE SEED: the statements are not yours to turn. If you find one false, say at which input.
  Laid BY PROGRAM, IN A SANDBOX (cutbox-rows.mjs): the forced cells as the released guide's own fill.sh prints them over the translation 20008ed6fbf65fa7… (all of the seat's roots in one cut). By AI agents, Wed Nov 11 2026. No macro, syntax, notation, axiom, sorry.
-/
import Derived.Test.YtnbeklmjinnbaaaGreatChecked
import GoSem.Claim
import GoSem.ClaimJoined
import GoSem.ClaimMapViews
import Derived.JoinedTies
import Derived.KernelRfl
namespace Go.Proofs.YtnbeklmjinnbaaaGreat
/- THE CELL 'sum', in the pinned program and in every row, IS THE sha256 OF THE DUMP (.gsa) THAT YtnbeklmjinnbaaaGreatProg.lean LOADS. Nothing in Lean hashes anything: it is a label: what it is worth is what the hold of that sum in a sandbox is worth. -/
noncomputable def Tryz.pinned : Pinned := { name := "ytnbeklmjinnbaaagreat", sum := "20008ed6fbf65fa7b7041449a1c043c918035748df21eaf45aa3e2ee898b4be9", checked := Tryz.checked }
namespace Rows
def none {H : Type} : Left H := { results := [], args := [] }

/-- 'saplinglaw15.SolveAnswers': WHATEVER THE INPUT: true; the input reads as it did. -/
def solveAnswersSpec : ChangeSpec := { name := "solveAnswers", fn := fun _ => fun
  | [d] => { results := [.lit (.bool true)], args := [d] }
  | _ => none }
def solveAnswersRow : OpenClaim := { program := "ytnbeklmjinnbaaagreat", sum := "20008ed6fbf65fa7b7041449a1c043c918035748df21eaf45aa3e2ee898b4be9", func := "sapling/saplinglaw15.SolveAnswers", spec := "solveAnswers", inPlace := ["slices.overlaps[sapling/shelf.pair[string, *sapling/shelf.Shelf[int, sapling/stock.entry]]]", "slices.overlaps[sapling/shelf.pair[int, sapling/stock.entry]]", "internal/bytealg.abigen_runtime_cmpstring"], unfollowed := true, recurses := true, apart := false }
def SolveAnswersSaid : Prop := solveAnswersRow.holds Tryz.pinned (OpenSpec.ofChange solveAnswersSpec)

/-- ITS FALSE NEIGHBOUR: 'it returns false'. Refute it at one input. -/
def solveAnswersWrong : ChangeSpec := { name := "solveAnswers", fn := fun _ => fun
  | [d] => { results := [.lit (.bool false)], args := [d] }
  | _ => none }
def SolveAnswersWrongFalsely : Prop := solveAnswersRow.holds Tryz.pinned (OpenSpec.ofChange solveAnswersWrong)

/-- 'saplinglaw15.SolveHolds': WHATEVER THE INPUT: true; the input reads as it did. -/
def solveHoldsSpec : ChangeSpec := { name := "solveHolds", fn := fun _ => fun
  | [d] => { results := [.lit (.bool true)], args := [d] }
  | _ => none }
def solveHoldsRow : OpenClaim := { program := "ytnbeklmjinnbaaagreat", sum := "20008ed6fbf65fa7b7041449a1c043c918035748df21eaf45aa3e2ee898b4be9", func := "sapling/saplinglaw15.SolveHolds", spec := "solveHolds", inPlace := ["slices.overlaps[sapling/shelf.pair[string, *sapling/shelf.Shelf[int, sapling/stock.entry]]]", "slices.overlaps[sapling/shelf.pair[int, sapling/stock.entry]]", "internal/bytealg.abigen_runtime_cmpstring"], unfollowed := true, recurses := true, apart := false }
def SolveHoldsSaid : Prop := solveHoldsRow.holds Tryz.pinned (OpenSpec.ofChange solveHoldsSpec)

/-- ITS FALSE NEIGHBOUR: 'it returns false'. Refute it at one input. -/
def solveHoldsWrong : ChangeSpec := { name := "solveHolds", fn := fun _ => fun
  | [d] => { results := [.lit (.bool false)], args := [d] }
  | _ => none }
def SolveHoldsWrongFalsely : Prop := solveHoldsRow.holds Tryz.pinned (OpenSpec.ofChange solveHoldsWrong)

/-- 'saplinglaw15.SolveMisses': WHATEVER THE INPUT: true; the input reads as it did. -/
def solveMissesSpec : ChangeSpec := { name := "solveMisses", fn := fun _ => fun
  | [d] => { results := [.lit (.bool true)], args := [d] }
  | _ => none }
def solveMissesRow : OpenClaim := { program := "ytnbeklmjinnbaaagreat", sum := "20008ed6fbf65fa7b7041449a1c043c918035748df21eaf45aa3e2ee898b4be9", func := "sapling/saplinglaw15.SolveMisses", spec := "solveMisses", inPlace := ["slices.overlaps[sapling/shelf.pair[string, *sapling/shelf.Shelf[int, sapling/stock.entry]]]", "slices.overlaps[sapling/shelf.pair[int, sapling/stock.entry]]", "internal/bytealg.abigen_runtime_cmpstring"], unfollowed := true, recurses := true, apart := false }
def SolveMissesSaid : Prop := solveMissesRow.holds Tryz.pinned (OpenSpec.ofChange solveMissesSpec)

/-- ITS FALSE NEIGHBOUR: 'it returns false'. Refute it at one input. -/
def solveMissesWrong : ChangeSpec := { name := "solveMisses", fn := fun _ => fun
  | [d] => { results := [.lit (.bool false)], args := [d] }
  | _ => none }
def SolveMissesWrongFalsely : Prop := solveMissesRow.holds Tryz.pinned (OpenSpec.ofChange solveMissesWrong)

/-- 'saplinglaw15.SolveOrders': WHATEVER THE INPUT: true; the input reads as it did. -/
def solveOrdersSpec : ChangeSpec := { name := "solveOrders", fn := fun _ => fun
  | [d1, d2] => { results := [.lit (.bool true)], args := [d1, d2] }
  | _ => none }
def solveOrdersRow : OpenClaim := { program := "ytnbeklmjinnbaaagreat", sum := "20008ed6fbf65fa7b7041449a1c043c918035748df21eaf45aa3e2ee898b4be9", func := "sapling/saplinglaw15.SolveOrders", spec := "solveOrders", inPlace := ["slices.overlaps[sapling/shelf.pair[string, *sapling/shelf.Shelf[int, sapling/stock.entry]]]", "slices.overlaps[sapling/shelf.pair[int, sapling/stock.entry]]", "internal/bytealg.abigen_runtime_cmpstring"], unfollowed := true, recurses := true, apart := false }
def SolveOrdersSaid : Prop := solveOrdersRow.holds Tryz.pinned (OpenSpec.ofChange solveOrdersSpec)

/-- ITS FALSE NEIGHBOUR: 'it returns false'. Refute it at one input. -/
def solveOrdersWrong : ChangeSpec := { name := "solveOrders", fn := fun _ => fun
  | [d1, d2] => { results := [.lit (.bool false)], args := [d1, d2] }
  | _ => none }
def SolveOrdersWrongFalsely : Prop := solveOrdersRow.holds Tryz.pinned (OpenSpec.ofChange solveOrdersWrong)

/-- 'saplinglaw15.SolveKeeps': WHATEVER THE INPUT: true; the input reads as it did. -/
def solveKeepsSpec : ChangeSpec := { name := "solveKeeps", fn := fun _ => fun
  | [d] => { results := [.lit (.bool true)], args := [d] }
  | _ => none }
def solveKeepsRow : OpenClaim := { program := "ytnbeklmjinnbaaagreat", sum := "20008ed6fbf65fa7b7041449a1c043c918035748df21eaf45aa3e2ee898b4be9", func := "sapling/saplinglaw15.SolveKeeps", spec := "solveKeeps", inPlace := ["slices.overlaps[sapling/shelf.pair[string, *sapling/shelf.Shelf[int, sapling/stock.entry]]]", "slices.overlaps[sapling/shelf.pair[int, sapling/stock.entry]]", "internal/bytealg.abigen_runtime_cmpstring"], unfollowed := true, recurses := true, apart := false }
def SolveKeepsSaid : Prop := solveKeepsRow.holds Tryz.pinned (OpenSpec.ofChange solveKeepsSpec)

/-- ITS FALSE NEIGHBOUR: 'it returns false'. Refute it at one input. -/
def solveKeepsWrong : ChangeSpec := { name := "solveKeeps", fn := fun _ => fun
  | [d] => { results := [.lit (.bool false)], args := [d] }
  | _ => none }
def SolveKeepsWrongFalsely : Prop := solveKeepsRow.holds Tryz.pinned (OpenSpec.ofChange solveKeepsWrong)

/- THE SECOND FORM. 'bulk': how many values and letters a reading holds, each counted each time it is reached (what is shared counts as often as it is met; a slice's spare places count too). A statement '..UptoSaid' is the law's where the arguments, and the package variables that the reading takes, are together of bulk at most 1048576: NARROWER than '..Said'. Prove '..Said' where nothing that the law and all that it calls make is longer than what came in: it says more and counts as full. Else prove '..UptoSaid'. A law counts once. -/
mutual
def uptoBulk {H : Type} : DataW H → Nat
  | .lit (.string bytes) => bytes.length + 1
  | .lit _ => 1
  | .nil => 1
  | .ptr d => uptoBulk d + 1
  | .slice elems spare => uptoBulkAll elems + uptoBulkAll spare + 1
  | .agg parts => uptoBulkAll parts + 1
  | .iface _ d => uptoBulk d + 1
  | .map entries => uptoBulkEntries entries + 1
  | .held _ => 1
def uptoBulkAll {H : Type} : List (DataW H) → Nat
  | [] => 0
  | d :: r => uptoBulk d + uptoBulkAll r
def uptoBulkEntries {H : Type} : List (Lit × DataW H) → Nat
  | [] => 0
  | x :: r => uptoBulkEntry x + uptoBulkEntries r
def uptoBulkEntry {H : Type} : Lit × DataW H → Nat
  | (.string bytes, d) => bytes.length + uptoBulk d + 1
  | (_, d) => uptoBulk d + 1
 end
def uptoSmall : (H : Type) → List (DataW H) → Bool := fun _ ds => decide (uptoBulkAll ds ≤ 1048576)
def OpenSpec.upto (s : _root_.Go.ChangeSpec) : _root_.Go.OpenSpec := { _root_.Go.OpenSpec.ofChange s with cond := some uptoSmall }

/-- 'saplinglaw15.SolveAnswers', WHERE WHAT IT READS IS OF BULK AT MOST 1048576: true; the input reads as it did. -/
def solveAnswersUptoRow : OpenClaim := { program := "ytnbeklmjinnbaaagreat", sum := "20008ed6fbf65fa7b7041449a1c043c918035748df21eaf45aa3e2ee898b4be9", func := "sapling/saplinglaw15.SolveAnswers", spec := "solveAnswers", inPlace := ["slices.overlaps[sapling/shelf.pair[string, *sapling/shelf.Shelf[int, sapling/stock.entry]]]", "slices.overlaps[sapling/shelf.pair[int, sapling/stock.entry]]", "internal/bytealg.abigen_runtime_cmpstring"], unfollowed := true, recurses := true, apart := false, narrowed := true }
def SolveAnswersUptoSaid : Prop := solveAnswersUptoRow.holds Tryz.pinned (OpenSpec.upto solveAnswersSpec)

/-- 'saplinglaw15.SolveHolds', WHERE WHAT IT READS IS OF BULK AT MOST 1048576: true; the input reads as it did. -/
def solveHoldsUptoRow : OpenClaim := { program := "ytnbeklmjinnbaaagreat", sum := "20008ed6fbf65fa7b7041449a1c043c918035748df21eaf45aa3e2ee898b4be9", func := "sapling/saplinglaw15.SolveHolds", spec := "solveHolds", inPlace := ["slices.overlaps[sapling/shelf.pair[string, *sapling/shelf.Shelf[int, sapling/stock.entry]]]", "slices.overlaps[sapling/shelf.pair[int, sapling/stock.entry]]", "internal/bytealg.abigen_runtime_cmpstring"], unfollowed := true, recurses := true, apart := false, narrowed := true }
def SolveHoldsUptoSaid : Prop := solveHoldsUptoRow.holds Tryz.pinned (OpenSpec.upto solveHoldsSpec)

/-- 'saplinglaw15.SolveMisses', WHERE WHAT IT READS IS OF BULK AT MOST 1048576: true; the input reads as it did. -/
def solveMissesUptoRow : OpenClaim := { program := "ytnbeklmjinnbaaagreat", sum := "20008ed6fbf65fa7b7041449a1c043c918035748df21eaf45aa3e2ee898b4be9", func := "sapling/saplinglaw15.SolveMisses", spec := "solveMisses", inPlace := ["slices.overlaps[sapling/shelf.pair[string, *sapling/shelf.Shelf[int, sapling/stock.entry]]]", "slices.overlaps[sapling/shelf.pair[int, sapling/stock.entry]]", "internal/bytealg.abigen_runtime_cmpstring"], unfollowed := true, recurses := true, apart := false, narrowed := true }
def SolveMissesUptoSaid : Prop := solveMissesUptoRow.holds Tryz.pinned (OpenSpec.upto solveMissesSpec)

/-- 'saplinglaw15.SolveOrders', WHERE WHAT IT READS IS OF BULK AT MOST 1048576: true; the input reads as it did. -/
def solveOrdersUptoRow : OpenClaim := { program := "ytnbeklmjinnbaaagreat", sum := "20008ed6fbf65fa7b7041449a1c043c918035748df21eaf45aa3e2ee898b4be9", func := "sapling/saplinglaw15.SolveOrders", spec := "solveOrders", inPlace := ["slices.overlaps[sapling/shelf.pair[string, *sapling/shelf.Shelf[int, sapling/stock.entry]]]", "slices.overlaps[sapling/shelf.pair[int, sapling/stock.entry]]", "internal/bytealg.abigen_runtime_cmpstring"], unfollowed := true, recurses := true, apart := false, narrowed := true }
def SolveOrdersUptoSaid : Prop := solveOrdersUptoRow.holds Tryz.pinned (OpenSpec.upto solveOrdersSpec)

/-- 'saplinglaw15.SolveKeeps', WHERE WHAT IT READS IS OF BULK AT MOST 1048576: true; the input reads as it did. -/
def solveKeepsUptoRow : OpenClaim := { program := "ytnbeklmjinnbaaagreat", sum := "20008ed6fbf65fa7b7041449a1c043c918035748df21eaf45aa3e2ee898b4be9", func := "sapling/saplinglaw15.SolveKeeps", spec := "solveKeeps", inPlace := ["slices.overlaps[sapling/shelf.pair[string, *sapling/shelf.Shelf[int, sapling/stock.entry]]]", "slices.overlaps[sapling/shelf.pair[int, sapling/stock.entry]]", "internal/bytealg.abigen_runtime_cmpstring"], unfollowed := true, recurses := true, apart := false, narrowed := true }
def SolveKeepsUptoSaid : Prop := solveKeepsUptoRow.holds Tryz.pinned (OpenSpec.upto solveKeepsSpec)

end Rows
end Go.Proofs.YtnbeklmjinnbaaaGreat
