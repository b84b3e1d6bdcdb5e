/-
  No cell of these rows narrows 'for every input' (looked for: loops, veiled, ifaces, maps, wideKeys, modest, calm, conditions, laid).
  DERIVED. THE GIVEN ROWS OF THIS SEAT. 11 by the template 'for every input the law returns true; each argument reads behind the call as it read before'; 0 by the template 'total and deterministic' (their statements: YtaagkndhgicifaaGreatTotals.lean).
  GIVEN WITH THE SEED: the statements are not yours to turn. If you find one false, say at which input.
  Laid BY PROGRAM, IN A SANDBOX (cutbox-rows.mjs): the forced cells as the released guide's own fill.sh prints them over the translation c87fed6331c51a15… (all of the seat's roots in one cut). By AI agents, Wed Nov 11 2026. No macro, syntax, notation, axiom, sorry.
-/
import Derived.Test.YtaagkndhgicifaaGreatChecked
import GoSem.Claim
import GoSem.ClaimJoined
import GoSem.ClaimMapViews
import Derived.JoinedTies
import Derived.KernelRfl
namespace Go.Proofs.YtaagkndhgicifaaGreat
/- THE CELL 'sum', in the pinned program and in every row, IS THE sha256 OF THE DUMP (.gsa) THAT YtaagkndhgicifaaGreatProg.lean LOADS. Nothing in Lean hashes anything: it is a label: what it is worth is what the hold of that sum in a sandbox is worth. -/
noncomputable def Tryz.pinned : Pinned := { name := "ytaagkndhgicifaagreat", sum := "c87fed6331c51a15db2b66ec958d55102e3296c8d6182a6c37608209132e6192", checked := Tryz.checked }
namespace Rows
def none {H : Type} : Left H := { results := [], args := [] }

/-- 'saplinglaw16.StageLeast': WHATEVER THE INPUT: true; the input reads as it did. -/
def stageLeastSpec : ChangeSpec := { name := "stageLeast", fn := fun _ => fun
  | [d] => { results := [.lit (.bool true)], args := [d] }
  | _ => none }
def stageLeastRow : OpenClaim := { program := "ytaagkndhgicifaagreat", sum := "c87fed6331c51a15db2b66ec958d55102e3296c8d6182a6c37608209132e6192", func := "sapling/saplinglaw16.StageLeast", spec := "stageLeast", inPlace := ["slices.overlaps[sapling/shelf.pair[string, *sapling/shelf.Shelf[int, sapling/stock.entry]]]", "slices.overlaps[sapling/shelf.pair[int, sapling/stock.entry]]", "internal/bytealg.abigen_runtime_cmpstring"], unfollowed := true, recurses := true, apart := false }
def StageLeastSaid : Prop := stageLeastRow.holds Tryz.pinned (OpenSpec.ofChange stageLeastSpec)

/-- ITS FALSE NEIGHBOUR: 'it returns false'. Refute it at one input. -/
def stageLeastWrong : ChangeSpec := { name := "stageLeast", fn := fun _ => fun
  | [d] => { results := [.lit (.bool false)], args := [d] }
  | _ => none }
def StageLeastWrongFalsely : Prop := stageLeastRow.holds Tryz.pinned (OpenSpec.ofChange stageLeastWrong)

/-- 'saplinglaw16.StageRound': WHATEVER THE INPUT: true; the input reads as it did. -/
def stageRoundSpec : ChangeSpec := { name := "stageRound", fn := fun _ => fun
  | [d1, d2] => { results := [.lit (.bool true)], args := [d1, d2] }
  | _ => none }
def stageRoundRow : OpenClaim := { program := "ytaagkndhgicifaagreat", sum := "c87fed6331c51a15db2b66ec958d55102e3296c8d6182a6c37608209132e6192", func := "sapling/saplinglaw16.StageRound", spec := "stageRound", inPlace := ["slices.overlaps[sapling/shelf.pair[string, *sapling/shelf.Shelf[int, sapling/stock.entry]]]", "slices.overlaps[sapling/shelf.pair[int, sapling/stock.entry]]", "internal/bytealg.abigen_runtime_cmpstring"], unfollowed := true, recurses := true, apart := false }
def StageRoundSaid : Prop := stageRoundRow.holds Tryz.pinned (OpenSpec.ofChange stageRoundSpec)

/-- ITS FALSE NEIGHBOUR: 'it returns false'. Refute it at one input. -/
def stageRoundWrong : ChangeSpec := { name := "stageRound", fn := fun _ => fun
  | [d1, d2] => { results := [.lit (.bool false)], args := [d1, d2] }
  | _ => none }
def StageRoundWrongFalsely : Prop := stageRoundRow.holds Tryz.pinned (OpenSpec.ofChange stageRoundWrong)

/-- 'saplinglaw16.StageMore': WHATEVER THE INPUT: true; the input reads as it did. -/
def stageMoreSpec : ChangeSpec := { name := "stageMore", fn := fun _ => fun
  | [d1, d2] => { results := [.lit (.bool true)], args := [d1, d2] }
  | _ => none }
def stageMoreRow : OpenClaim := { program := "ytaagkndhgicifaagreat", sum := "c87fed6331c51a15db2b66ec958d55102e3296c8d6182a6c37608209132e6192", func := "sapling/saplinglaw16.StageMore", spec := "stageMore", inPlace := ["slices.overlaps[sapling/shelf.pair[string, *sapling/shelf.Shelf[int, sapling/stock.entry]]]", "slices.overlaps[sapling/shelf.pair[int, sapling/stock.entry]]", "internal/bytealg.abigen_runtime_cmpstring"], unfollowed := true, recurses := true, apart := false }
def StageMoreSaid : Prop := stageMoreRow.holds Tryz.pinned (OpenSpec.ofChange stageMoreSpec)

/-- ITS FALSE NEIGHBOUR: 'it returns false'. Refute it at one input. -/
def stageMoreWrong : ChangeSpec := { name := "stageMore", fn := fun _ => fun
  | [d1, d2] => { results := [.lit (.bool false)], args := [d1, d2] }
  | _ => none }
def StageMoreWrongFalsely : Prop := stageMoreRow.holds Tryz.pinned (OpenSpec.ofChange stageMoreWrong)

/-- 'saplinglaw16.StageKeeps': WHATEVER THE INPUT: true; the input reads as it did. -/
def stageKeepsSpec : ChangeSpec := { name := "stageKeeps", fn := fun _ => fun
  | [d1, d2] => { results := [.lit (.bool true)], args := [d1, d2] }
  | _ => none }
def stageKeepsRow : OpenClaim := { program := "ytaagkndhgicifaagreat", sum := "c87fed6331c51a15db2b66ec958d55102e3296c8d6182a6c37608209132e6192", func := "sapling/saplinglaw16.StageKeeps", spec := "stageKeeps", inPlace := ["slices.overlaps[sapling/shelf.pair[string, *sapling/shelf.Shelf[int, sapling/stock.entry]]]", "slices.overlaps[sapling/shelf.pair[int, sapling/stock.entry]]", "internal/bytealg.abigen_runtime_cmpstring"], unfollowed := true, recurses := true, apart := false }
def StageKeepsSaid : Prop := stageKeepsRow.holds Tryz.pinned (OpenSpec.ofChange stageKeepsSpec)

/-- ITS FALSE NEIGHBOUR: 'it returns false'. Refute it at one input. -/
def stageKeepsWrong : ChangeSpec := { name := "stageKeeps", fn := fun _ => fun
  | [d1, d2] => { results := [.lit (.bool false)], args := [d1, d2] }
  | _ => none }
def StageKeepsWrongFalsely : Prop := stageKeepsRow.holds Tryz.pinned (OpenSpec.ofChange stageKeepsWrong)

/-- 'saplinglaw16.StageFixes': WHATEVER THE INPUT: true; the input reads as it did. -/
def stageFixesSpec : ChangeSpec := { name := "stageFixes", fn := fun _ => fun
  | [d1, d2, d3] => { results := [.lit (.bool true)], args := [d1, d2, d3] }
  | _ => none }
def stageFixesRow : OpenClaim := { program := "ytaagkndhgicifaagreat", sum := "c87fed6331c51a15db2b66ec958d55102e3296c8d6182a6c37608209132e6192", func := "sapling/saplinglaw16.StageFixes", spec := "stageFixes", inPlace := ["slices.overlaps[sapling/shelf.pair[string, *sapling/shelf.Shelf[int, sapling/stock.entry]]]", "slices.overlaps[sapling/shelf.pair[int, sapling/stock.entry]]", "internal/bytealg.abigen_runtime_cmpstring"], unfollowed := true, recurses := true, apart := false }
def StageFixesSaid : Prop := stageFixesRow.holds Tryz.pinned (OpenSpec.ofChange stageFixesSpec)

/-- ITS FALSE NEIGHBOUR: 'it returns false'. Refute it at one input. -/
def stageFixesWrong : ChangeSpec := { name := "stageFixes", fn := fun _ => fun
  | [d1, d2, d3] => { results := [.lit (.bool false)], args := [d1, d2, d3] }
  | _ => none }
def StageFixesWrongFalsely : Prop := stageFixesRow.holds Tryz.pinned (OpenSpec.ofChange stageFixesWrong)

/-- 'saplinglaw16.StageWide': WHATEVER THE INPUT: true; the input reads as it did. -/
def stageWideSpec : ChangeSpec := { name := "stageWide", fn := fun _ => fun
  | [d] => { results := [.lit (.bool true)], args := [d] }
  | _ => none }
def stageWideRow : OpenClaim := { program := "ytaagkndhgicifaagreat", sum := "c87fed6331c51a15db2b66ec958d55102e3296c8d6182a6c37608209132e6192", func := "sapling/saplinglaw16.StageWide", spec := "stageWide", inPlace := ["slices.overlaps[sapling/shelf.pair[string, *sapling/shelf.Shelf[int, sapling/stock.entry]]]", "slices.overlaps[sapling/shelf.pair[int, sapling/stock.entry]]", "internal/bytealg.abigen_runtime_cmpstring"], unfollowed := true, recurses := true, apart := false }
def StageWideSaid : Prop := stageWideRow.holds Tryz.pinned (OpenSpec.ofChange stageWideSpec)

/-- ITS FALSE NEIGHBOUR: 'it returns false'. Refute it at one input. -/
def stageWideWrong : ChangeSpec := { name := "stageWide", fn := fun _ => fun
  | [d] => { results := [.lit (.bool false)], args := [d] }
  | _ => none }
def StageWideWrongFalsely : Prop := stageWideRow.holds Tryz.pinned (OpenSpec.ofChange stageWideWrong)

/-- 'saplinglaw17.PlanMakes': WHATEVER THE INPUT: true; the input reads as it did. -/
def planMakesSpec : ChangeSpec := { name := "planMakes", fn := fun _ => fun
  | [d1, d2, d3] => { results := [.lit (.bool true)], args := [d1, d2, d3] }
  | _ => none }
def planMakesRow : OpenClaim := { program := "ytaagkndhgicifaagreat", sum := "c87fed6331c51a15db2b66ec958d55102e3296c8d6182a6c37608209132e6192", func := "sapling/saplinglaw17.PlanMakes", spec := "planMakes", inPlace := ["slices.overlaps[sapling/shelf.pair[string, *sapling/shelf.Shelf[int, sapling/stock.entry]]]", "slices.overlaps[sapling/shelf.pair[int, sapling/stock.entry]]", "internal/bytealg.abigen_runtime_cmpstring"], unfollowed := true, recurses := true, apart := false }
def PlanMakesSaid : Prop := planMakesRow.holds Tryz.pinned (OpenSpec.ofChange planMakesSpec)

/-- ITS FALSE NEIGHBOUR: 'it returns false'. Refute it at one input. -/
def planMakesWrong : ChangeSpec := { name := "planMakes", fn := fun _ => fun
  | [d1, d2, d3] => { results := [.lit (.bool false)], args := [d1, d2, d3] }
  | _ => none }
def PlanMakesWrongFalsely : Prop := planMakesRow.holds Tryz.pinned (OpenSpec.ofChange planMakesWrong)

/-- 'saplinglaw17.PlanWhole': WHATEVER THE INPUT: true; the input reads as it did. -/
def planWholeSpec : ChangeSpec := { name := "planWhole", fn := fun _ => fun
  | [d1, d2] => { results := [.lit (.bool true)], args := [d1, d2] }
  | _ => none }
def planWholeRow : OpenClaim := { program := "ytaagkndhgicifaagreat", sum := "c87fed6331c51a15db2b66ec958d55102e3296c8d6182a6c37608209132e6192", func := "sapling/saplinglaw17.PlanWhole", spec := "planWhole", inPlace := ["slices.overlaps[sapling/shelf.pair[string, *sapling/shelf.Shelf[int, sapling/stock.entry]]]", "slices.overlaps[sapling/shelf.pair[int, sapling/stock.entry]]", "internal/bytealg.abigen_runtime_cmpstring"], unfollowed := true, recurses := true, apart := false }
def PlanWholeSaid : Prop := planWholeRow.holds Tryz.pinned (OpenSpec.ofChange planWholeSpec)

/-- ITS FALSE NEIGHBOUR: 'it returns false'. Refute it at one input. -/
def planWholeWrong : ChangeSpec := { name := "planWhole", fn := fun _ => fun
  | [d1, d2] => { results := [.lit (.bool false)], args := [d1, d2] }
  | _ => none }
def PlanWholeWrongFalsely : Prop := planWholeRow.holds Tryz.pinned (OpenSpec.ofChange planWholeWrong)

/-- 'saplinglaw17.PlanMisses': WHATEVER THE INPUT: true; the input reads as it did. -/
def planMissesSpec : ChangeSpec := { name := "planMisses", fn := fun _ => fun
  | [d1, d2] => { results := [.lit (.bool true)], args := [d1, d2] }
  | _ => none }
def planMissesRow : OpenClaim := { program := "ytaagkndhgicifaagreat", sum := "c87fed6331c51a15db2b66ec958d55102e3296c8d6182a6c37608209132e6192", func := "sapling/saplinglaw17.PlanMisses", spec := "planMisses", inPlace := ["slices.overlaps[sapling/shelf.pair[string, *sapling/shelf.Shelf[int, sapling/stock.entry]]]", "slices.overlaps[sapling/shelf.pair[int, sapling/stock.entry]]", "internal/bytealg.abigen_runtime_cmpstring"], unfollowed := true, recurses := true, apart := false }
def PlanMissesSaid : Prop := planMissesRow.holds Tryz.pinned (OpenSpec.ofChange planMissesSpec)

/-- ITS FALSE NEIGHBOUR: 'it returns false'. Refute it at one input. -/
def planMissesWrong : ChangeSpec := { name := "planMisses", fn := fun _ => fun
  | [d1, d2] => { results := [.lit (.bool false)], args := [d1, d2] }
  | _ => none }
def PlanMissesWrongFalsely : Prop := planMissesRow.holds Tryz.pinned (OpenSpec.ofChange planMissesWrong)

/-- 'saplinglaw17.PlanKeeps': WHATEVER THE INPUT: true; the input reads as it did. -/
def planKeepsSpec : ChangeSpec := { name := "planKeeps", fn := fun _ => fun
  | [d1, d2] => { results := [.lit (.bool true)], args := [d1, d2] }
  | _ => none }
def planKeepsRow : OpenClaim := { program := "ytaagkndhgicifaagreat", sum := "c87fed6331c51a15db2b66ec958d55102e3296c8d6182a6c37608209132e6192", func := "sapling/saplinglaw17.PlanKeeps", spec := "planKeeps", inPlace := ["slices.overlaps[sapling/shelf.pair[string, *sapling/shelf.Shelf[int, sapling/stock.entry]]]", "slices.overlaps[sapling/shelf.pair[int, sapling/stock.entry]]", "internal/bytealg.abigen_runtime_cmpstring"], unfollowed := true, recurses := true, apart := false }
def PlanKeepsSaid : Prop := planKeepsRow.holds Tryz.pinned (OpenSpec.ofChange planKeepsSpec)

/-- ITS FALSE NEIGHBOUR: 'it returns false'. Refute it at one input. -/
def planKeepsWrong : ChangeSpec := { name := "planKeeps", fn := fun _ => fun
  | [d1, d2] => { results := [.lit (.bool false)], args := [d1, d2] }
  | _ => none }
def PlanKeepsWrongFalsely : Prop := planKeepsRow.holds Tryz.pinned (OpenSpec.ofChange planKeepsWrong)

/-- 'saplinglaw17.PlanParts': WHATEVER THE INPUT: true; the input reads as it did. -/
def planPartsSpec : ChangeSpec := { name := "planParts", fn := fun _ => fun
  | [d1, d2] => { results := [.lit (.bool true)], args := [d1, d2] }
  | _ => none }
def planPartsRow : OpenClaim := { program := "ytaagkndhgicifaagreat", sum := "c87fed6331c51a15db2b66ec958d55102e3296c8d6182a6c37608209132e6192", func := "sapling/saplinglaw17.PlanParts", spec := "planParts", inPlace := ["slices.overlaps[sapling/shelf.pair[string, *sapling/shelf.Shelf[int, sapling/stock.entry]]]", "slices.overlaps[sapling/shelf.pair[int, sapling/stock.entry]]", "internal/bytealg.abigen_runtime_cmpstring"], unfollowed := true, recurses := true, apart := false }
def PlanPartsSaid : Prop := planPartsRow.holds Tryz.pinned (OpenSpec.ofChange planPartsSpec)

/-- ITS FALSE NEIGHBOUR: 'it returns false'. Refute it at one input. -/
def planPartsWrong : ChangeSpec := { name := "planParts", fn := fun _ => fun
  | [d1, d2] => { results := [.lit (.bool false)], args := [d1, d2] }
  | _ => none }
def PlanPartsWrongFalsely : Prop := planPartsRow.holds Tryz.pinned (OpenSpec.ofChange planPartsWrong)

/- THE SECOND FORM. 'bulk': how many values and letters a reading holds, each counted each time it is reached (what is shared counts as often as it is met; a slice's spare places count too). A statement '..UptoSaid' is the law's where the arguments, and the package variables that the reading takes, are together of bulk at most 1048576: NARROWER than '..Said'. Prove '..Said' where nothing that the law and all that it calls make is longer than what came in: it says more and counts as full. Else prove '..UptoSaid'. A law counts once. -/
mutual
def uptoBulk {H : Type} : DataW H → Nat
  | .lit (.string bytes) => bytes.length + 1
  | .lit _ => 1
  | .nil => 1
  | .ptr d => uptoBulk d + 1
  | .slice elems spare => uptoBulkAll elems + uptoBulkAll spare + 1
  | .agg parts => uptoBulkAll parts + 1
  | .iface _ d => uptoBulk d + 1
  | .map entries => uptoBulkEntries entries + 1
  | .held _ => 1
def uptoBulkAll {H : Type} : List (DataW H) → Nat
  | [] => 0
  | d :: r => uptoBulk d + uptoBulkAll r
def uptoBulkEntries {H : Type} : List (Lit × DataW H) → Nat
  | [] => 0
  | x :: r => uptoBulkEntry x + uptoBulkEntries r
def uptoBulkEntry {H : Type} : Lit × DataW H → Nat
  | (.string bytes, d) => bytes.length + uptoBulk d + 1
  | (_, d) => uptoBulk d + 1
 end
def uptoSmall : (H : Type) → List (DataW H) → Bool := fun _ ds => decide (uptoBulkAll ds ≤ 1048576)
def OpenSpec.upto (s : _root_.Go.ChangeSpec) : _root_.Go.OpenSpec := { _root_.Go.OpenSpec.ofChange s with cond := some uptoSmall }

/-- 'saplinglaw16.StageLeast', WHERE WHAT IT READS IS OF BULK AT MOST 1048576: true; the input reads as it did. -/
def stageLeastUptoRow : OpenClaim := { program := "ytaagkndhgicifaagreat", sum := "c87fed6331c51a15db2b66ec958d55102e3296c8d6182a6c37608209132e6192", func := "sapling/saplinglaw16.StageLeast", spec := "stageLeast", inPlace := ["slices.overlaps[sapling/shelf.pair[string, *sapling/shelf.Shelf[int, sapling/stock.entry]]]", "slices.overlaps[sapling/shelf.pair[int, sapling/stock.entry]]", "internal/bytealg.abigen_runtime_cmpstring"], unfollowed := true, recurses := true, apart := false, narrowed := true }
def StageLeastUptoSaid : Prop := stageLeastUptoRow.holds Tryz.pinned (OpenSpec.upto stageLeastSpec)

/-- 'saplinglaw16.StageRound', WHERE WHAT IT READS IS OF BULK AT MOST 1048576: true; the input reads as it did. -/
def stageRoundUptoRow : OpenClaim := { program := "ytaagkndhgicifaagreat", sum := "c87fed6331c51a15db2b66ec958d55102e3296c8d6182a6c37608209132e6192", func := "sapling/saplinglaw16.StageRound", spec := "stageRound", inPlace := ["slices.overlaps[sapling/shelf.pair[string, *sapling/shelf.Shelf[int, sapling/stock.entry]]]", "slices.overlaps[sapling/shelf.pair[int, sapling/stock.entry]]", "internal/bytealg.abigen_runtime_cmpstring"], unfollowed := true, recurses := true, apart := false, narrowed := true }
def StageRoundUptoSaid : Prop := stageRoundUptoRow.holds Tryz.pinned (OpenSpec.upto stageRoundSpec)

/-- 'saplinglaw16.StageMore', WHERE WHAT IT READS IS OF BULK AT MOST 1048576: true; the input reads as it did. -/
def stageMoreUptoRow : OpenClaim := { program := "ytaagkndhgicifaagreat", sum := "c87fed6331c51a15db2b66ec958d55102e3296c8d6182a6c37608209132e6192", func := "sapling/saplinglaw16.StageMore", spec := "stageMore", inPlace := ["slices.overlaps[sapling/shelf.pair[string, *sapling/shelf.Shelf[int, sapling/stock.entry]]]", "slices.overlaps[sapling/shelf.pair[int, sapling/stock.entry]]", "internal/bytealg.abigen_runtime_cmpstring"], unfollowed := true, recurses := true, apart := false, narrowed := true }
def StageMoreUptoSaid : Prop := stageMoreUptoRow.holds Tryz.pinned (OpenSpec.upto stageMoreSpec)

/-- 'saplinglaw16.StageKeeps', WHERE WHAT IT READS IS OF BULK AT MOST 1048576: true; the input reads as it did. -/
def stageKeepsUptoRow : OpenClaim := { program := "ytaagkndhgicifaagreat", sum := "c87fed6331c51a15db2b66ec958d55102e3296c8d6182a6c37608209132e6192", func := "sapling/saplinglaw16.StageKeeps", spec := "stageKeeps", inPlace := ["slices.overlaps[sapling/shelf.pair[string, *sapling/shelf.Shelf[int, sapling/stock.entry]]]", "slices.overlaps[sapling/shelf.pair[int, sapling/stock.entry]]", "internal/bytealg.abigen_runtime_cmpstring"], unfollowed := true, recurses := true, apart := false, narrowed := true }
def StageKeepsUptoSaid : Prop := stageKeepsUptoRow.holds Tryz.pinned (OpenSpec.upto stageKeepsSpec)

/-- 'saplinglaw16.StageFixes', WHERE WHAT IT READS IS OF BULK AT MOST 1048576: true; the input reads as it did. -/
def stageFixesUptoRow : OpenClaim := { program := "ytaagkndhgicifaagreat", sum := "c87fed6331c51a15db2b66ec958d55102e3296c8d6182a6c37608209132e6192", func := "sapling/saplinglaw16.StageFixes", spec := "stageFixes", inPlace := ["slices.overlaps[sapling/shelf.pair[string, *sapling/shelf.Shelf[int, sapling/stock.entry]]]", "slices.overlaps[sapling/shelf.pair[int, sapling/stock.entry]]", "internal/bytealg.abigen_runtime_cmpstring"], unfollowed := true, recurses := true, apart := false, narrowed := true }
def StageFixesUptoSaid : Prop := stageFixesUptoRow.holds Tryz.pinned (OpenSpec.upto stageFixesSpec)

/-- 'saplinglaw16.StageWide', WHERE WHAT IT READS IS OF BULK AT MOST 1048576: true; the input reads as it did. -/
def stageWideUptoRow : OpenClaim := { program := "ytaagkndhgicifaagreat", sum := "c87fed6331c51a15db2b66ec958d55102e3296c8d6182a6c37608209132e6192", func := "sapling/saplinglaw16.StageWide", spec := "stageWide", inPlace := ["slices.overlaps[sapling/shelf.pair[string, *sapling/shelf.Shelf[int, sapling/stock.entry]]]", "slices.overlaps[sapling/shelf.pair[int, sapling/stock.entry]]", "internal/bytealg.abigen_runtime_cmpstring"], unfollowed := true, recurses := true, apart := false, narrowed := true }
def StageWideUptoSaid : Prop := stageWideUptoRow.holds Tryz.pinned (OpenSpec.upto stageWideSpec)

/-- 'saplinglaw17.PlanMakes', WHERE WHAT IT READS IS OF BULK AT MOST 1048576: true; the input reads as it did. -/
def planMakesUptoRow : OpenClaim := { program := "ytaagkndhgicifaagreat", sum := "c87fed6331c51a15db2b66ec958d55102e3296c8d6182a6c37608209132e6192", func := "sapling/saplinglaw17.PlanMakes", spec := "planMakes", inPlace := ["slices.overlaps[sapling/shelf.pair[string, *sapling/shelf.Shelf[int, sapling/stock.entry]]]", "slices.overlaps[sapling/shelf.pair[int, sapling/stock.entry]]", "internal/bytealg.abigen_runtime_cmpstring"], unfollowed := true, recurses := true, apart := false, narrowed := true }
def PlanMakesUptoSaid : Prop := planMakesUptoRow.holds Tryz.pinned (OpenSpec.upto planMakesSpec)

/-- 'saplinglaw17.PlanWhole', WHERE WHAT IT READS IS OF BULK AT MOST 1048576: true; the input reads as it did. -/
def planWholeUptoRow : OpenClaim := { program := "ytaagkndhgicifaagreat", sum := "c87fed6331c51a15db2b66ec958d55102e3296c8d6182a6c37608209132e6192", func := "sapling/saplinglaw17.PlanWhole", spec := "planWhole", inPlace := ["slices.overlaps[sapling/shelf.pair[string, *sapling/shelf.Shelf[int, sapling/stock.entry]]]", "slices.overlaps[sapling/shelf.pair[int, sapling/stock.entry]]", "internal/bytealg.abigen_runtime_cmpstring"], unfollowed := true, recurses := true, apart := false, narrowed := true }
def PlanWholeUptoSaid : Prop := planWholeUptoRow.holds Tryz.pinned (OpenSpec.upto planWholeSpec)

/-- 'saplinglaw17.PlanMisses', WHERE WHAT IT READS IS OF BULK AT MOST 1048576: true; the input reads as it did. -/
def planMissesUptoRow : OpenClaim := { program := "ytaagkndhgicifaagreat", sum := "c87fed6331c51a15db2b66ec958d55102e3296c8d6182a6c37608209132e6192", func := "sapling/saplinglaw17.PlanMisses", spec := "planMisses", inPlace := ["slices.overlaps[sapling/shelf.pair[string, *sapling/shelf.Shelf[int, sapling/stock.entry]]]", "slices.overlaps[sapling/shelf.pair[int, sapling/stock.entry]]", "internal/bytealg.abigen_runtime_cmpstring"], unfollowed := true, recurses := true, apart := false, narrowed := true }
def PlanMissesUptoSaid : Prop := planMissesUptoRow.holds Tryz.pinned (OpenSpec.upto planMissesSpec)

/-- 'saplinglaw17.PlanKeeps', WHERE WHAT IT READS IS OF BULK AT MOST 1048576: true; the input reads as it did. -/
def planKeepsUptoRow : OpenClaim := { program := "ytaagkndhgicifaagreat", sum := "c87fed6331c51a15db2b66ec958d55102e3296c8d6182a6c37608209132e6192", func := "sapling/saplinglaw17.PlanKeeps", spec := "planKeeps", inPlace := ["slices.overlaps[sapling/shelf.pair[string, *sapling/shelf.Shelf[int, sapling/stock.entry]]]", "slices.overlaps[sapling/shelf.pair[int, sapling/stock.entry]]", "internal/bytealg.abigen_runtime_cmpstring"], unfollowed := true, recurses := true, apart := false, narrowed := true }
def PlanKeepsUptoSaid : Prop := planKeepsUptoRow.holds Tryz.pinned (OpenSpec.upto planKeepsSpec)

/-- 'saplinglaw17.PlanParts', WHERE WHAT IT READS IS OF BULK AT MOST 1048576: true; the input reads as it did. -/
def planPartsUptoRow : OpenClaim := { program := "ytaagkndhgicifaagreat", sum := "c87fed6331c51a15db2b66ec958d55102e3296c8d6182a6c37608209132e6192", func := "sapling/saplinglaw17.PlanParts", spec := "planParts", inPlace := ["slices.overlaps[sapling/shelf.pair[string, *sapling/shelf.Shelf[int, sapling/stock.entry]]]", "slices.overlaps[sapling/shelf.pair[int, sapling/stock.entry]]", "internal/bytealg.abigen_runtime_cmpstring"], unfollowed := true, recurses := true, apart := false, narrowed := true }
def PlanPartsUptoSaid : Prop := planPartsUptoRow.holds Tryz.pinned (OpenSpec.upto planPartsSpec)

end Rows
end Go.Proofs.YtaagkndhgicifaaGreat
