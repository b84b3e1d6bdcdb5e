/-
  No cell of these rows narrows 'for every input' (looked for: loops, veiled, ifaces, maps, wideKeys, modest, calm, conditions, laid).
  DERIVED. THE GIVEN ROWS OF THIS SEAT. 5 by the template 'for every input the law returns true; each argument reads behind the call as it read before'; 0 by the template 'total and deterministic' (their statements: YtebeafpoblhlhaaTotals.lean).
  GIVEN WITH THE SEED: the statements are not yours to turn. If you find one false, say at which input.
  Laid BY PROGRAM, IN A SANDBOX (cutbox-rows.mjs): the forced cells as the released guide's own fill.sh prints them over the translation 560122ce5823b500… (all of the seat's roots in one cut). By AI agents, Wed Nov 11 2026. No macro, syntax, notation, axiom, sorry.
-/
import Derived.Test.YtebeafpoblhlhaaChecked
import GoSem.Claim
import GoSem.ClaimJoined
import GoSem.ClaimMapViews
import Derived.JoinedTies
import Derived.KernelRfl
namespace Go.Proofs.Ytebeafpoblhlhaa
/- THE CELL 'sum', in the pinned program and in every row, IS THE sha256 OF THE DUMP (.gsa) THAT YtebeafpoblhlhaaProg.lean LOADS. Nothing in Lean hashes anything: it is a label: what it is worth is what the hold of that sum in a sandbox is worth. -/
noncomputable def Try.pinned : Pinned := { name := "ytebeafpoblhlhaa", sum := "560122ce5823b500a319a1f60f554418324192032e7f1e6d25f33ccb3c2dbd7f", checked := Try.checked }
namespace Rows
def none {H : Type} : Left H := { results := [], args := [] }

/-- 'saplinglaw19.RibbonKeeps': WHATEVER THE INPUT: true; the input reads as it did. -/
def ribbonKeepsSpec : ChangeSpec := { name := "ribbonKeeps", fn := fun _ => fun
  | [d1, d2] => { results := [.lit (.bool true)], args := [d1, d2] }
  | _ => none }
def ribbonKeepsRow : OpenClaim := { program := "ytebeafpoblhlhaa", sum := "560122ce5823b500a319a1f60f554418324192032e7f1e6d25f33ccb3c2dbd7f", func := "sapling/saplinglaw19.RibbonKeeps", spec := "ribbonKeeps", apart := false }
def RibbonKeepsSaid : Prop := ribbonKeepsRow.holds Try.pinned (OpenSpec.ofChange ribbonKeepsSpec)

/-- ITS FALSE NEIGHBOUR: 'it returns false'. Refute it at one input. -/
def ribbonKeepsWrong : ChangeSpec := { name := "ribbonKeeps", fn := fun _ => fun
  | [d1, d2] => { results := [.lit (.bool false)], args := [d1, d2] }
  | _ => none }
def RibbonKeepsWrongFalsely : Prop := ribbonKeepsRow.holds Try.pinned (OpenSpec.ofChange ribbonKeepsWrong)

/-- 'saplinglaw19.RibbonSafe': WHATEVER THE INPUT: true; the input reads as it did. -/
def ribbonSafeSpec : ChangeSpec := { name := "ribbonSafe", fn := fun _ => fun
  | [d1, d2, d3] => { results := [.lit (.bool true)], args := [d1, d2, d3] }
  | _ => none }
def ribbonSafeRow : OpenClaim := { program := "ytebeafpoblhlhaa", sum := "560122ce5823b500a319a1f60f554418324192032e7f1e6d25f33ccb3c2dbd7f", func := "sapling/saplinglaw19.RibbonSafe", spec := "ribbonSafe", apart := false }
def RibbonSafeSaid : Prop := ribbonSafeRow.holds Try.pinned (OpenSpec.ofChange ribbonSafeSpec)

/-- ITS FALSE NEIGHBOUR: 'it returns false'. Refute it at one input. -/
def ribbonSafeWrong : ChangeSpec := { name := "ribbonSafe", fn := fun _ => fun
  | [d1, d2, d3] => { results := [.lit (.bool false)], args := [d1, d2, d3] }
  | _ => none }
def RibbonSafeWrongFalsely : Prop := ribbonSafeRow.holds Try.pinned (OpenSpec.ofChange ribbonSafeWrong)

/-- 'saplinglaw19.RibbonCuts': WHATEVER THE INPUT: true; the input reads as it did. -/
def ribbonCutsSpec : ChangeSpec := { name := "ribbonCuts", fn := fun _ => fun
  | [d1, d2, d3, d4] => { results := [.lit (.bool true)], args := [d1, d2, d3, d4] }
  | _ => none }
def ribbonCutsRow : OpenClaim := { program := "ytebeafpoblhlhaa", sum := "560122ce5823b500a319a1f60f554418324192032e7f1e6d25f33ccb3c2dbd7f", func := "sapling/saplinglaw19.RibbonCuts", spec := "ribbonCuts", apart := false }
def RibbonCutsSaid : Prop := ribbonCutsRow.holds Try.pinned (OpenSpec.ofChange ribbonCutsSpec)

/-- ITS FALSE NEIGHBOUR: 'it returns false'. Refute it at one input. -/
def ribbonCutsWrong : ChangeSpec := { name := "ribbonCuts", fn := fun _ => fun
  | [d1, d2, d3, d4] => { results := [.lit (.bool false)], args := [d1, d2, d3, d4] }
  | _ => none }
def RibbonCutsWrongFalsely : Prop := ribbonCutsRow.holds Try.pinned (OpenSpec.ofChange ribbonCutsWrong)

/-- 'saplinglaw19.RibbonDoes': WHATEVER THE INPUT: true; the input reads as it did. -/
def ribbonDoesSpec : ChangeSpec := { name := "ribbonDoes", fn := fun _ => fun
  | [d1, d2] => { results := [.lit (.bool true)], args := [d1, d2] }
  | _ => none }
def ribbonDoesRow : OpenClaim := { program := "ytebeafpoblhlhaa", sum := "560122ce5823b500a319a1f60f554418324192032e7f1e6d25f33ccb3c2dbd7f", func := "sapling/saplinglaw19.RibbonDoes", spec := "ribbonDoes", apart := false }
def RibbonDoesSaid : Prop := ribbonDoesRow.holds Try.pinned (OpenSpec.ofChange ribbonDoesSpec)

/-- ITS FALSE NEIGHBOUR: 'it returns false'. Refute it at one input. -/
def ribbonDoesWrong : ChangeSpec := { name := "ribbonDoes", fn := fun _ => fun
  | [d1, d2] => { results := [.lit (.bool false)], args := [d1, d2] }
  | _ => none }
def RibbonDoesWrongFalsely : Prop := ribbonDoesRow.holds Try.pinned (OpenSpec.ofChange ribbonDoesWrong)

/-- 'saplinglaw20.LogReads': WHATEVER THE INPUT: true; the input reads as it did. -/
def logReadsSpec : ChangeSpec := { name := "logReads", fn := fun _ => fun
  | [d1, d2, d3, d4] => { results := [.lit (.bool true)], args := [d1, d2, d3, d4] }
  | _ => none }
def logReadsRow : OpenClaim := { program := "ytebeafpoblhlhaa", sum := "560122ce5823b500a319a1f60f554418324192032e7f1e6d25f33ccb3c2dbd7f", func := "sapling/saplinglaw20.LogReads", spec := "logReads", apart := false }
def LogReadsSaid : Prop := logReadsRow.holds Try.pinned (OpenSpec.ofChange logReadsSpec)

/-- ITS FALSE NEIGHBOUR: 'it returns false'. Refute it at one input. -/
def logReadsWrong : ChangeSpec := { name := "logReads", fn := fun _ => fun
  | [d1, d2, d3, d4] => { results := [.lit (.bool false)], args := [d1, d2, d3, d4] }
  | _ => none }
def LogReadsWrongFalsely : Prop := logReadsRow.holds Try.pinned (OpenSpec.ofChange logReadsWrong)

/- THE SECOND FORM. 'bulk': how many values and letters a reading holds, each counted each time it is reached (what is shared counts as often as it is met; a slice's spare places count too). A statement '..UptoSaid' is the law's where the arguments, and the package variables that the reading takes, are together of bulk at most 1048576: NARROWER than '..Said'. Prove '..Said' where nothing that the law and all that it calls make is longer than what came in: it says more and counts as full. Else prove '..UptoSaid'. A law counts once. -/
mutual
def uptoBulk {H : Type} : DataW H → Nat
  | .lit (.string bytes) => bytes.length + 1
  | .lit _ => 1
  | .nil => 1
  | .ptr d => uptoBulk d + 1
  | .slice elems spare => uptoBulkAll elems + uptoBulkAll spare + 1
  | .agg parts => uptoBulkAll parts + 1
  | .iface _ d => uptoBulk d + 1
  | .map entries => uptoBulkEntries entries + 1
  | .held _ => 1
def uptoBulkAll {H : Type} : List (DataW H) → Nat
  | [] => 0
  | d :: r => uptoBulk d + uptoBulkAll r
def uptoBulkEntries {H : Type} : List (Lit × DataW H) → Nat
  | [] => 0
  | x :: r => uptoBulkEntry x + uptoBulkEntries r
def uptoBulkEntry {H : Type} : Lit × DataW H → Nat
  | (.string bytes, d) => bytes.length + uptoBulk d + 1
  | (_, d) => uptoBulk d + 1
 end
def uptoSmall : (H : Type) → List (DataW H) → Bool := fun _ ds => decide (uptoBulkAll ds ≤ 1048576)
def OpenSpec.upto (s : _root_.Go.ChangeSpec) : _root_.Go.OpenSpec := { _root_.Go.OpenSpec.ofChange s with cond := some uptoSmall }

/-- 'saplinglaw19.RibbonKeeps', WHERE WHAT IT READS IS OF BULK AT MOST 1048576: true; the input reads as it did. -/
def ribbonKeepsUptoRow : OpenClaim := { program := "ytebeafpoblhlhaa", sum := "560122ce5823b500a319a1f60f554418324192032e7f1e6d25f33ccb3c2dbd7f", func := "sapling/saplinglaw19.RibbonKeeps", spec := "ribbonKeeps", apart := false, narrowed := true }
def RibbonKeepsUptoSaid : Prop := ribbonKeepsUptoRow.holds Try.pinned (OpenSpec.upto ribbonKeepsSpec)

/-- 'saplinglaw19.RibbonSafe', WHERE WHAT IT READS IS OF BULK AT MOST 1048576: true; the input reads as it did. -/
def ribbonSafeUptoRow : OpenClaim := { program := "ytebeafpoblhlhaa", sum := "560122ce5823b500a319a1f60f554418324192032e7f1e6d25f33ccb3c2dbd7f", func := "sapling/saplinglaw19.RibbonSafe", spec := "ribbonSafe", apart := false, narrowed := true }
def RibbonSafeUptoSaid : Prop := ribbonSafeUptoRow.holds Try.pinned (OpenSpec.upto ribbonSafeSpec)

/-- 'saplinglaw19.RibbonCuts', WHERE WHAT IT READS IS OF BULK AT MOST 1048576: true; the input reads as it did. -/
def ribbonCutsUptoRow : OpenClaim := { program := "ytebeafpoblhlhaa", sum := "560122ce5823b500a319a1f60f554418324192032e7f1e6d25f33ccb3c2dbd7f", func := "sapling/saplinglaw19.RibbonCuts", spec := "ribbonCuts", apart := false, narrowed := true }
def RibbonCutsUptoSaid : Prop := ribbonCutsUptoRow.holds Try.pinned (OpenSpec.upto ribbonCutsSpec)

/-- 'saplinglaw19.RibbonDoes', WHERE WHAT IT READS IS OF BULK AT MOST 1048576: true; the input reads as it did. -/
def ribbonDoesUptoRow : OpenClaim := { program := "ytebeafpoblhlhaa", sum := "560122ce5823b500a319a1f60f554418324192032e7f1e6d25f33ccb3c2dbd7f", func := "sapling/saplinglaw19.RibbonDoes", spec := "ribbonDoes", apart := false, narrowed := true }
def RibbonDoesUptoSaid : Prop := ribbonDoesUptoRow.holds Try.pinned (OpenSpec.upto ribbonDoesSpec)

/-- 'saplinglaw20.LogReads', WHERE WHAT IT READS IS OF BULK AT MOST 1048576: true; the input reads as it did. -/
def logReadsUptoRow : OpenClaim := { program := "ytebeafpoblhlhaa", sum := "560122ce5823b500a319a1f60f554418324192032e7f1e6d25f33ccb3c2dbd7f", func := "sapling/saplinglaw20.LogReads", spec := "logReads", apart := false, narrowed := true }
def LogReadsUptoSaid : Prop := logReadsUptoRow.holds Try.pinned (OpenSpec.upto logReadsSpec)

end Rows
end Go.Proofs.Ytebeafpoblhlhaa
