/-
  No cell of these rows narrows 'for every input' (looked for: loops, veiled, ifaces, maps, wideKeys, modest, calm, conditions, laid).
  DERIVED. THE GIVEN ROWS OF THIS SEAT. 4 by the template 'for every input the law returns true; each argument reads behind the call as it read before'; 0 by the template 'total and deterministic' (their statements: YtipindjchcmckaaTotals.lean).
  GIVEN WITH THE SEED: the statements are not yours to turn. If you find one false, say at which input.
  Laid BY PROGRAM, IN A SANDBOX (cutbox-rows.mjs): the forced cells as the released guide's own fill.sh prints them over the translation 2079bd0be0e8494c… (all of the seat's roots in one cut). By AI agents, Wed Nov 11 2026. No macro, syntax, notation, axiom, sorry.
-/
import Derived.Test.YtipindjchcmckaaChecked
import GoSem.Claim
import GoSem.ClaimJoined
import GoSem.ClaimMapViews
import Derived.JoinedTies
import Derived.KernelRfl
namespace Go.Proofs.Ytipindjchcmckaa
/- THE CELL 'sum', in the pinned program and in every row, IS THE sha256 OF THE DUMP (.gsa) THAT YtipindjchcmckaaProg.lean LOADS. Nothing in Lean hashes anything: it is a label: what it is worth is what the hold of that sum in a sandbox is worth. -/
noncomputable def Try.pinned : Pinned := { name := "ytipindjchcmckaa", sum := "2079bd0be0e8494c3ef5cb681f47dd2e3bc03d0763982e7d7b424dd849a1574b", checked := Try.checked }
namespace Rows
def none {H : Type} : Left H := { results := [], args := [] }

/-- 'saplinglaw21.CasDoes': WHATEVER THE INPUT: true; the input reads as it did. -/
def casDoesSpec : ChangeSpec := { name := "casDoes", fn := fun _ => fun
  | [d1, d2, d3] => { results := [.lit (.bool true)], args := [d1, d2, d3] }
  | _ => none }
def casDoesRow : OpenClaim := { program := "ytipindjchcmckaa", sum := "2079bd0be0e8494c3ef5cb681f47dd2e3bc03d0763982e7d7b424dd849a1574b", func := "sapling/saplinglaw21.CasDoes", spec := "casDoes", inPlace := ["slices.overlaps[sapling/shelf.pair[string, string]]"], unfollowed := true, recurses := true, apart := false }
def CasDoesSaid : Prop := casDoesRow.holds Try.pinned (OpenSpec.ofChange casDoesSpec)

/-- ITS FALSE NEIGHBOUR: 'it returns false'. Refute it at one input. -/
def casDoesWrong : ChangeSpec := { name := "casDoes", fn := fun _ => fun
  | [d1, d2, d3] => { results := [.lit (.bool false)], args := [d1, d2, d3] }
  | _ => none }
def CasDoesWrongFalsely : Prop := casDoesRow.holds Try.pinned (OpenSpec.ofChange casDoesWrong)

/-- 'saplinglaw21.CasHolds': WHATEVER THE INPUT: true; the input reads as it did. -/
def casHoldsSpec : ChangeSpec := { name := "casHolds", fn := fun _ => fun
  | [d1, d2] => { results := [.lit (.bool true)], args := [d1, d2] }
  | _ => none }
def casHoldsRow : OpenClaim := { program := "ytipindjchcmckaa", sum := "2079bd0be0e8494c3ef5cb681f47dd2e3bc03d0763982e7d7b424dd849a1574b", func := "sapling/saplinglaw21.CasHolds", spec := "casHolds", inPlace := ["slices.overlaps[sapling/shelf.pair[string, string]]"], unfollowed := true, recurses := true, apart := false }
def CasHoldsSaid : Prop := casHoldsRow.holds Try.pinned (OpenSpec.ofChange casHoldsSpec)

/-- ITS FALSE NEIGHBOUR: 'it returns false'. Refute it at one input. -/
def casHoldsWrong : ChangeSpec := { name := "casHolds", fn := fun _ => fun
  | [d1, d2] => { results := [.lit (.bool false)], args := [d1, d2] }
  | _ => none }
def CasHoldsWrongFalsely : Prop := casHoldsRow.holds Try.pinned (OpenSpec.ofChange casHoldsWrong)

/-- 'saplinglaw21.CasGoes': WHATEVER THE INPUT: true; the input reads as it did. -/
def casGoesSpec : ChangeSpec := { name := "casGoes", fn := fun _ => fun
  | [d1, d2, d3] => { results := [.lit (.bool true)], args := [d1, d2, d3] }
  | _ => none }
def casGoesRow : OpenClaim := { program := "ytipindjchcmckaa", sum := "2079bd0be0e8494c3ef5cb681f47dd2e3bc03d0763982e7d7b424dd849a1574b", func := "sapling/saplinglaw21.CasGoes", spec := "casGoes", inPlace := ["slices.overlaps[sapling/shelf.pair[string, string]]"], unfollowed := true, recurses := true, apart := false }
def CasGoesSaid : Prop := casGoesRow.holds Try.pinned (OpenSpec.ofChange casGoesSpec)

/-- ITS FALSE NEIGHBOUR: 'it returns false'. Refute it at one input. -/
def casGoesWrong : ChangeSpec := { name := "casGoes", fn := fun _ => fun
  | [d1, d2, d3] => { results := [.lit (.bool false)], args := [d1, d2, d3] }
  | _ => none }
def CasGoesWrongFalsely : Prop := casGoesRow.holds Try.pinned (OpenSpec.ofChange casGoesWrong)

/-- 'saplinglaw21.CasOrders': WHATEVER THE INPUT: true; the input reads as it did. -/
def casOrdersSpec : ChangeSpec := { name := "casOrders", fn := fun _ => fun
  | [d1, d2, d3] => { results := [.lit (.bool true)], args := [d1, d2, d3] }
  | _ => none }
def casOrdersRow : OpenClaim := { program := "ytipindjchcmckaa", sum := "2079bd0be0e8494c3ef5cb681f47dd2e3bc03d0763982e7d7b424dd849a1574b", func := "sapling/saplinglaw21.CasOrders", spec := "casOrders", inPlace := ["slices.overlaps[sapling/shelf.pair[string, string]]"], unfollowed := true, recurses := true, apart := false }
def CasOrdersSaid : Prop := casOrdersRow.holds Try.pinned (OpenSpec.ofChange casOrdersSpec)

/-- ITS FALSE NEIGHBOUR: 'it returns false'. Refute it at one input. -/
def casOrdersWrong : ChangeSpec := { name := "casOrders", fn := fun _ => fun
  | [d1, d2, d3] => { results := [.lit (.bool false)], args := [d1, d2, d3] }
  | _ => none }
def CasOrdersWrongFalsely : Prop := casOrdersRow.holds Try.pinned (OpenSpec.ofChange casOrdersWrong)

/- THE SECOND FORM. 'bulk': how many values and letters a reading holds, each counted each time it is reached (what is shared counts as often as it is met; a slice's spare places count too). A statement '..UptoSaid' is the law's where the arguments, and the package variables that the reading takes, are together of bulk at most 1048576: NARROWER than '..Said'. Prove '..Said' where nothing that the law and all that it calls make is longer than what came in: it says more and counts as full. Else prove '..UptoSaid'. A law counts once. -/
mutual
def uptoBulk {H : Type} : DataW H → Nat
  | .lit (.string bytes) => bytes.length + 1
  | .lit _ => 1
  | .nil => 1
  | .ptr d => uptoBulk d + 1
  | .slice elems spare => uptoBulkAll elems + uptoBulkAll spare + 1
  | .agg parts => uptoBulkAll parts + 1
  | .iface _ d => uptoBulk d + 1
  | .map entries => uptoBulkEntries entries + 1
  | .held _ => 1
def uptoBulkAll {H : Type} : List (DataW H) → Nat
  | [] => 0
  | d :: r => uptoBulk d + uptoBulkAll r
def uptoBulkEntries {H : Type} : List (Lit × DataW H) → Nat
  | [] => 0
  | x :: r => uptoBulkEntry x + uptoBulkEntries r
def uptoBulkEntry {H : Type} : Lit × DataW H → Nat
  | (.string bytes, d) => bytes.length + uptoBulk d + 1
  | (_, d) => uptoBulk d + 1
 end
def uptoSmall : (H : Type) → List (DataW H) → Bool := fun _ ds => decide (uptoBulkAll ds ≤ 1048576)
def OpenSpec.upto (s : _root_.Go.ChangeSpec) : _root_.Go.OpenSpec := { _root_.Go.OpenSpec.ofChange s with cond := some uptoSmall }

/-- 'saplinglaw21.CasDoes', WHERE WHAT IT READS IS OF BULK AT MOST 1048576: true; the input reads as it did. -/
def casDoesUptoRow : OpenClaim := { program := "ytipindjchcmckaa", sum := "2079bd0be0e8494c3ef5cb681f47dd2e3bc03d0763982e7d7b424dd849a1574b", func := "sapling/saplinglaw21.CasDoes", spec := "casDoes", inPlace := ["slices.overlaps[sapling/shelf.pair[string, string]]"], unfollowed := true, recurses := true, apart := false, narrowed := true }
def CasDoesUptoSaid : Prop := casDoesUptoRow.holds Try.pinned (OpenSpec.upto casDoesSpec)

/-- 'saplinglaw21.CasHolds', WHERE WHAT IT READS IS OF BULK AT MOST 1048576: true; the input reads as it did. -/
def casHoldsUptoRow : OpenClaim := { program := "ytipindjchcmckaa", sum := "2079bd0be0e8494c3ef5cb681f47dd2e3bc03d0763982e7d7b424dd849a1574b", func := "sapling/saplinglaw21.CasHolds", spec := "casHolds", inPlace := ["slices.overlaps[sapling/shelf.pair[string, string]]"], unfollowed := true, recurses := true, apart := false, narrowed := true }
def CasHoldsUptoSaid : Prop := casHoldsUptoRow.holds Try.pinned (OpenSpec.upto casHoldsSpec)

/-- 'saplinglaw21.CasGoes', WHERE WHAT IT READS IS OF BULK AT MOST 1048576: true; the input reads as it did. -/
def casGoesUptoRow : OpenClaim := { program := "ytipindjchcmckaa", sum := "2079bd0be0e8494c3ef5cb681f47dd2e3bc03d0763982e7d7b424dd849a1574b", func := "sapling/saplinglaw21.CasGoes", spec := "casGoes", inPlace := ["slices.overlaps[sapling/shelf.pair[string, string]]"], unfollowed := true, recurses := true, apart := false, narrowed := true }
def CasGoesUptoSaid : Prop := casGoesUptoRow.holds Try.pinned (OpenSpec.upto casGoesSpec)

/-- 'saplinglaw21.CasOrders', WHERE WHAT IT READS IS OF BULK AT MOST 1048576: true; the input reads as it did. -/
def casOrdersUptoRow : OpenClaim := { program := "ytipindjchcmckaa", sum := "2079bd0be0e8494c3ef5cb681f47dd2e3bc03d0763982e7d7b424dd849a1574b", func := "sapling/saplinglaw21.CasOrders", spec := "casOrders", inPlace := ["slices.overlaps[sapling/shelf.pair[string, string]]"], unfollowed := true, recurses := true, apart := false, narrowed := true }
def CasOrdersUptoSaid : Prop := casOrdersUptoRow.holds Try.pinned (OpenSpec.upto casOrdersSpec)

end Rows
end Go.Proofs.Ytipindjchcmckaa
