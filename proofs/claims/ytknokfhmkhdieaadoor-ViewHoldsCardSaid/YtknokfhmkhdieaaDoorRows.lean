/-
  NARROWER THAN 'FOR EVERY INPUT', by the rows' own cells (each row's printed sentence says how): ViewBuilds: laid · ViewOrders: laid · ViewOutside: laid · ViewHolds: laid · ViewOne: laid.
  DERIVED. THE GIVEN ROWS OF THIS SEAT. 5 by the template 'for every input the law returns true; each argument reads behind the call as it read before'; 0 by the template 'total and deterministic' (their statements: YtknokfhmkhdieaaDoorTotals.lean).
  GIVEN WITH THE SEED: the statements are not yours to turn. If you find one false, say at which input.
  Laid BY PROGRAM, IN A SANDBOX (cutbox-rows.mjs): the forced cells as the released guide's own fill.sh prints them over the translation 075ef703c7e4b5cd… (all of the seat's roots in one cut). By AI agents, Wed Nov 11 2026. No macro, syntax, notation, axiom, sorry.
-/
import Derived.Test.YtknokfhmkhdieaaDoorChecked
import GoSem.PinnedTables
import GoSem.Claim
import GoSem.ClaimJoined
import GoSem.ClaimMapViews
import Derived.JoinedTies
import Derived.KernelRfl
namespace Go.Proofs.YtknokfhmkhdieaaDoor
/- THE CELL 'sum', in the pinned program and in every row, IS THE sha256 OF THE DUMP (.gsa) THAT YtknokfhmkhdieaaDoorProg.lean LOADS. Nothing in Lean hashes anything: it is a label: what it is worth is what the hold of that sum in a sandbox is worth. -/
noncomputable def Tryd.pinned : Pinned := { name := "ytknokfhmkhdieaadoor", sum := "075ef703c7e4b5cd4f633001b9b65a56267fc055367b5a8a1177587d41427ad5", checked := Tryd.checked }
namespace Rows
def none {H : Type} : Left H := { results := [], args := [] }

/- WHAT THE LISTED PACKAGE-LEVEL VARIABLES READ AS WHEN THE CALL BEGINS. Each datum BY PROGRAM (the guide's laid-datum.mjs) off the statement by which the dump's own 'gosem.cut.vars' lays the variable. In a bare row this is a premise. The card (YtknokfhmkhdieaaDoorCards.lean) ties it to the program's text. -/
def laid_unicode_utf8_acceptRanges {H : Type} : DataW H := .agg [.agg [.lit (.int .u8 128), .lit (.int .u8 191)], .agg [.lit (.int .u8 160), .lit (.int .u8 191)], .agg [.lit (.int .u8 128), .lit (.int .u8 159)], .agg [.lit (.int .u8 144), .lit (.int .u8 191)], .agg [.lit (.int .u8 128), .lit (.int .u8 143)], .agg [.lit (.int .u8 0), .lit (.int .u8 0)], .agg [.lit (.int .u8 0), .lit (.int .u8 0)], .agg [.lit (.int .u8 0), .lit (.int .u8 0)], .agg [.lit (.int .u8 0), .lit (.int .u8 0)], .agg [.lit (.int .u8 0), .lit (.int .u8 0)], .agg [.lit (.int .u8 0), .lit (.int .u8 0)], .agg [.lit (.int .u8 0), .lit (.int .u8 0)], .agg [.lit (.int .u8 0), .lit (.int .u8 0)], .agg [.lit (.int .u8 0), .lit (.int .u8 0)], .agg [.lit (.int .u8 0), .lit (.int .u8 0)], .agg [.lit (.int .u8 0), .lit (.int .u8 0)]]
/-- One of Go's own tables, pinned by name: the form's constant. -/
def laid_unicode_utf8_first : DataW Unit := Go.Pinned.utf8First

/-- 'saplinglaw11.ViewBuilds': WHATEVER THE INPUT: true; the input reads as it did. -/
def viewBuildsSpec : ChangeSpec := { name := "viewBuilds", fn := fun _ => fun
  | [d] => { results := [.lit (.bool true)], args := [d] }
  | _ => none }
def viewBuildsRow : OpenClaim := { program := "ytknokfhmkhdieaadoor", sum := "075ef703c7e4b5cd4f633001b9b65a56267fc055367b5a8a1177587d41427ad5", func := "sapling/saplinglaw11.ViewBuilds", spec := "viewBuilds", inPlace := ["internal/bytealg.CountString", "internal/bytealg.IndexByteString", "internal/bytealg.IndexString", "internal/bytealg.abigen_runtime_cmpstring"], unfollowed := true, recurses := true, named := ["unicode/utf8.first", "unicode/utf8.acceptRanges", "internal/bytealg.MaxLen"], apart := false, laid := [("unicode/utf8.acceptRanges", laid_unicode_utf8_acceptRanges), ("unicode/utf8.first", laid_unicode_utf8_first)] }
def ViewBuildsSaid : Prop := viewBuildsRow.holds Tryd.pinned (OpenSpec.ofChange viewBuildsSpec)

/-- ITS FALSE NEIGHBOUR: 'it returns false'. Refute it at one input. -/
def viewBuildsWrong : ChangeSpec := { name := "viewBuilds", fn := fun _ => fun
  | [d] => { results := [.lit (.bool false)], args := [d] }
  | _ => none }
def ViewBuildsWrongFalsely : Prop := viewBuildsRow.holds Tryd.pinned (OpenSpec.ofChange viewBuildsWrong)

/-- 'saplinglaw11.ViewOrders': WHATEVER THE INPUT: true; the input reads as it did. -/
def viewOrdersSpec : ChangeSpec := { name := "viewOrders", fn := fun _ => fun
  | [d1, d2] => { results := [.lit (.bool true)], args := [d1, d2] }
  | _ => none }
def viewOrdersRow : OpenClaim := { program := "ytknokfhmkhdieaadoor", sum := "075ef703c7e4b5cd4f633001b9b65a56267fc055367b5a8a1177587d41427ad5", func := "sapling/saplinglaw11.ViewOrders", spec := "viewOrders", inPlace := ["internal/bytealg.CountString", "internal/bytealg.IndexByteString", "internal/bytealg.IndexString", "internal/bytealg.abigen_runtime_cmpstring"], unfollowed := true, recurses := true, named := ["unicode/utf8.first", "unicode/utf8.acceptRanges", "internal/bytealg.MaxLen"], apart := false, laid := [("unicode/utf8.acceptRanges", laid_unicode_utf8_acceptRanges), ("unicode/utf8.first", laid_unicode_utf8_first)] }
def ViewOrdersSaid : Prop := viewOrdersRow.holds Tryd.pinned (OpenSpec.ofChange viewOrdersSpec)

/-- ITS FALSE NEIGHBOUR: 'it returns false'. Refute it at one input. -/
def viewOrdersWrong : ChangeSpec := { name := "viewOrders", fn := fun _ => fun
  | [d1, d2] => { results := [.lit (.bool false)], args := [d1, d2] }
  | _ => none }
def ViewOrdersWrongFalsely : Prop := viewOrdersRow.holds Tryd.pinned (OpenSpec.ofChange viewOrdersWrong)

/-- 'saplinglaw11.ViewOutside': WHATEVER THE INPUT: true; the input reads as it did. -/
def viewOutsideSpec : ChangeSpec := { name := "viewOutside", fn := fun _ => fun
  | [d1, d2, d3] => { results := [.lit (.bool true)], args := [d1, d2, d3] }
  | _ => none }
def viewOutsideRow : OpenClaim := { program := "ytknokfhmkhdieaadoor", sum := "075ef703c7e4b5cd4f633001b9b65a56267fc055367b5a8a1177587d41427ad5", func := "sapling/saplinglaw11.ViewOutside", spec := "viewOutside", inPlace := ["internal/bytealg.CountString", "internal/bytealg.IndexByteString", "internal/bytealg.IndexString", "internal/bytealg.abigen_runtime_cmpstring"], unfollowed := true, recurses := true, named := ["unicode/utf8.first", "unicode/utf8.acceptRanges", "internal/bytealg.MaxLen"], apart := false, laid := [("unicode/utf8.acceptRanges", laid_unicode_utf8_acceptRanges), ("unicode/utf8.first", laid_unicode_utf8_first)] }
def ViewOutsideSaid : Prop := viewOutsideRow.holds Tryd.pinned (OpenSpec.ofChange viewOutsideSpec)

/-- ITS FALSE NEIGHBOUR: 'it returns false'. Refute it at one input. -/
def viewOutsideWrong : ChangeSpec := { name := "viewOutside", fn := fun _ => fun
  | [d1, d2, d3] => { results := [.lit (.bool false)], args := [d1, d2, d3] }
  | _ => none }
def ViewOutsideWrongFalsely : Prop := viewOutsideRow.holds Tryd.pinned (OpenSpec.ofChange viewOutsideWrong)

/-- 'saplinglaw11.ViewHolds': WHATEVER THE INPUT: true; the input reads as it did. -/
def viewHoldsSpec : ChangeSpec := { name := "viewHolds", fn := fun _ => fun
  | [d] => { results := [.lit (.bool true)], args := [d] }
  | _ => none }
def viewHoldsRow : OpenClaim := { program := "ytknokfhmkhdieaadoor", sum := "075ef703c7e4b5cd4f633001b9b65a56267fc055367b5a8a1177587d41427ad5", func := "sapling/saplinglaw11.ViewHolds", spec := "viewHolds", inPlace := ["internal/bytealg.CountString", "internal/bytealg.IndexByteString", "internal/bytealg.IndexString", "internal/bytealg.abigen_runtime_cmpstring"], unfollowed := true, recurses := true, named := ["unicode/utf8.first", "unicode/utf8.acceptRanges", "internal/bytealg.MaxLen"], apart := false, laid := [("unicode/utf8.acceptRanges", laid_unicode_utf8_acceptRanges), ("unicode/utf8.first", laid_unicode_utf8_first)] }
def ViewHoldsSaid : Prop := viewHoldsRow.holds Tryd.pinned (OpenSpec.ofChange viewHoldsSpec)

/-- ITS FALSE NEIGHBOUR: 'it returns false'. Refute it at one input. -/
def viewHoldsWrong : ChangeSpec := { name := "viewHolds", fn := fun _ => fun
  | [d] => { results := [.lit (.bool false)], args := [d] }
  | _ => none }
def ViewHoldsWrongFalsely : Prop := viewHoldsRow.holds Tryd.pinned (OpenSpec.ofChange viewHoldsWrong)

/-- 'saplinglaw11.ViewOne': WHATEVER THE INPUT: true; the input reads as it did. -/
def viewOneSpec : ChangeSpec := { name := "viewOne", fn := fun _ => fun
  | [d1, d2] => { results := [.lit (.bool true)], args := [d1, d2] }
  | _ => none }
def viewOneRow : OpenClaim := { program := "ytknokfhmkhdieaadoor", sum := "075ef703c7e4b5cd4f633001b9b65a56267fc055367b5a8a1177587d41427ad5", func := "sapling/saplinglaw11.ViewOne", spec := "viewOne", inPlace := ["internal/bytealg.CountString", "internal/bytealg.IndexByteString", "internal/bytealg.IndexString", "internal/bytealg.abigen_runtime_cmpstring"], unfollowed := true, recurses := true, named := ["unicode/utf8.first", "unicode/utf8.acceptRanges", "internal/bytealg.MaxLen"], apart := false, laid := [("unicode/utf8.acceptRanges", laid_unicode_utf8_acceptRanges), ("unicode/utf8.first", laid_unicode_utf8_first)] }
def ViewOneSaid : Prop := viewOneRow.holds Tryd.pinned (OpenSpec.ofChange viewOneSpec)

/-- ITS FALSE NEIGHBOUR: 'it returns false'. Refute it at one input. -/
def viewOneWrong : ChangeSpec := { name := "viewOne", fn := fun _ => fun
  | [d1, d2] => { results := [.lit (.bool false)], args := [d1, d2] }
  | _ => none }
def ViewOneWrongFalsely : Prop := viewOneRow.holds Tryd.pinned (OpenSpec.ofChange viewOneWrong)

/- THE SECOND FORM. 'bulk': how many values and letters a reading holds, each counted each time it is reached (what is shared counts as often as it is met; a slice's spare places count too). A statement '..UptoSaid' is the law's where the arguments, and the package variables that the reading takes, are together of bulk at most 1048576: NARROWER than '..Said'. Prove '..Said' where nothing that the law and all that it calls make is longer than what came in: it says more and counts as full. Else prove '..UptoSaid'. A law counts once. -/
mutual
def uptoBulk {H : Type} : DataW H → Nat
  | .lit (.string bytes) => bytes.length + 1
  | .lit _ => 1
  | .nil => 1
  | .ptr d => uptoBulk d + 1
  | .slice elems spare => uptoBulkAll elems + uptoBulkAll spare + 1
  | .agg parts => uptoBulkAll parts + 1
  | .iface _ d => uptoBulk d + 1
  | .map entries => uptoBulkEntries entries + 1
  | .held _ => 1
def uptoBulkAll {H : Type} : List (DataW H) → Nat
  | [] => 0
  | d :: r => uptoBulk d + uptoBulkAll r
def uptoBulkEntries {H : Type} : List (Lit × DataW H) → Nat
  | [] => 0
  | x :: r => uptoBulkEntry x + uptoBulkEntries r
def uptoBulkEntry {H : Type} : Lit × DataW H → Nat
  | (.string bytes, d) => bytes.length + uptoBulk d + 1
  | (_, d) => uptoBulk d + 1
 end
def uptoSmall : (H : Type) → List (DataW H) → Bool := fun _ ds => decide (uptoBulkAll ds ≤ 1048576)
def OpenSpec.upto (s : _root_.Go.ChangeSpec) : _root_.Go.OpenSpec := { _root_.Go.OpenSpec.ofChange s with cond := some uptoSmall }

/-- 'saplinglaw11.ViewBuilds', WHERE WHAT IT READS IS OF BULK AT MOST 1048576: true; the input reads as it did. -/
def viewBuildsUptoRow : OpenClaim := { program := "ytknokfhmkhdieaadoor", sum := "075ef703c7e4b5cd4f633001b9b65a56267fc055367b5a8a1177587d41427ad5", func := "sapling/saplinglaw11.ViewBuilds", spec := "viewBuilds", inPlace := ["internal/bytealg.CountString", "internal/bytealg.IndexByteString", "internal/bytealg.IndexString", "internal/bytealg.abigen_runtime_cmpstring"], unfollowed := true, recurses := true, named := ["unicode/utf8.first", "unicode/utf8.acceptRanges", "internal/bytealg.MaxLen"], apart := false, laid := [("unicode/utf8.acceptRanges", laid_unicode_utf8_acceptRanges), ("unicode/utf8.first", laid_unicode_utf8_first)], narrowed := true }
def ViewBuildsUptoSaid : Prop := viewBuildsUptoRow.holds Tryd.pinned (OpenSpec.upto viewBuildsSpec)

/-- 'saplinglaw11.ViewOrders', WHERE WHAT IT READS IS OF BULK AT MOST 1048576: true; the input reads as it did. -/
def viewOrdersUptoRow : OpenClaim := { program := "ytknokfhmkhdieaadoor", sum := "075ef703c7e4b5cd4f633001b9b65a56267fc055367b5a8a1177587d41427ad5", func := "sapling/saplinglaw11.ViewOrders", spec := "viewOrders", inPlace := ["internal/bytealg.CountString", "internal/bytealg.IndexByteString", "internal/bytealg.IndexString", "internal/bytealg.abigen_runtime_cmpstring"], unfollowed := true, recurses := true, named := ["unicode/utf8.first", "unicode/utf8.acceptRanges", "internal/bytealg.MaxLen"], apart := false, laid := [("unicode/utf8.acceptRanges", laid_unicode_utf8_acceptRanges), ("unicode/utf8.first", laid_unicode_utf8_first)], narrowed := true }
def ViewOrdersUptoSaid : Prop := viewOrdersUptoRow.holds Tryd.pinned (OpenSpec.upto viewOrdersSpec)

/-- 'saplinglaw11.ViewOutside', WHERE WHAT IT READS IS OF BULK AT MOST 1048576: true; the input reads as it did. -/
def viewOutsideUptoRow : OpenClaim := { program := "ytknokfhmkhdieaadoor", sum := "075ef703c7e4b5cd4f633001b9b65a56267fc055367b5a8a1177587d41427ad5", func := "sapling/saplinglaw11.ViewOutside", spec := "viewOutside", inPlace := ["internal/bytealg.CountString", "internal/bytealg.IndexByteString", "internal/bytealg.IndexString", "internal/bytealg.abigen_runtime_cmpstring"], unfollowed := true, recurses := true, named := ["unicode/utf8.first", "unicode/utf8.acceptRanges", "internal/bytealg.MaxLen"], apart := false, laid := [("unicode/utf8.acceptRanges", laid_unicode_utf8_acceptRanges), ("unicode/utf8.first", laid_unicode_utf8_first)], narrowed := true }
def ViewOutsideUptoSaid : Prop := viewOutsideUptoRow.holds Tryd.pinned (OpenSpec.upto viewOutsideSpec)

/-- 'saplinglaw11.ViewHolds', WHERE WHAT IT READS IS OF BULK AT MOST 1048576: true; the input reads as it did. -/
def viewHoldsUptoRow : OpenClaim := { program := "ytknokfhmkhdieaadoor", sum := "075ef703c7e4b5cd4f633001b9b65a56267fc055367b5a8a1177587d41427ad5", func := "sapling/saplinglaw11.ViewHolds", spec := "viewHolds", inPlace := ["internal/bytealg.CountString", "internal/bytealg.IndexByteString", "internal/bytealg.IndexString", "internal/bytealg.abigen_runtime_cmpstring"], unfollowed := true, recurses := true, named := ["unicode/utf8.first", "unicode/utf8.acceptRanges", "internal/bytealg.MaxLen"], apart := false, laid := [("unicode/utf8.acceptRanges", laid_unicode_utf8_acceptRanges), ("unicode/utf8.first", laid_unicode_utf8_first)], narrowed := true }
def ViewHoldsUptoSaid : Prop := viewHoldsUptoRow.holds Tryd.pinned (OpenSpec.upto viewHoldsSpec)

/-- 'saplinglaw11.ViewOne', WHERE WHAT IT READS IS OF BULK AT MOST 1048576: true; the input reads as it did. -/
def viewOneUptoRow : OpenClaim := { program := "ytknokfhmkhdieaadoor", sum := "075ef703c7e4b5cd4f633001b9b65a56267fc055367b5a8a1177587d41427ad5", func := "sapling/saplinglaw11.ViewOne", spec := "viewOne", inPlace := ["internal/bytealg.CountString", "internal/bytealg.IndexByteString", "internal/bytealg.IndexString", "internal/bytealg.abigen_runtime_cmpstring"], unfollowed := true, recurses := true, named := ["unicode/utf8.first", "unicode/utf8.acceptRanges", "internal/bytealg.MaxLen"], apart := false, laid := [("unicode/utf8.acceptRanges", laid_unicode_utf8_acceptRanges), ("unicode/utf8.first", laid_unicode_utf8_first)], narrowed := true }
def ViewOneUptoSaid : Prop := viewOneUptoRow.holds Tryd.pinned (OpenSpec.upto viewOneSpec)

end Rows
end Go.Proofs.YtknokfhmkhdieaaDoor
