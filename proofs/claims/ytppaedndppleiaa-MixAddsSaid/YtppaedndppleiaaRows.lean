/-
  No cell of these rows narrows 'for every input' (looked for: loops, veiled, ifaces, maps, wideKeys, modest, calm, conditions, laid).
  DERIVED. THE GIVEN ROWS OF THIS SEAT. 6 by the template 'for every input the law returns true; each argument reads behind the call as it read before'; 0 by the template 'total and deterministic' (their statements: YtppaedndppleiaaTotals.lean).
  GIVEN WITH THE SEED: the statements are not yours to turn. If you find one false, say at which input.
  Laid BY PROGRAM, IN A SANDBOX (cutbox-rows.mjs): the forced cells as the released guide's own fill.sh prints them over the translation c84155ffa69ddfb2… (all of the seat's roots in one cut). By AI agents, Wed Nov 11 2026. No macro, syntax, notation, axiom, sorry.
-/
import Derived.Test.YtppaedndppleiaaChecked
import GoSem.Claim
import GoSem.ClaimJoined
import GoSem.ClaimMapViews
import Derived.JoinedTies
import Derived.KernelRfl
namespace Go.Proofs.Ytppaedndppleiaa
/- THE CELL 'sum', in the pinned program and in every row, IS THE sha256 OF THE DUMP (.gsa) THAT YtppaedndppleiaaProg.lean LOADS. Nothing in Lean hashes anything: it is a label: what it is worth is what the hold of that sum in a sandbox is worth. -/
noncomputable def Try.pinned : Pinned := { name := "ytppaedndppleiaa", sum := "c84155ffa69ddfb21f96b2e47c4f6d8fbd5d8312626224f05979a15efd076e45", checked := Try.checked }
namespace Rows
def none {H : Type} : Left H := { results := [], args := [] }

/-- 'saplinglaw02.MixPieces': WHATEVER THE INPUT: true; the input reads as it did. -/
def mixPiecesSpec : ChangeSpec := { name := "mixPieces", fn := fun _ => fun
  | [d1, d2, d3] => { results := [.lit (.bool true)], args := [d1, d2, d3] }
  | _ => none }
def mixPiecesRow : OpenClaim := { program := "ytppaedndppleiaa", sum := "c84155ffa69ddfb21f96b2e47c4f6d8fbd5d8312626224f05979a15efd076e45", func := "sapling/saplinglaw02.MixPieces", spec := "mixPieces", inPlace := ["internal/bytealg.IndexByteString"], apart := false }
def MixPiecesSaid : Prop := mixPiecesRow.holds Try.pinned (OpenSpec.ofChange mixPiecesSpec)

/-- ITS FALSE NEIGHBOUR: 'it returns false'. Refute it at one input. -/
def mixPiecesWrong : ChangeSpec := { name := "mixPieces", fn := fun _ => fun
  | [d1, d2, d3] => { results := [.lit (.bool false)], args := [d1, d2, d3] }
  | _ => none }
def MixPiecesWrongFalsely : Prop := mixPiecesRow.holds Try.pinned (OpenSpec.ofChange mixPiecesWrong)

/-- 'saplinglaw02.MixSeeds': WHATEVER THE INPUT: true; the input reads as it did. -/
def mixSeedsSpec : ChangeSpec := { name := "mixSeeds", fn := fun _ => fun
  | [d1, d2, d3] => { results := [.lit (.bool true)], args := [d1, d2, d3] }
  | _ => none }
def mixSeedsRow : OpenClaim := { program := "ytppaedndppleiaa", sum := "c84155ffa69ddfb21f96b2e47c4f6d8fbd5d8312626224f05979a15efd076e45", func := "sapling/saplinglaw02.MixSeeds", spec := "mixSeeds", inPlace := ["internal/bytealg.IndexByteString"], apart := false }
def MixSeedsSaid : Prop := mixSeedsRow.holds Try.pinned (OpenSpec.ofChange mixSeedsSpec)

/-- ITS FALSE NEIGHBOUR: 'it returns false'. Refute it at one input. -/
def mixSeedsWrong : ChangeSpec := { name := "mixSeeds", fn := fun _ => fun
  | [d1, d2, d3] => { results := [.lit (.bool false)], args := [d1, d2, d3] }
  | _ => none }
def MixSeedsWrongFalsely : Prop := mixSeedsRow.holds Try.pinned (OpenSpec.ofChange mixSeedsWrong)

/-- 'saplinglaw02.MixTexts': WHATEVER THE INPUT: true; the input reads as it did. -/
def mixTextsSpec : ChangeSpec := { name := "mixTexts", fn := fun _ => fun
  | [d1, d2] => { results := [.lit (.bool true)], args := [d1, d2] }
  | _ => none }
def mixTextsRow : OpenClaim := { program := "ytppaedndppleiaa", sum := "c84155ffa69ddfb21f96b2e47c4f6d8fbd5d8312626224f05979a15efd076e45", func := "sapling/saplinglaw02.MixTexts", spec := "mixTexts", inPlace := ["internal/bytealg.IndexByteString"], apart := false }
def MixTextsSaid : Prop := mixTextsRow.holds Try.pinned (OpenSpec.ofChange mixTextsSpec)

/-- ITS FALSE NEIGHBOUR: 'it returns false'. Refute it at one input. -/
def mixTextsWrong : ChangeSpec := { name := "mixTexts", fn := fun _ => fun
  | [d1, d2] => { results := [.lit (.bool false)], args := [d1, d2] }
  | _ => none }
def MixTextsWrongFalsely : Prop := mixTextsRow.holds Try.pinned (OpenSpec.ofChange mixTextsWrong)

/-- 'saplinglaw02.MixTells': WHATEVER THE INPUT: true; the input reads as it did. -/
def mixTellsSpec : ChangeSpec := { name := "mixTells", fn := fun _ => fun
  | [d1, d2, d3] => { results := [.lit (.bool true)], args := [d1, d2, d3] }
  | _ => none }
def mixTellsRow : OpenClaim := { program := "ytppaedndppleiaa", sum := "c84155ffa69ddfb21f96b2e47c4f6d8fbd5d8312626224f05979a15efd076e45", func := "sapling/saplinglaw02.MixTells", spec := "mixTells", inPlace := ["internal/bytealg.IndexByteString"], apart := false }
def MixTellsSaid : Prop := mixTellsRow.holds Try.pinned (OpenSpec.ofChange mixTellsSpec)

/-- ITS FALSE NEIGHBOUR: 'it returns false'. Refute it at one input. -/
def mixTellsWrong : ChangeSpec := { name := "mixTells", fn := fun _ => fun
  | [d1, d2, d3] => { results := [.lit (.bool false)], args := [d1, d2, d3] }
  | _ => none }
def MixTellsWrongFalsely : Prop := mixTellsRow.holds Try.pinned (OpenSpec.ofChange mixTellsWrong)

/-- 'saplinglaw02.MixNarrows': WHATEVER THE INPUT: true; the input reads as it did. -/
def mixNarrowsSpec : ChangeSpec := { name := "mixNarrows", fn := fun _ => fun
  | [d1, d2, d3] => { results := [.lit (.bool true)], args := [d1, d2, d3] }
  | _ => none }
def mixNarrowsRow : OpenClaim := { program := "ytppaedndppleiaa", sum := "c84155ffa69ddfb21f96b2e47c4f6d8fbd5d8312626224f05979a15efd076e45", func := "sapling/saplinglaw02.MixNarrows", spec := "mixNarrows", inPlace := ["internal/bytealg.IndexByteString"], apart := false }
def MixNarrowsSaid : Prop := mixNarrowsRow.holds Try.pinned (OpenSpec.ofChange mixNarrowsSpec)

/-- ITS FALSE NEIGHBOUR: 'it returns false'. Refute it at one input. -/
def mixNarrowsWrong : ChangeSpec := { name := "mixNarrows", fn := fun _ => fun
  | [d1, d2, d3] => { results := [.lit (.bool false)], args := [d1, d2, d3] }
  | _ => none }
def MixNarrowsWrongFalsely : Prop := mixNarrowsRow.holds Try.pinned (OpenSpec.ofChange mixNarrowsWrong)

/-- 'saplinglaw02.MixAdds': WHATEVER THE INPUT: true; the input reads as it did. -/
def mixAddsSpec : ChangeSpec := { name := "mixAdds", fn := fun _ => fun
  | [d1, d2, d3] => { results := [.lit (.bool true)], args := [d1, d2, d3] }
  | _ => none }
def mixAddsRow : OpenClaim := { program := "ytppaedndppleiaa", sum := "c84155ffa69ddfb21f96b2e47c4f6d8fbd5d8312626224f05979a15efd076e45", func := "sapling/saplinglaw02.MixAdds", spec := "mixAdds", inPlace := ["internal/bytealg.IndexByteString"], apart := false }
def MixAddsSaid : Prop := mixAddsRow.holds Try.pinned (OpenSpec.ofChange mixAddsSpec)

/-- ITS FALSE NEIGHBOUR: 'it returns false'. Refute it at one input. -/
def mixAddsWrong : ChangeSpec := { name := "mixAdds", fn := fun _ => fun
  | [d1, d2, d3] => { results := [.lit (.bool false)], args := [d1, d2, d3] }
  | _ => none }
def MixAddsWrongFalsely : Prop := mixAddsRow.holds Try.pinned (OpenSpec.ofChange mixAddsWrong)

/- THE SECOND FORM. 'bulk': how many values and letters a reading holds, each counted each time it is reached (what is shared counts as often as it is met; a slice's spare places count too). A statement '..UptoSaid' is the law's where the arguments, and the package variables that the reading takes, are together of bulk at most 1048576: NARROWER than '..Said'. Prove '..Said' where nothing that the law and all that it calls make is longer than what came in: it says more and counts as full. Else prove '..UptoSaid'. A law counts once. -/
mutual
def uptoBulk {H : Type} : DataW H → Nat
  | .lit (.string bytes) => bytes.length + 1
  | .lit _ => 1
  | .nil => 1
  | .ptr d => uptoBulk d + 1
  | .slice elems spare => uptoBulkAll elems + uptoBulkAll spare + 1
  | .agg parts => uptoBulkAll parts + 1
  | .iface _ d => uptoBulk d + 1
  | .map entries => uptoBulkEntries entries + 1
  | .held _ => 1
def uptoBulkAll {H : Type} : List (DataW H) → Nat
  | [] => 0
  | d :: r => uptoBulk d + uptoBulkAll r
def uptoBulkEntries {H : Type} : List (Lit × DataW H) → Nat
  | [] => 0
  | x :: r => uptoBulkEntry x + uptoBulkEntries r
def uptoBulkEntry {H : Type} : Lit × DataW H → Nat
  | (.string bytes, d) => bytes.length + uptoBulk d + 1
  | (_, d) => uptoBulk d + 1
 end
def uptoSmall : (H : Type) → List (DataW H) → Bool := fun _ ds => decide (uptoBulkAll ds ≤ 1048576)
def OpenSpec.upto (s : _root_.Go.ChangeSpec) : _root_.Go.OpenSpec := { _root_.Go.OpenSpec.ofChange s with cond := some uptoSmall }

/-- 'saplinglaw02.MixPieces', WHERE WHAT IT READS IS OF BULK AT MOST 1048576: true; the input reads as it did. -/
def mixPiecesUptoRow : OpenClaim := { program := "ytppaedndppleiaa", sum := "c84155ffa69ddfb21f96b2e47c4f6d8fbd5d8312626224f05979a15efd076e45", func := "sapling/saplinglaw02.MixPieces", spec := "mixPieces", inPlace := ["internal/bytealg.IndexByteString"], apart := false, narrowed := true }
def MixPiecesUptoSaid : Prop := mixPiecesUptoRow.holds Try.pinned (OpenSpec.upto mixPiecesSpec)

/-- 'saplinglaw02.MixSeeds', WHERE WHAT IT READS IS OF BULK AT MOST 1048576: true; the input reads as it did. -/
def mixSeedsUptoRow : OpenClaim := { program := "ytppaedndppleiaa", sum := "c84155ffa69ddfb21f96b2e47c4f6d8fbd5d8312626224f05979a15efd076e45", func := "sapling/saplinglaw02.MixSeeds", spec := "mixSeeds", inPlace := ["internal/bytealg.IndexByteString"], apart := false, narrowed := true }
def MixSeedsUptoSaid : Prop := mixSeedsUptoRow.holds Try.pinned (OpenSpec.upto mixSeedsSpec)

/-- 'saplinglaw02.MixTexts', WHERE WHAT IT READS IS OF BULK AT MOST 1048576: true; the input reads as it did. -/
def mixTextsUptoRow : OpenClaim := { program := "ytppaedndppleiaa", sum := "c84155ffa69ddfb21f96b2e47c4f6d8fbd5d8312626224f05979a15efd076e45", func := "sapling/saplinglaw02.MixTexts", spec := "mixTexts", inPlace := ["internal/bytealg.IndexByteString"], apart := false, narrowed := true }
def MixTextsUptoSaid : Prop := mixTextsUptoRow.holds Try.pinned (OpenSpec.upto mixTextsSpec)

/-- 'saplinglaw02.MixTells', WHERE WHAT IT READS IS OF BULK AT MOST 1048576: true; the input reads as it did. -/
def mixTellsUptoRow : OpenClaim := { program := "ytppaedndppleiaa", sum := "c84155ffa69ddfb21f96b2e47c4f6d8fbd5d8312626224f05979a15efd076e45", func := "sapling/saplinglaw02.MixTells", spec := "mixTells", inPlace := ["internal/bytealg.IndexByteString"], apart := false, narrowed := true }
def MixTellsUptoSaid : Prop := mixTellsUptoRow.holds Try.pinned (OpenSpec.upto mixTellsSpec)

/-- 'saplinglaw02.MixNarrows', WHERE WHAT IT READS IS OF BULK AT MOST 1048576: true; the input reads as it did. -/
def mixNarrowsUptoRow : OpenClaim := { program := "ytppaedndppleiaa", sum := "c84155ffa69ddfb21f96b2e47c4f6d8fbd5d8312626224f05979a15efd076e45", func := "sapling/saplinglaw02.MixNarrows", spec := "mixNarrows", inPlace := ["internal/bytealg.IndexByteString"], apart := false, narrowed := true }
def MixNarrowsUptoSaid : Prop := mixNarrowsUptoRow.holds Try.pinned (OpenSpec.upto mixNarrowsSpec)

/-- 'saplinglaw02.MixAdds', WHERE WHAT IT READS IS OF BULK AT MOST 1048576: true; the input reads as it did. -/
def mixAddsUptoRow : OpenClaim := { program := "ytppaedndppleiaa", sum := "c84155ffa69ddfb21f96b2e47c4f6d8fbd5d8312626224f05979a15efd076e45", func := "sapling/saplinglaw02.MixAdds", spec := "mixAdds", inPlace := ["internal/bytealg.IndexByteString"], apart := false, narrowed := true }
def MixAddsUptoSaid : Prop := mixAddsUptoRow.holds Try.pinned (OpenSpec.upto mixAddsSpec)

end Rows
end Go.Proofs.Ytppaedndppleiaa
