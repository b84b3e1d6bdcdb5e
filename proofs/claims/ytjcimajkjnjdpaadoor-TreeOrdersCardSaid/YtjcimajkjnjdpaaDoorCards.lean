/-
  DERIVED. GIVEN WITH THE SEED: THE CARDS: each row of YtjcimajkjnjdpaaDoorRows.lean that lists a variable, with what it lists TIED to the program's text (the seventh form; the later family's looks); each row that meets fmt, with fmt's text TOLD by the authors' own Lean function (tested against real Go, not proved from fmt's source: count such statements apart). THE CARD IS WHAT COUNTS. Prove the row's statement (the work); the ties are given (YtjcimajkjnjdpaaDoorTie.lean); close each card by the builder's one call (the guide's Derived/Test/ToyasCard.lean, 'card_holds'). Laid BY PROGRAM, IN A SANDBOX (cutbox-door.mjs). By AI agents, Wed Nov 11 2026. No macro, syntax, notation, axiom, sorry.
-/
import Derived.Test.YtjcimajkjnjdpaaDoorRows
import GoSem.ClaimSeven
namespace Go.Proofs.YtjcimajkjnjdpaaDoor
namespace Rows

/-- THE TIED CARD OF 'saplinglaw05.TreeOrders'. -/
def treeOrdersCard : Claim7 := { stood := { row := treeOrdersRow, standIns := [], harness := (true, "cbee21be2c2894f033b1d23d06768d056e4ff80436066a5319d37677786e6df4"), looks := false }, kinds := [], alts := [], laidByText := true, laidKinds := [.data, .data, .data, .data, .pinned], laidTests := true, laidLooks := .later }
def TreeOrdersCardSaid : Prop := Claim7.holds Tryd.pinned (.plain (OpenSpec.ofChange treeOrdersSpec)) treeOrdersCard

/-- THE TIED CARD OF 'saplinglaw05.TreeMounts'. -/
def treeMountsCard : Claim7 := { stood := { row := treeMountsRow, standIns := [], harness := (true, "cbee21be2c2894f033b1d23d06768d056e4ff80436066a5319d37677786e6df4"), looks := false }, kinds := [], alts := [], laidByText := true, laidKinds := [.data, .data, .data, .data, .pinned], laidTests := true, laidLooks := .later }
def TreeMountsCardSaid : Prop := Claim7.holds Tryd.pinned (.plain (OpenSpec.ofChange treeMountsSpec)) treeMountsCard

/-- THE SECOND FORM's CARD OF 'saplinglaw05.TreeOrders'. -/
def treeOrdersUptoCard : Claim7 := { stood := { row := treeOrdersUptoRow, standIns := [], harness := (true, "cbee21be2c2894f033b1d23d06768d056e4ff80436066a5319d37677786e6df4"), looks := false }, kinds := [], alts := [], laidByText := true, laidKinds := [.data, .data, .data, .data, .pinned], laidTests := true, laidLooks := .later }
def TreeOrdersUptoCardSaid : Prop := Claim7.holds Tryd.pinned (.plain (OpenSpec.upto treeOrdersSpec)) treeOrdersUptoCard

/-- THE SECOND FORM's CARD OF 'saplinglaw05.TreeMounts'. -/
def treeMountsUptoCard : Claim7 := { stood := { row := treeMountsUptoRow, standIns := [], harness := (true, "cbee21be2c2894f033b1d23d06768d056e4ff80436066a5319d37677786e6df4"), looks := false }, kinds := [], alts := [], laidByText := true, laidKinds := [.data, .data, .data, .data, .pinned], laidTests := true, laidLooks := .later }
def TreeMountsUptoCardSaid : Prop := Claim7.holds Tryd.pinned (.plain (OpenSpec.upto treeMountsSpec)) treeMountsUptoCard
end Rows
end Go.Proofs.YtjcimajkjnjdpaaDoor
