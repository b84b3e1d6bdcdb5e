/-
  DERIVED. GIVEN WITH THE SEED: THE CARDS: each row of YtjcimajkjnjdpabGreatDoorRows.lean that lists a variable, with what it lists TIED to the program's text (the seventh form; the later family's looks); each row that meets fmt, with fmt's text TOLD by the authors' own Lean function (tested against real Go, not proved from fmt's source: count such statements apart). THE CARD IS WHAT COUNTS. Prove the row's statement (the work); the ties are given (YtjcimajkjnjdpabGreatDoorTie.lean); close each card by the builder's one call (the guide's Derived/Test/ToyasCard.lean, 'card_holds'). Laid BY PROGRAM, IN A SANDBOX (cutbox-door.mjs). By AI agents, Wed Nov 11 2026. No macro, syntax, notation, axiom, sorry.
-/
import Derived.Test.YtjcimajkjnjdpabGreatDoorRows
import GoSem.ClaimSeven
namespace Go.Proofs.YtjcimajkjnjdpabGreatDoor
namespace Rows

/-- THE TIED CARD OF 'saplinglaw05.TreeBytes'. -/
def treeBytesCard : Claim7 := { stood := { row := treeBytesRow, standIns := [], harness := (true, "4bd1e83f6ce4b1f282f7a4c2f36cba5c57077edfe4c5cf99daac90e75515bc8b"), looks := false }, kinds := [], alts := [], laidByText := true, laidKinds := [.data, .data, .data, .data, .pinned], laidTests := true, laidLooks := .later }
def TreeBytesCardSaid : Prop := Claim7.holds Tryz.pinned (.plain (OpenSpec.ofChange treeBytesSpec)) treeBytesCard

/-- THE TIED CARD OF 'saplinglaw05.TreeBack'. -/
def treeBackCard : Claim7 := { stood := { row := treeBackRow, standIns := [], harness := (true, "4bd1e83f6ce4b1f282f7a4c2f36cba5c57077edfe4c5cf99daac90e75515bc8b"), looks := false }, kinds := [], alts := [], laidByText := true, laidKinds := [.data, .data, .data, .data, .pinned], laidTests := true, laidLooks := .later }
def TreeBackCardSaid : Prop := Claim7.holds Tryz.pinned (.plain (OpenSpec.ofChange treeBackSpec)) treeBackCard

/-- THE SECOND FORM's CARD OF 'saplinglaw05.TreeBytes'. -/
def treeBytesUptoCard : Claim7 := { stood := { row := treeBytesUptoRow, standIns := [], harness := (true, "4bd1e83f6ce4b1f282f7a4c2f36cba5c57077edfe4c5cf99daac90e75515bc8b"), looks := false }, kinds := [], alts := [], laidByText := true, laidKinds := [.data, .data, .data, .data, .pinned], laidTests := true, laidLooks := .later }
def TreeBytesUptoCardSaid : Prop := Claim7.holds Tryz.pinned (.plain (OpenSpec.upto treeBytesSpec)) treeBytesUptoCard

/-- THE SECOND FORM's CARD OF 'saplinglaw05.TreeBack'. -/
def treeBackUptoCard : Claim7 := { stood := { row := treeBackUptoRow, standIns := [], harness := (true, "4bd1e83f6ce4b1f282f7a4c2f36cba5c57077edfe4c5cf99daac90e75515bc8b"), looks := false }, kinds := [], alts := [], laidByText := true, laidKinds := [.data, .data, .data, .data, .pinned], laidTests := true, laidLooks := .later }
def TreeBackUptoCardSaid : Prop := Claim7.holds Tryz.pinned (.plain (OpenSpec.upto treeBackSpec)) treeBackUptoCard
end Rows
end Go.Proofs.YtjcimajkjnjdpabGreatDoor
