/-
  DERIVED. GIVEN WITH THE SEED: THE CARDS: each row of YtjcimajkjnjdpaaGreatDoorRows.lean that lists a variable, with what it lists TIED to the program's text (the seventh form; the later family's looks); each row that meets fmt, with fmt's text TOLD by the authors' own Lean function (tested against real Go, not proved from fmt's source: count such statements apart). THE CARD IS WHAT COUNTS. Prove the row's statement (the work); the ties are given (YtjcimajkjnjdpaaGreatDoorTie.lean); close each card by the builder's one call (the guide's Derived/Test/ToyasCard.lean, 'card_holds'). Laid BY PROGRAM, IN A SANDBOX (cutbox-door.mjs). By AI agents, Wed Nov 11 2026. No macro, syntax, notation, axiom, sorry.
-/
import Derived.Test.YtjcimajkjnjdpaaGreatDoorRows
import GoSem.ClaimSeven
namespace Go.Proofs.YtjcimajkjnjdpaaGreatDoor
namespace Rows

/-- THE TIED CARD OF 'saplinglaw05.TreeMakes'. -/
def treeMakesCard : Claim7 := { stood := { row := treeMakesRow, standIns := [], harness := (true, "1766715f084c88e36c0664704cbcd6b5f8cbc37387c17f840dc61e67db31faa3"), looks := false }, kinds := [], alts := [], laidByText := true, laidKinds := [.data, .data, .data, .data, .pinned], laidTests := true, laidLooks := .later }
def TreeMakesCardSaid : Prop := Claim7.holds Tryz.pinned (.plain (OpenSpec.ofChange treeMakesSpec)) treeMakesCard

/-- THE TIED CARD OF 'saplinglaw05.TreeReads'. -/
def treeReadsCard : Claim7 := { stood := { row := treeReadsRow, standIns := [], harness := (true, "1766715f084c88e36c0664704cbcd6b5f8cbc37387c17f840dc61e67db31faa3"), looks := false }, kinds := [], alts := [], laidByText := true, laidKinds := [.data, .data, .data, .data, .pinned], laidTests := true, laidLooks := .later }
def TreeReadsCardSaid : Prop := Claim7.holds Tryz.pinned (.plain (OpenSpec.ofChange treeReadsSpec)) treeReadsCard

/-- THE TIED CARD OF 'saplinglaw05.TreeKeeps'. -/
def treeKeepsCard : Claim7 := { stood := { row := treeKeepsRow, standIns := [], harness := (true, "1766715f084c88e36c0664704cbcd6b5f8cbc37387c17f840dc61e67db31faa3"), looks := false }, kinds := [], alts := [], laidByText := true, laidKinds := [.data, .data, .data, .data, .pinned], laidTests := true, laidLooks := .later }
def TreeKeepsCardSaid : Prop := Claim7.holds Tryz.pinned (.plain (OpenSpec.ofChange treeKeepsSpec)) treeKeepsCard

/-- THE TIED CARD OF 'saplinglaw05.TreeDoes'. -/
def treeDoesCard : Claim7 := { stood := { row := treeDoesRow, standIns := [], harness := (true, "1766715f084c88e36c0664704cbcd6b5f8cbc37387c17f840dc61e67db31faa3"), looks := false }, kinds := [], alts := [], laidByText := true, laidKinds := [.data, .data, .data, .data, .pinned], laidTests := true, laidLooks := .later }
def TreeDoesCardSaid : Prop := Claim7.holds Tryz.pinned (.plain (OpenSpec.ofChange treeDoesSpec)) treeDoesCard

/-- THE SECOND FORM's CARD OF 'saplinglaw05.TreeMakes'. -/
def treeMakesUptoCard : Claim7 := { stood := { row := treeMakesUptoRow, standIns := [], harness := (true, "1766715f084c88e36c0664704cbcd6b5f8cbc37387c17f840dc61e67db31faa3"), looks := false }, kinds := [], alts := [], laidByText := true, laidKinds := [.data, .data, .data, .data, .pinned], laidTests := true, laidLooks := .later }
def TreeMakesUptoCardSaid : Prop := Claim7.holds Tryz.pinned (.plain (OpenSpec.upto treeMakesSpec)) treeMakesUptoCard

/-- THE SECOND FORM's CARD OF 'saplinglaw05.TreeReads'. -/
def treeReadsUptoCard : Claim7 := { stood := { row := treeReadsUptoRow, standIns := [], harness := (true, "1766715f084c88e36c0664704cbcd6b5f8cbc37387c17f840dc61e67db31faa3"), looks := false }, kinds := [], alts := [], laidByText := true, laidKinds := [.data, .data, .data, .data, .pinned], laidTests := true, laidLooks := .later }
def TreeReadsUptoCardSaid : Prop := Claim7.holds Tryz.pinned (.plain (OpenSpec.upto treeReadsSpec)) treeReadsUptoCard

/-- THE SECOND FORM's CARD OF 'saplinglaw05.TreeKeeps'. -/
def treeKeepsUptoCard : Claim7 := { stood := { row := treeKeepsUptoRow, standIns := [], harness := (true, "1766715f084c88e36c0664704cbcd6b5f8cbc37387c17f840dc61e67db31faa3"), looks := false }, kinds := [], alts := [], laidByText := true, laidKinds := [.data, .data, .data, .data, .pinned], laidTests := true, laidLooks := .later }
def TreeKeepsUptoCardSaid : Prop := Claim7.holds Tryz.pinned (.plain (OpenSpec.upto treeKeepsSpec)) treeKeepsUptoCard

/-- THE SECOND FORM's CARD OF 'saplinglaw05.TreeDoes'. -/
def treeDoesUptoCard : Claim7 := { stood := { row := treeDoesUptoRow, standIns := [], harness := (true, "1766715f084c88e36c0664704cbcd6b5f8cbc37387c17f840dc61e67db31faa3"), looks := false }, kinds := [], alts := [], laidByText := true, laidKinds := [.data, .data, .data, .data, .pinned], laidTests := true, laidLooks := .later }
def TreeDoesUptoCardSaid : Prop := Claim7.holds Tryz.pinned (.plain (OpenSpec.upto treeDoesSpec)) treeDoesUptoCard
end Rows
end Go.Proofs.YtjcimajkjnjdpaaGreatDoor
