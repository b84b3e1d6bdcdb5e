/-
  DERIVED. GIVEN WITH THE SEED: THE CARDS: each row of YtnekmmknjhflgabDoorRows.lean that lists a variable, with what it lists TIED to the program's text (the seventh form; the later family's looks); each row that meets fmt, with fmt's text TOLD by the authors' own Lean function (tested against real Go, not proved from fmt's source: count such statements apart). THE CARD IS WHAT COUNTS. Prove the row's statement (the work); the ties are given (YtnekmmknjhflgabDoorTie.lean); close each card by the builder's one call (the guide's Derived/Test/ToyasCard.lean, 'card_holds'). Laid BY PROGRAM, IN A SANDBOX (cutbox-door.mjs). By AI agents, Wed Nov 11 2026. No macro, syntax, notation, axiom, sorry.
-/
import Derived.Test.YtnekmmknjhflgabDoorRows
import GoSem.ClaimSeven
namespace Go.Proofs.YtnekmmknjhflgabDoor
namespace Rows

/-- THE TIED CARD OF 'saplinglaw01.SexpCuts'. -/
def sexpCutsCard : Claim7 := { stood := { row := sexpCutsRow, standIns := [], harness := (true, "d71c11501ba5b036cce45e0408ba0db39e517e0cc46ba1f6adf753728329ba88"), looks := false }, kinds := [], alts := [], laidByText := true, laidKinds := [.data, .data, .data], laidTests := true, laidLooks := .later }
def SexpCutsCardSaid : Prop := Claim7.holds Tryd.pinned (.plain (OpenSpec.ofChange sexpCutsSpec)) sexpCutsCard

/-- THE TIED CARD OF 'saplinglaw01.SexpLists'. -/
def sexpListsCard : Claim7 := { stood := { row := sexpListsRow, standIns := [], harness := (true, "d71c11501ba5b036cce45e0408ba0db39e517e0cc46ba1f6adf753728329ba88"), looks := false }, kinds := [], alts := [], laidByText := true, laidKinds := [.data, .data, .data], laidTests := true, laidLooks := .later }
def SexpListsCardSaid : Prop := Claim7.holds Tryd.pinned (.plain (OpenSpec.ofChange sexpListsSpec)) sexpListsCard

/-- THE SECOND FORM's CARD OF 'saplinglaw01.SexpCuts'. -/
def sexpCutsUptoCard : Claim7 := { stood := { row := sexpCutsUptoRow, standIns := [], harness := (true, "d71c11501ba5b036cce45e0408ba0db39e517e0cc46ba1f6adf753728329ba88"), looks := false }, kinds := [], alts := [], laidByText := true, laidKinds := [.data, .data, .data], laidTests := true, laidLooks := .later }
def SexpCutsUptoCardSaid : Prop := Claim7.holds Tryd.pinned (.plain (OpenSpec.upto sexpCutsSpec)) sexpCutsUptoCard

/-- THE SECOND FORM's CARD OF 'saplinglaw01.SexpLists'. -/
def sexpListsUptoCard : Claim7 := { stood := { row := sexpListsUptoRow, standIns := [], harness := (true, "d71c11501ba5b036cce45e0408ba0db39e517e0cc46ba1f6adf753728329ba88"), looks := false }, kinds := [], alts := [], laidByText := true, laidKinds := [.data, .data, .data], laidTests := true, laidLooks := .later }
def SexpListsUptoCardSaid : Prop := Claim7.holds Tryd.pinned (.plain (OpenSpec.upto sexpListsSpec)) sexpListsUptoCard
end Rows
end Go.Proofs.YtnekmmknjhflgabDoor
