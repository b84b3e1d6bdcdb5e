/-
  DERIVED. GIVEN WITH THE SEED: THE CARDS: each row of YtnekmmknjhflgaaDoorRows.lean that lists a variable, with what it lists TIED to the program's text (the seventh form; the later family's looks); each row that meets fmt, with fmt's text TOLD by the authors' own Lean function (tested against real Go, not proved from fmt's source: count such statements apart). THE CARD IS WHAT COUNTS. Prove the row's statement (the work); the ties are given (YtnekmmknjhflgaaDoorTie.lean); close each card by the builder's one call (the guide's Derived/Test/ToyasCard.lean, 'card_holds'). Laid BY PROGRAM, IN A SANDBOX (cutbox-door.mjs). By AI agents, Wed Nov 11 2026. No macro, syntax, notation, axiom, sorry.
-/
import Derived.Test.YtnekmmknjhflgaaDoorRows
import GoSem.ClaimSeven
namespace Go.Proofs.YtnekmmknjhflgaaDoor
namespace Rows

/-- THE TIED CARD OF 'saplinglaw01.SexpWrites'. -/
def sexpWritesCard : Claim7 := { stood := { row := sexpWritesRow, standIns := [], harness := (true, "781e8cc9a33b320c050aca743c856a6be6a782a782114fdfc334f3ee2a1fe5a2"), looks := false }, kinds := [], alts := [], laidByText := true, laidKinds := [.data, .data, .data], laidTests := true, laidLooks := .later }
def SexpWritesCardSaid : Prop := Claim7.holds Tryd.pinned (.plain (OpenSpec.ofChange sexpWritesSpec)) sexpWritesCard

/-- THE TIED CARD OF 'saplinglaw01.SexpReads'. -/
def sexpReadsCard : Claim7 := { stood := { row := sexpReadsRow, standIns := [], harness := (true, "781e8cc9a33b320c050aca743c856a6be6a782a782114fdfc334f3ee2a1fe5a2"), looks := false }, kinds := [], alts := [], laidByText := true, laidKinds := [.data, .data, .data], laidTests := true, laidLooks := .later }
def SexpReadsCardSaid : Prop := Claim7.holds Tryd.pinned (.plain (OpenSpec.ofChange sexpReadsSpec)) sexpReadsCard

/-- THE TIED CARD OF 'saplinglaw01.SexpBack'. -/
def sexpBackCard : Claim7 := { stood := { row := sexpBackRow, standIns := [], harness := (true, "781e8cc9a33b320c050aca743c856a6be6a782a782114fdfc334f3ee2a1fe5a2"), looks := false }, kinds := [], alts := [], laidByText := true, laidKinds := [.data, .data, .data], laidTests := true, laidLooks := .later }
def SexpBackCardSaid : Prop := Claim7.holds Tryd.pinned (.plain (OpenSpec.ofChange sexpBackSpec)) sexpBackCard

/-- THE TIED CARD OF 'saplinglaw01.SexpTells'. -/
def sexpTellsCard : Claim7 := { stood := { row := sexpTellsRow, standIns := [], harness := (true, "781e8cc9a33b320c050aca743c856a6be6a782a782114fdfc334f3ee2a1fe5a2"), looks := false }, kinds := [], alts := [], laidByText := true, laidKinds := [.data, .data, .data], laidTests := true, laidLooks := .later }
def SexpTellsCardSaid : Prop := Claim7.holds Tryd.pinned (.plain (OpenSpec.ofChange sexpTellsSpec)) sexpTellsCard

/-- THE TIED CARD OF 'saplinglaw01.SexpLeaves'. -/
def sexpLeavesCard : Claim7 := { stood := { row := sexpLeavesRow, standIns := [], harness := (true, "781e8cc9a33b320c050aca743c856a6be6a782a782114fdfc334f3ee2a1fe5a2"), looks := false }, kinds := [], alts := [], laidByText := true, laidKinds := [.data, .data, .data], laidTests := true, laidLooks := .later }
def SexpLeavesCardSaid : Prop := Claim7.holds Tryd.pinned (.plain (OpenSpec.ofChange sexpLeavesSpec)) sexpLeavesCard

/-- THE TIED CARD OF 'saplinglaw01.SexpKeeps'. -/
def sexpKeepsCard : Claim7 := { stood := { row := sexpKeepsRow, standIns := [], harness := (true, "781e8cc9a33b320c050aca743c856a6be6a782a782114fdfc334f3ee2a1fe5a2"), looks := false }, kinds := [], alts := [], laidByText := true, laidKinds := [.data, .data, .data], laidTests := true, laidLooks := .later }
def SexpKeepsCardSaid : Prop := Claim7.holds Tryd.pinned (.plain (OpenSpec.ofChange sexpKeepsSpec)) sexpKeepsCard

/-- THE SECOND FORM's CARD OF 'saplinglaw01.SexpWrites'. -/
def sexpWritesUptoCard : Claim7 := { stood := { row := sexpWritesUptoRow, standIns := [], harness := (true, "781e8cc9a33b320c050aca743c856a6be6a782a782114fdfc334f3ee2a1fe5a2"), looks := false }, kinds := [], alts := [], laidByText := true, laidKinds := [.data, .data, .data], laidTests := true, laidLooks := .later }
def SexpWritesUptoCardSaid : Prop := Claim7.holds Tryd.pinned (.plain (OpenSpec.upto sexpWritesSpec)) sexpWritesUptoCard

/-- THE SECOND FORM's CARD OF 'saplinglaw01.SexpReads'. -/
def sexpReadsUptoCard : Claim7 := { stood := { row := sexpReadsUptoRow, standIns := [], harness := (true, "781e8cc9a33b320c050aca743c856a6be6a782a782114fdfc334f3ee2a1fe5a2"), looks := false }, kinds := [], alts := [], laidByText := true, laidKinds := [.data, .data, .data], laidTests := true, laidLooks := .later }
def SexpReadsUptoCardSaid : Prop := Claim7.holds Tryd.pinned (.plain (OpenSpec.upto sexpReadsSpec)) sexpReadsUptoCard

/-- THE SECOND FORM's CARD OF 'saplinglaw01.SexpBack'. -/
def sexpBackUptoCard : Claim7 := { stood := { row := sexpBackUptoRow, standIns := [], harness := (true, "781e8cc9a33b320c050aca743c856a6be6a782a782114fdfc334f3ee2a1fe5a2"), looks := false }, kinds := [], alts := [], laidByText := true, laidKinds := [.data, .data, .data], laidTests := true, laidLooks := .later }
def SexpBackUptoCardSaid : Prop := Claim7.holds Tryd.pinned (.plain (OpenSpec.upto sexpBackSpec)) sexpBackUptoCard

/-- THE SECOND FORM's CARD OF 'saplinglaw01.SexpTells'. -/
def sexpTellsUptoCard : Claim7 := { stood := { row := sexpTellsUptoRow, standIns := [], harness := (true, "781e8cc9a33b320c050aca743c856a6be6a782a782114fdfc334f3ee2a1fe5a2"), looks := false }, kinds := [], alts := [], laidByText := true, laidKinds := [.data, .data, .data], laidTests := true, laidLooks := .later }
def SexpTellsUptoCardSaid : Prop := Claim7.holds Tryd.pinned (.plain (OpenSpec.upto sexpTellsSpec)) sexpTellsUptoCard

/-- THE SECOND FORM's CARD OF 'saplinglaw01.SexpLeaves'. -/
def sexpLeavesUptoCard : Claim7 := { stood := { row := sexpLeavesUptoRow, standIns := [], harness := (true, "781e8cc9a33b320c050aca743c856a6be6a782a782114fdfc334f3ee2a1fe5a2"), looks := false }, kinds := [], alts := [], laidByText := true, laidKinds := [.data, .data, .data], laidTests := true, laidLooks := .later }
def SexpLeavesUptoCardSaid : Prop := Claim7.holds Tryd.pinned (.plain (OpenSpec.upto sexpLeavesSpec)) sexpLeavesUptoCard

/-- THE SECOND FORM's CARD OF 'saplinglaw01.SexpKeeps'. -/
def sexpKeepsUptoCard : Claim7 := { stood := { row := sexpKeepsUptoRow, standIns := [], harness := (true, "781e8cc9a33b320c050aca743c856a6be6a782a782114fdfc334f3ee2a1fe5a2"), looks := false }, kinds := [], alts := [], laidByText := true, laidKinds := [.data, .data, .data], laidTests := true, laidLooks := .later }
def SexpKeepsUptoCardSaid : Prop := Claim7.holds Tryd.pinned (.plain (OpenSpec.upto sexpKeepsSpec)) sexpKeepsUptoCard
end Rows
end Go.Proofs.YtnekmmknjhflgaaDoor
