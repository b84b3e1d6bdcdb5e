/-
  DERIVED. GIVEN WITH THE SEED: THE CARDS: each row of YtiknklnfmbncjaaDoorRows.lean that lists a variable, with what it lists TIED to the program's text (the seventh form; the later family's looks); each row that meets fmt, with fmt's text TOLD by the authors' own Lean function (tested against real Go, not proved from fmt's source: count such statements apart). THE CARD IS WHAT COUNTS. Prove the row's statement (the work); the ties are given (YtiknklnfmbncjaaDoorTie.lean); close each card by the builder's one call (the guide's Derived/Test/ToyasCard.lean, 'card_holds'). Laid BY PROGRAM, IN A SANDBOX (cutbox-door.mjs). By AI agents, Wed Nov 11 2026. No macro, syntax, notation, axiom, sorry.
-/
import Derived.Test.YtiknklnfmbncjaaDoorRows
import GoSem.ClaimSeven
namespace Go.Proofs.YtiknklnfmbncjaaDoor
namespace Rows

/-- THE TIED CARD OF 'saplinglaw04.PathUnder'. -/
def pathUnderCard : Claim7 := { stood := { row := pathUnderRow, standIns := [], harness := (true, "a509ad936e93d34d21b919e88610f89b1fec0bfacc479a79f463baf6af416b74"), looks := false }, kinds := [], alts := [], laidByText := true, laidKinds := [.data, .pinned], laidTests := true, laidLooks := .later }
def PathUnderCardSaid : Prop := Claim7.holds Tryd.pinned (.plain (OpenSpec.ofChange pathUnderSpec)) pathUnderCard

/-- THE TIED CARD OF 'saplinglaw04.PathLimits'. -/
def pathLimitsCard : Claim7 := { stood := { row := pathLimitsRow, standIns := [], harness := (true, "a509ad936e93d34d21b919e88610f89b1fec0bfacc479a79f463baf6af416b74"), looks := false }, kinds := [], alts := [], laidByText := true, laidKinds := [.data, .pinned], laidTests := true, laidLooks := .later }
def PathLimitsCardSaid : Prop := Claim7.holds Tryd.pinned (.plain (OpenSpec.ofChange pathLimitsSpec)) pathLimitsCard

/-- THE TIED CARD OF 'saplinglaw04.PathNames'. -/
def pathNamesCard : Claim7 := { stood := { row := pathNamesRow, standIns := [], harness := (true, "a509ad936e93d34d21b919e88610f89b1fec0bfacc479a79f463baf6af416b74"), looks := false }, kinds := [], alts := [], laidByText := true, laidKinds := [.data, .pinned], laidTests := true, laidLooks := .later }
def PathNamesCardSaid : Prop := Claim7.holds Tryd.pinned (.plain (OpenSpec.ofChange pathNamesSpec)) pathNamesCard

/-- THE TIED CARD OF 'saplinglaw04.PathJoins'. -/
def pathJoinsCard : Claim7 := { stood := { row := pathJoinsRow, standIns := [], harness := (true, "a509ad936e93d34d21b919e88610f89b1fec0bfacc479a79f463baf6af416b74"), looks := false }, kinds := [], alts := [], laidByText := true, laidKinds := [.data, .pinned], laidTests := true, laidLooks := .later }
def PathJoinsCardSaid : Prop := Claim7.holds Tryd.pinned (.plain (OpenSpec.ofChange pathJoinsSpec)) pathJoinsCard

/-- THE TIED CARD OF 'saplinglaw04.PathBack'. -/
def pathBackCard : Claim7 := { stood := { row := pathBackRow, standIns := [], harness := (true, "a509ad936e93d34d21b919e88610f89b1fec0bfacc479a79f463baf6af416b74"), looks := false }, kinds := [], alts := [], laidByText := true, laidKinds := [.data, .pinned], laidTests := true, laidLooks := .later }
def PathBackCardSaid : Prop := Claim7.holds Tryd.pinned (.plain (OpenSpec.ofChange pathBackSpec)) pathBackCard

/-- THE SECOND FORM's CARD OF 'saplinglaw04.PathUnder'. -/
def pathUnderUptoCard : Claim7 := { stood := { row := pathUnderUptoRow, standIns := [], harness := (true, "a509ad936e93d34d21b919e88610f89b1fec0bfacc479a79f463baf6af416b74"), looks := false }, kinds := [], alts := [], laidByText := true, laidKinds := [.data, .pinned], laidTests := true, laidLooks := .later }
def PathUnderUptoCardSaid : Prop := Claim7.holds Tryd.pinned (.plain (OpenSpec.upto pathUnderSpec)) pathUnderUptoCard

/-- THE SECOND FORM's CARD OF 'saplinglaw04.PathLimits'. -/
def pathLimitsUptoCard : Claim7 := { stood := { row := pathLimitsUptoRow, standIns := [], harness := (true, "a509ad936e93d34d21b919e88610f89b1fec0bfacc479a79f463baf6af416b74"), looks := false }, kinds := [], alts := [], laidByText := true, laidKinds := [.data, .pinned], laidTests := true, laidLooks := .later }
def PathLimitsUptoCardSaid : Prop := Claim7.holds Tryd.pinned (.plain (OpenSpec.upto pathLimitsSpec)) pathLimitsUptoCard

/-- THE SECOND FORM's CARD OF 'saplinglaw04.PathNames'. -/
def pathNamesUptoCard : Claim7 := { stood := { row := pathNamesUptoRow, standIns := [], harness := (true, "a509ad936e93d34d21b919e88610f89b1fec0bfacc479a79f463baf6af416b74"), looks := false }, kinds := [], alts := [], laidByText := true, laidKinds := [.data, .pinned], laidTests := true, laidLooks := .later }
def PathNamesUptoCardSaid : Prop := Claim7.holds Tryd.pinned (.plain (OpenSpec.upto pathNamesSpec)) pathNamesUptoCard

/-- THE SECOND FORM's CARD OF 'saplinglaw04.PathJoins'. -/
def pathJoinsUptoCard : Claim7 := { stood := { row := pathJoinsUptoRow, standIns := [], harness := (true, "a509ad936e93d34d21b919e88610f89b1fec0bfacc479a79f463baf6af416b74"), looks := false }, kinds := [], alts := [], laidByText := true, laidKinds := [.data, .pinned], laidTests := true, laidLooks := .later }
def PathJoinsUptoCardSaid : Prop := Claim7.holds Tryd.pinned (.plain (OpenSpec.upto pathJoinsSpec)) pathJoinsUptoCard

/-- THE SECOND FORM's CARD OF 'saplinglaw04.PathBack'. -/
def pathBackUptoCard : Claim7 := { stood := { row := pathBackUptoRow, standIns := [], harness := (true, "a509ad936e93d34d21b919e88610f89b1fec0bfacc479a79f463baf6af416b74"), looks := false }, kinds := [], alts := [], laidByText := true, laidKinds := [.data, .pinned], laidTests := true, laidLooks := .later }
def PathBackUptoCardSaid : Prop := Claim7.holds Tryd.pinned (.plain (OpenSpec.upto pathBackSpec)) pathBackUptoCard
end Rows
end Go.Proofs.YtiknklnfmbncjaaDoor
