/-
  DERIVED. GIVEN WITH THE SEED: THE CARDS: each row of YtknokfhmkhdieaaDoorRows.lean that lists a variable, with what it lists TIED to the program's text (the seventh form; the later family's looks); each row that meets fmt, with fmt's text TOLD by the authors' own Lean function (tested against real Go, not proved from fmt's source: count such statements apart). THE CARD IS WHAT COUNTS. Prove the row's statement (the work); the ties are given (YtknokfhmkhdieaaDoorTie.lean); close each card by the builder's one call (the guide's Derived/Test/ToyasCard.lean, 'card_holds'). Laid BY PROGRAM, IN A SANDBOX (cutbox-door.mjs). By AI agents, Wed Nov 11 2026. No macro, syntax, notation, axiom, sorry.
-/
import Derived.Test.YtknokfhmkhdieaaDoorRows
import GoSem.ClaimSeven
namespace Go.Proofs.YtknokfhmkhdieaaDoor
namespace Rows

/-- THE TIED CARD OF 'saplinglaw11.ViewBuilds'. -/
def viewBuildsCard : Claim7 := { stood := { row := viewBuildsRow, standIns := [], harness := (true, "f2fee2455541bc4ca26736bb6dae807a979f9966881891704bf199eca99a9306"), looks := false }, kinds := [], alts := [], laidByText := true, laidKinds := [.data, .pinned], laidTests := true, laidLooks := .later }
def ViewBuildsCardSaid : Prop := Claim7.holds Tryd.pinned (.plain (OpenSpec.ofChange viewBuildsSpec)) viewBuildsCard

/-- THE TIED CARD OF 'saplinglaw11.ViewOrders'. -/
def viewOrdersCard : Claim7 := { stood := { row := viewOrdersRow, standIns := [], harness := (true, "f2fee2455541bc4ca26736bb6dae807a979f9966881891704bf199eca99a9306"), looks := false }, kinds := [], alts := [], laidByText := true, laidKinds := [.data, .pinned], laidTests := true, laidLooks := .later }
def ViewOrdersCardSaid : Prop := Claim7.holds Tryd.pinned (.plain (OpenSpec.ofChange viewOrdersSpec)) viewOrdersCard

/-- THE TIED CARD OF 'saplinglaw11.ViewOutside'. -/
def viewOutsideCard : Claim7 := { stood := { row := viewOutsideRow, standIns := [], harness := (true, "f2fee2455541bc4ca26736bb6dae807a979f9966881891704bf199eca99a9306"), looks := false }, kinds := [], alts := [], laidByText := true, laidKinds := [.data, .pinned], laidTests := true, laidLooks := .later }
def ViewOutsideCardSaid : Prop := Claim7.holds Tryd.pinned (.plain (OpenSpec.ofChange viewOutsideSpec)) viewOutsideCard

/-- THE TIED CARD OF 'saplinglaw11.ViewHolds'. -/
def viewHoldsCard : Claim7 := { stood := { row := viewHoldsRow, standIns := [], harness := (true, "f2fee2455541bc4ca26736bb6dae807a979f9966881891704bf199eca99a9306"), looks := false }, kinds := [], alts := [], laidByText := true, laidKinds := [.data, .pinned], laidTests := true, laidLooks := .later }
def ViewHoldsCardSaid : Prop := Claim7.holds Tryd.pinned (.plain (OpenSpec.ofChange viewHoldsSpec)) viewHoldsCard

/-- THE TIED CARD OF 'saplinglaw11.ViewOne'. -/
def viewOneCard : Claim7 := { stood := { row := viewOneRow, standIns := [], harness := (true, "f2fee2455541bc4ca26736bb6dae807a979f9966881891704bf199eca99a9306"), looks := false }, kinds := [], alts := [], laidByText := true, laidKinds := [.data, .pinned], laidTests := true, laidLooks := .later }
def ViewOneCardSaid : Prop := Claim7.holds Tryd.pinned (.plain (OpenSpec.ofChange viewOneSpec)) viewOneCard

/-- THE SECOND FORM's CARD OF 'saplinglaw11.ViewBuilds'. -/
def viewBuildsUptoCard : Claim7 := { stood := { row := viewBuildsUptoRow, standIns := [], harness := (true, "f2fee2455541bc4ca26736bb6dae807a979f9966881891704bf199eca99a9306"), looks := false }, kinds := [], alts := [], laidByText := true, laidKinds := [.data, .pinned], laidTests := true, laidLooks := .later }
def ViewBuildsUptoCardSaid : Prop := Claim7.holds Tryd.pinned (.plain (OpenSpec.upto viewBuildsSpec)) viewBuildsUptoCard

/-- THE SECOND FORM's CARD OF 'saplinglaw11.ViewOrders'. -/
def viewOrdersUptoCard : Claim7 := { stood := { row := viewOrdersUptoRow, standIns := [], harness := (true, "f2fee2455541bc4ca26736bb6dae807a979f9966881891704bf199eca99a9306"), looks := false }, kinds := [], alts := [], laidByText := true, laidKinds := [.data, .pinned], laidTests := true, laidLooks := .later }
def ViewOrdersUptoCardSaid : Prop := Claim7.holds Tryd.pinned (.plain (OpenSpec.upto viewOrdersSpec)) viewOrdersUptoCard

/-- THE SECOND FORM's CARD OF 'saplinglaw11.ViewOutside'. -/
def viewOutsideUptoCard : Claim7 := { stood := { row := viewOutsideUptoRow, standIns := [], harness := (true, "f2fee2455541bc4ca26736bb6dae807a979f9966881891704bf199eca99a9306"), looks := false }, kinds := [], alts := [], laidByText := true, laidKinds := [.data, .pinned], laidTests := true, laidLooks := .later }
def ViewOutsideUptoCardSaid : Prop := Claim7.holds Tryd.pinned (.plain (OpenSpec.upto viewOutsideSpec)) viewOutsideUptoCard

/-- THE SECOND FORM's CARD OF 'saplinglaw11.ViewHolds'. -/
def viewHoldsUptoCard : Claim7 := { stood := { row := viewHoldsUptoRow, standIns := [], harness := (true, "f2fee2455541bc4ca26736bb6dae807a979f9966881891704bf199eca99a9306"), looks := false }, kinds := [], alts := [], laidByText := true, laidKinds := [.data, .pinned], laidTests := true, laidLooks := .later }
def ViewHoldsUptoCardSaid : Prop := Claim7.holds Tryd.pinned (.plain (OpenSpec.upto viewHoldsSpec)) viewHoldsUptoCard

/-- THE SECOND FORM's CARD OF 'saplinglaw11.ViewOne'. -/
def viewOneUptoCard : Claim7 := { stood := { row := viewOneUptoRow, standIns := [], harness := (true, "f2fee2455541bc4ca26736bb6dae807a979f9966881891704bf199eca99a9306"), looks := false }, kinds := [], alts := [], laidByText := true, laidKinds := [.data, .pinned], laidTests := true, laidLooks := .later }
def ViewOneUptoCardSaid : Prop := Claim7.holds Tryd.pinned (.plain (OpenSpec.upto viewOneSpec)) viewOneUptoCard
end Rows
end Go.Proofs.YtknokfhmkhdieaaDoor
