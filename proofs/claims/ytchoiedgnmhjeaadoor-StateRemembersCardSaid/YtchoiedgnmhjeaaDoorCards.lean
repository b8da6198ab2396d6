/-
  DERIVED. GIVEN WITH THE SEED: THE CARDS: each row of YtchoiedgnmhjeaaDoorRows.lean that lists a variable, with what it lists TIED to the program's text (the seventh form; the later family's looks); each row that meets fmt, with fmt's text TOLD by the authors' own Lean function (tested against real Go, not proved from fmt's source: count such statements apart). THE CARD IS WHAT COUNTS. Prove the row's statement (the work); the ties are given (YtchoiedgnmhjeaaDoorTie.lean); close each card by the builder's one call (the guide's Derived/Test/ToyasCard.lean, 'card_holds'). Laid BY PROGRAM, IN A SANDBOX (cutbox-door.mjs). By AI agents, Wed Nov 11 2026. No macro, syntax, notation, axiom, sorry.
-/
import Derived.Test.YtchoiedgnmhjeaaDoorRows
import GoSem.ClaimSeven
namespace Go.Proofs.YtchoiedgnmhjeaaDoor
namespace Rows

/-- THE TIED CARD OF 'pithlaw12.StateNext'. -/
def stateNextCard : Claim7 := { stood := { row := stateNextRow, standIns := [], harness := (true, "c84b5e05fa0d5b91e56b6445fab14a874e2850093a7787e2785c7c40f2a48cf2"), looks := false }, kinds := [], alts := [], laidByText := true, laidKinds := [.data, .data, .data, .data], laidTests := true, laidLooks := .later }
def StateNextCardSaid : Prop := Claim7.holds Tryd.pinned (.plain (OpenSpec.ofChange stateNextSpec)) stateNextCard

/-- THE TIED CARD OF 'pithlaw12.StateGoes'. -/
def stateGoesCard : Claim7 := { stood := { row := stateGoesRow, standIns := [], harness := (true, "c84b5e05fa0d5b91e56b6445fab14a874e2850093a7787e2785c7c40f2a48cf2"), looks := false }, kinds := [], alts := [], laidByText := true, laidKinds := [.data, .data, .data, .data], laidTests := true, laidLooks := .later }
def StateGoesCardSaid : Prop := Claim7.holds Tryd.pinned (.plain (OpenSpec.ofChange stateGoesSpec)) stateGoesCard

/-- THE TIED CARD OF 'pithlaw12.StateRemembers'. -/
def stateRemembersCard : Claim7 := { stood := { row := stateRemembersRow, standIns := [], harness := (true, "c84b5e05fa0d5b91e56b6445fab14a874e2850093a7787e2785c7c40f2a48cf2"), looks := false }, kinds := [], alts := [], laidByText := true, laidKinds := [.data, .data, .data, .data], laidTests := true, laidLooks := .later }
def StateRemembersCardSaid : Prop := Claim7.holds Tryd.pinned (.plain (OpenSpec.ofChange stateRemembersSpec)) stateRemembersCard

/-- THE TIED CARD OF 'pithlaw12.StateSlots'. -/
def stateSlotsCard : Claim7 := { stood := { row := stateSlotsRow, standIns := [], harness := (true, "c84b5e05fa0d5b91e56b6445fab14a874e2850093a7787e2785c7c40f2a48cf2"), looks := false }, kinds := [], alts := [], laidByText := true, laidKinds := [.data, .data, .data, .data], laidTests := true, laidLooks := .later }
def StateSlotsCardSaid : Prop := Claim7.holds Tryd.pinned (.plain (OpenSpec.ofChange stateSlotsSpec)) stateSlotsCard

/-- THE TIED CARD OF 'pithlaw12.StateProps'. -/
def statePropsCard : Claim7 := { stood := { row := statePropsRow, standIns := [], harness := (true, "c84b5e05fa0d5b91e56b6445fab14a874e2850093a7787e2785c7c40f2a48cf2"), looks := false }, kinds := [], alts := [], laidByText := true, laidKinds := [.data, .data, .data, .data], laidTests := true, laidLooks := .later }
def StatePropsCardSaid : Prop := Claim7.holds Tryd.pinned (.plain (OpenSpec.ofChange statePropsSpec)) statePropsCard

/-- THE TIED CARD OF 'pithlaw12.StateSlotted'. -/
def stateSlottedCard : Claim7 := { stood := { row := stateSlottedRow, standIns := [], harness := (true, "c84b5e05fa0d5b91e56b6445fab14a874e2850093a7787e2785c7c40f2a48cf2"), looks := false }, kinds := [], alts := [], laidByText := true, laidKinds := [.data, .data, .data, .data], laidTests := true, laidLooks := .later }
def StateSlottedCardSaid : Prop := Claim7.holds Tryd.pinned (.plain (OpenSpec.ofChange stateSlottedSpec)) stateSlottedCard

/-- THE TIED CARD OF 'pithlaw12.StateBack'. -/
def stateBackCard : Claim7 := { stood := { row := stateBackRow, standIns := [], harness := (true, "c84b5e05fa0d5b91e56b6445fab14a874e2850093a7787e2785c7c40f2a48cf2"), looks := false }, kinds := [], alts := [], laidByText := true, laidKinds := [.data, .data, .data, .data], laidTests := true, laidLooks := .later }
def StateBackCardSaid : Prop := Claim7.holds Tryd.pinned (.plain (OpenSpec.ofChange stateBackSpec)) stateBackCard

/-- THE SECOND FORM's CARD OF 'pithlaw12.StateNext'. -/
def stateNextUptoCard : Claim7 := { stood := { row := stateNextUptoRow, standIns := [], harness := (true, "c84b5e05fa0d5b91e56b6445fab14a874e2850093a7787e2785c7c40f2a48cf2"), looks := false }, kinds := [], alts := [], laidByText := true, laidKinds := [.data, .data, .data, .data], laidTests := true, laidLooks := .later }
def StateNextUptoCardSaid : Prop := Claim7.holds Tryd.pinned (.plain (OpenSpec.upto stateNextSpec)) stateNextUptoCard

/-- THE SECOND FORM's CARD OF 'pithlaw12.StateGoes'. -/
def stateGoesUptoCard : Claim7 := { stood := { row := stateGoesUptoRow, standIns := [], harness := (true, "c84b5e05fa0d5b91e56b6445fab14a874e2850093a7787e2785c7c40f2a48cf2"), looks := false }, kinds := [], alts := [], laidByText := true, laidKinds := [.data, .data, .data, .data], laidTests := true, laidLooks := .later }
def StateGoesUptoCardSaid : Prop := Claim7.holds Tryd.pinned (.plain (OpenSpec.upto stateGoesSpec)) stateGoesUptoCard

/-- THE SECOND FORM's CARD OF 'pithlaw12.StateRemembers'. -/
def stateRemembersUptoCard : Claim7 := { stood := { row := stateRemembersUptoRow, standIns := [], harness := (true, "c84b5e05fa0d5b91e56b6445fab14a874e2850093a7787e2785c7c40f2a48cf2"), looks := false }, kinds := [], alts := [], laidByText := true, laidKinds := [.data, .data, .data, .data], laidTests := true, laidLooks := .later }
def StateRemembersUptoCardSaid : Prop := Claim7.holds Tryd.pinned (.plain (OpenSpec.upto stateRemembersSpec)) stateRemembersUptoCard

/-- THE SECOND FORM's CARD OF 'pithlaw12.StateSlots'. -/
def stateSlotsUptoCard : Claim7 := { stood := { row := stateSlotsUptoRow, standIns := [], harness := (true, "c84b5e05fa0d5b91e56b6445fab14a874e2850093a7787e2785c7c40f2a48cf2"), looks := false }, kinds := [], alts := [], laidByText := true, laidKinds := [.data, .data, .data, .data], laidTests := true, laidLooks := .later }
def StateSlotsUptoCardSaid : Prop := Claim7.holds Tryd.pinned (.plain (OpenSpec.upto stateSlotsSpec)) stateSlotsUptoCard

/-- THE SECOND FORM's CARD OF 'pithlaw12.StateProps'. -/
def statePropsUptoCard : Claim7 := { stood := { row := statePropsUptoRow, standIns := [], harness := (true, "c84b5e05fa0d5b91e56b6445fab14a874e2850093a7787e2785c7c40f2a48cf2"), looks := false }, kinds := [], alts := [], laidByText := true, laidKinds := [.data, .data, .data, .data], laidTests := true, laidLooks := .later }
def StatePropsUptoCardSaid : Prop := Claim7.holds Tryd.pinned (.plain (OpenSpec.upto statePropsSpec)) statePropsUptoCard

/-- THE SECOND FORM's CARD OF 'pithlaw12.StateSlotted'. -/
def stateSlottedUptoCard : Claim7 := { stood := { row := stateSlottedUptoRow, standIns := [], harness := (true, "c84b5e05fa0d5b91e56b6445fab14a874e2850093a7787e2785c7c40f2a48cf2"), looks := false }, kinds := [], alts := [], laidByText := true, laidKinds := [.data, .data, .data, .data], laidTests := true, laidLooks := .later }
def StateSlottedUptoCardSaid : Prop := Claim7.holds Tryd.pinned (.plain (OpenSpec.upto stateSlottedSpec)) stateSlottedUptoCard

/-- THE SECOND FORM's CARD OF 'pithlaw12.StateBack'. -/
def stateBackUptoCard : Claim7 := { stood := { row := stateBackUptoRow, standIns := [], harness := (true, "c84b5e05fa0d5b91e56b6445fab14a874e2850093a7787e2785c7c40f2a48cf2"), looks := false }, kinds := [], alts := [], laidByText := true, laidKinds := [.data, .data, .data, .data], laidTests := true, laidLooks := .later }
def StateBackUptoCardSaid : Prop := Claim7.holds Tryd.pinned (.plain (OpenSpec.upto stateBackSpec)) stateBackUptoCard
end Rows
end Go.Proofs.YtchoiedgnmhjeaaDoor
