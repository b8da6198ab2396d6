/-
  DERIVED. GIVEN WITH THE SEED: THE CARDS: each row of YtcjehjdehdoaeaaGreatDoorRows.lean that lists a variable, with what it lists TIED to the program's text (the seventh form; the later family's looks); each row that meets fmt, with fmt's text TOLD by the authors' own Lean function (tested against real Go, not proved from fmt's source: count such statements apart). THE CARD IS WHAT COUNTS. Prove the row's statement (the work); the ties are given (YtcjehjdehdoaeaaGreatDoorTie.lean); close each card by the builder's one call (the guide's Derived/Test/ToyasCard.lean, 'card_holds'). Laid BY PROGRAM, IN A SANDBOX (cutbox-door.mjs). By AI agents, Wed Nov 11 2026. No macro, syntax, notation, axiom, sorry.
-/
import Derived.Test.YtcjehjdehdoaeaaGreatDoorRows
import GoSem.ClaimSeven
namespace Go.Proofs.YtcjehjdehdoaeaaGreatDoor
namespace Rows

/-- THE TIED CARD OF 'pithtop.RoundTrip'. -/
def roundTripCard : Claim7 := { stood := { row := roundTripRow, standIns := [], harness := (true, "b019aadb05dc167660c7c22cbe9fc6137ae95879c20320a4a95bcfcd17febab5"), looks := true }, kinds := [], alts := [], laidByText := true, laidKinds := [.widerDeep, .data, .data, .data, .data, .data, .data, .data, .data, .sentinel, .sentinel, .sentinel, .sentinel, .sentinel, .sentinel, .sentinel, .sentinel, .sentinel], laidTests := true, laidLooks := .later }
def RoundTripCardSaid : Prop := Claim7.holds Tryz.pinned (.plain (OpenSpec.ofChange roundTripSpec)) roundTripCard

/-- THE TIED CARD OF 'pithtop.OneMeaning'. -/
def oneMeaningCard : Claim7 := { stood := { row := oneMeaningRow, standIns := [], harness := (true, "b019aadb05dc167660c7c22cbe9fc6137ae95879c20320a4a95bcfcd17febab5"), looks := true }, kinds := [], alts := [], laidByText := true, laidKinds := [.widerDeep, .data, .data, .data, .data, .data, .data, .data, .data, .sentinel, .sentinel, .sentinel, .sentinel, .sentinel, .sentinel, .sentinel, .sentinel, .sentinel], laidTests := true, laidLooks := .later }
def OneMeaningCardSaid : Prop := Claim7.holds Tryz.pinned (.plain (OpenSpec.ofChange oneMeaningSpec)) oneMeaningCard

/-- THE TIED CARD OF 'pithtop.BurstTold'. -/
def burstToldCard : Claim7 := { stood := { row := burstToldRow, standIns := [], harness := (true, "b019aadb05dc167660c7c22cbe9fc6137ae95879c20320a4a95bcfcd17febab5"), looks := true }, kinds := [], alts := [], laidByText := true, laidKinds := [.widerDeep, .data, .data, .data, .data, .data, .data, .data, .data, .sentinel, .sentinel, .sentinel, .sentinel, .sentinel, .sentinel, .sentinel, .sentinel, .sentinel], laidTests := true, laidLooks := .later }
def BurstToldCardSaid : Prop := Claim7.holds Tryz.pinned (.plain (OpenSpec.ofChange burstToldSpec)) burstToldCard

/-- THE SECOND FORM's CARD OF 'pithtop.RoundTrip'. -/
def roundTripUptoCard : Claim7 := { stood := { row := roundTripUptoRow, standIns := [], harness := (true, "b019aadb05dc167660c7c22cbe9fc6137ae95879c20320a4a95bcfcd17febab5"), looks := true }, kinds := [], alts := [], laidByText := true, laidKinds := [.widerDeep, .data, .data, .data, .data, .data, .data, .data, .data, .sentinel, .sentinel, .sentinel, .sentinel, .sentinel, .sentinel, .sentinel, .sentinel, .sentinel], laidTests := true, laidLooks := .later }
def RoundTripUptoCardSaid : Prop := Claim7.holds Tryz.pinned (.plain (OpenSpec.upto roundTripSpec)) roundTripUptoCard

/-- THE SECOND FORM's CARD OF 'pithtop.OneMeaning'. -/
def oneMeaningUptoCard : Claim7 := { stood := { row := oneMeaningUptoRow, standIns := [], harness := (true, "b019aadb05dc167660c7c22cbe9fc6137ae95879c20320a4a95bcfcd17febab5"), looks := true }, kinds := [], alts := [], laidByText := true, laidKinds := [.widerDeep, .data, .data, .data, .data, .data, .data, .data, .data, .sentinel, .sentinel, .sentinel, .sentinel, .sentinel, .sentinel, .sentinel, .sentinel, .sentinel], laidTests := true, laidLooks := .later }
def OneMeaningUptoCardSaid : Prop := Claim7.holds Tryz.pinned (.plain (OpenSpec.upto oneMeaningSpec)) oneMeaningUptoCard

/-- THE SECOND FORM's CARD OF 'pithtop.BurstTold'. -/
def burstToldUptoCard : Claim7 := { stood := { row := burstToldUptoRow, standIns := [], harness := (true, "b019aadb05dc167660c7c22cbe9fc6137ae95879c20320a4a95bcfcd17febab5"), looks := true }, kinds := [], alts := [], laidByText := true, laidKinds := [.widerDeep, .data, .data, .data, .data, .data, .data, .data, .data, .sentinel, .sentinel, .sentinel, .sentinel, .sentinel, .sentinel, .sentinel, .sentinel, .sentinel], laidTests := true, laidLooks := .later }
def BurstToldUptoCardSaid : Prop := Claim7.holds Tryz.pinned (.plain (OpenSpec.upto burstToldSpec)) burstToldUptoCard
end Rows
end Go.Proofs.YtcjehjdehdoaeaaGreatDoor
