/-
  DERIVED. GIVEN WITH THE SEED: THE CARDS: each row of YthlflcnpmabmbaaDoorRows.lean that lists a variable, with what it lists TIED to the program's text (the seventh form; the later family's looks); each row that meets fmt, with fmt's text TOLD by the authors' own Lean function (tested against real Go, not proved from fmt's source: count such statements apart). THE CARD IS WHAT COUNTS. Prove the row's statement (the work); the ties are given (YthlflcnpmabmbaaDoorTie.lean); close each card by the builder's one call (the guide's Derived/Test/ToyasCard.lean, 'card_holds'). Laid BY PROGRAM, IN A SANDBOX (cutbox-door.mjs). By AI agents, Wed Nov 11 2026. No macro, syntax, notation, axiom, sorry.
-/
import Derived.Test.YthlflcnpmabmbaaDoorRows
import GoSem.ClaimSeven
namespace Go.Proofs.YthlflcnpmabmbaaDoor
namespace Rows

/-- THE TIED CARD OF 'pithlaw16.ParsePrices'. -/
def parsePricesCard : Claim7 := { stood := { row := parsePricesRow, standIns := [], harness := (true, "4eefcad272193e365186f60992aa6a26ca1190e5c5f3e959242a4c8f1ed18c54"), looks := false }, kinds := [], alts := [], laidByText := true, laidKinds := [.data, .data, .data, .data], laidTests := true, laidLooks := .later }
def ParsePricesCardSaid : Prop := Claim7.holds Tryd.pinned (.plain (OpenSpec.ofChange parsePricesSpec)) parsePricesCard

/-- THE TIED CARD OF 'pithlaw16.ParseEqual'. -/
def parseEqualCard : Claim7 := { stood := { row := parseEqualRow, standIns := [], harness := (true, "4eefcad272193e365186f60992aa6a26ca1190e5c5f3e959242a4c8f1ed18c54"), looks := false }, kinds := [], alts := [], laidByText := true, laidKinds := [.data, .data, .data, .data], laidTests := true, laidLooks := .later }
def ParseEqualCardSaid : Prop := Claim7.holds Tryd.pinned (.plain (OpenSpec.ofChange parseEqualSpec)) parseEqualCard

/-- THE TIED CARD OF 'pithlaw16.ParseRows'. -/
def parseRowsCard : Claim7 := { stood := { row := parseRowsRow, standIns := [], harness := (true, "4eefcad272193e365186f60992aa6a26ca1190e5c5f3e959242a4c8f1ed18c54"), looks := false }, kinds := [], alts := [], laidByText := true, laidKinds := [.data, .data, .data, .data], laidTests := true, laidLooks := .later }
def ParseRowsCardSaid : Prop := Claim7.holds Tryd.pinned (.plain (OpenSpec.ofChange parseRowsSpec)) parseRowsCard

/-- THE TIED CARD OF 'pithlaw16.ParseCheapest'. -/
def parseCheapestCard : Claim7 := { stood := { row := parseCheapestRow, standIns := [], harness := (true, "4eefcad272193e365186f60992aa6a26ca1190e5c5f3e959242a4c8f1ed18c54"), looks := false }, kinds := [], alts := [], laidByText := true, laidKinds := [.data, .data, .data, .data], laidTests := true, laidLooks := .later }
def ParseCheapestCardSaid : Prop := Claim7.holds Tryd.pinned (.plain (OpenSpec.ofChange parseCheapestSpec)) parseCheapestCard

/-- THE TIED CARD OF 'pithlaw16.ParseMeans'. -/
def parseMeansCard : Claim7 := { stood := { row := parseMeansRow, standIns := [], harness := (true, "4eefcad272193e365186f60992aa6a26ca1190e5c5f3e959242a4c8f1ed18c54"), looks := false }, kinds := [], alts := [], laidByText := true, laidKinds := [.data, .data, .data, .data], laidTests := true, laidLooks := .later }
def ParseMeansCardSaid : Prop := Claim7.holds Tryd.pinned (.plain (OpenSpec.ofChange parseMeansSpec)) parseMeansCard

/-- THE SECOND FORM's CARD OF 'pithlaw16.ParsePrices'. -/
def parsePricesUptoCard : Claim7 := { stood := { row := parsePricesUptoRow, standIns := [], harness := (true, "4eefcad272193e365186f60992aa6a26ca1190e5c5f3e959242a4c8f1ed18c54"), looks := false }, kinds := [], alts := [], laidByText := true, laidKinds := [.data, .data, .data, .data], laidTests := true, laidLooks := .later }
def ParsePricesUptoCardSaid : Prop := Claim7.holds Tryd.pinned (.plain (OpenSpec.upto parsePricesSpec)) parsePricesUptoCard

/-- THE SECOND FORM's CARD OF 'pithlaw16.ParseEqual'. -/
def parseEqualUptoCard : Claim7 := { stood := { row := parseEqualUptoRow, standIns := [], harness := (true, "4eefcad272193e365186f60992aa6a26ca1190e5c5f3e959242a4c8f1ed18c54"), looks := false }, kinds := [], alts := [], laidByText := true, laidKinds := [.data, .data, .data, .data], laidTests := true, laidLooks := .later }
def ParseEqualUptoCardSaid : Prop := Claim7.holds Tryd.pinned (.plain (OpenSpec.upto parseEqualSpec)) parseEqualUptoCard

/-- THE SECOND FORM's CARD OF 'pithlaw16.ParseRows'. -/
def parseRowsUptoCard : Claim7 := { stood := { row := parseRowsUptoRow, standIns := [], harness := (true, "4eefcad272193e365186f60992aa6a26ca1190e5c5f3e959242a4c8f1ed18c54"), looks := false }, kinds := [], alts := [], laidByText := true, laidKinds := [.data, .data, .data, .data], laidTests := true, laidLooks := .later }
def ParseRowsUptoCardSaid : Prop := Claim7.holds Tryd.pinned (.plain (OpenSpec.upto parseRowsSpec)) parseRowsUptoCard

/-- THE SECOND FORM's CARD OF 'pithlaw16.ParseCheapest'. -/
def parseCheapestUptoCard : Claim7 := { stood := { row := parseCheapestUptoRow, standIns := [], harness := (true, "4eefcad272193e365186f60992aa6a26ca1190e5c5f3e959242a4c8f1ed18c54"), looks := false }, kinds := [], alts := [], laidByText := true, laidKinds := [.data, .data, .data, .data], laidTests := true, laidLooks := .later }
def ParseCheapestUptoCardSaid : Prop := Claim7.holds Tryd.pinned (.plain (OpenSpec.upto parseCheapestSpec)) parseCheapestUptoCard

/-- THE SECOND FORM's CARD OF 'pithlaw16.ParseMeans'. -/
def parseMeansUptoCard : Claim7 := { stood := { row := parseMeansUptoRow, standIns := [], harness := (true, "4eefcad272193e365186f60992aa6a26ca1190e5c5f3e959242a4c8f1ed18c54"), looks := false }, kinds := [], alts := [], laidByText := true, laidKinds := [.data, .data, .data, .data], laidTests := true, laidLooks := .later }
def ParseMeansUptoCardSaid : Prop := Claim7.holds Tryd.pinned (.plain (OpenSpec.upto parseMeansSpec)) parseMeansUptoCard
end Rows
end Go.Proofs.YthlflcnpmabmbaaDoor
