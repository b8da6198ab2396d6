/-
  DERIVED. GIVEN WITH THE SEED: THE CARDS: each row of YthfmomhcalppfaaDoorRows.lean that lists a variable, with what it lists TIED to the program's text (the seventh form; the later family's looks); each row that meets fmt, with fmt's text TOLD by the authors' own Lean function (tested against real Go, not proved from fmt's source: count such statements apart). THE CARD IS WHAT COUNTS. Prove the row's statement (the work); the ties are given (YthfmomhcalppfaaDoorTie.lean); close each card by the builder's one call (the guide's Derived/Test/ToyasCard.lean, 'card_holds'). Laid BY PROGRAM, IN A SANDBOX (cutbox-door.mjs). By AI agents, Wed Nov 11 2026. No macro, syntax, notation, axiom, sorry.
-/
import Derived.Test.YthfmomhcalppfaaDoorRows
import GoSem.ClaimSeven
namespace Go.Proofs.YthfmomhcalppfaaDoor
namespace Rows

/-- THE TIED CARD OF 'pithlaw16.ParsePrices'. -/
def parsePricesCard : Claim7 := { stood := { row := parsePricesRow, standIns := [], harness := (true, "73f920ac41bf88c197eb71a0c1ae3a3df91c745fdb1e37ded17b8e700a9186c4"), looks := false }, kinds := [], alts := [], laidByText := true, laidKinds := [.data, .data, .data, .data], laidTests := true, laidLooks := .later }
def ParsePricesCardSaid : Prop := Claim7.holds Tryd.pinned (.plain (OpenSpec.ofChange parsePricesSpec)) parsePricesCard

/-- THE SECOND FORM's CARD OF 'pithlaw16.ParsePrices'. -/
def parsePricesUptoCard : Claim7 := { stood := { row := parsePricesUptoRow, standIns := [], harness := (true, "73f920ac41bf88c197eb71a0c1ae3a3df91c745fdb1e37ded17b8e700a9186c4"), looks := false }, kinds := [], alts := [], laidByText := true, laidKinds := [.data, .data, .data, .data], laidTests := true, laidLooks := .later }
def ParsePricesUptoCardSaid : Prop := Claim7.holds Tryd.pinned (.plain (OpenSpec.upto parsePricesSpec)) parsePricesUptoCard
end Rows
end Go.Proofs.YthfmomhcalppfaaDoor
