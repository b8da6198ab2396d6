/-
  DERIVED. GIVEN WITH THE SEED: THE CARDS: each row of YthcgchkcanhmnaaDoorRows.lean that lists a variable, with what it lists TIED to the program's text (the seventh form; the later family's looks); each row that meets fmt, with fmt's text TOLD by the authors' own Lean function (tested against real Go, not proved from fmt's source: count such statements apart). THE CARD IS WHAT COUNTS. Prove the row's statement (the work); the ties are given (YthcgchkcanhmnaaDoorTie.lean); close each card by the builder's one call (the guide's Derived/Test/ToyasCard.lean, 'card_holds'). Laid BY PROGRAM, IN A SANDBOX (cutbox-door.mjs). By AI agents, Wed Nov 11 2026. No macro, syntax, notation, axiom, sorry.
-/
import Derived.Test.YthcgchkcanhmnaaDoorRows
import GoSem.ClaimSeven
namespace Go.Proofs.YthcgchkcanhmnaaDoor
namespace Rows

/-- THE TIED CARD OF 'pithlaw13.SymbolApply'. -/
def symbolApplyCard : Claim7 := { stood := { row := symbolApplyRow, standIns := [], harness := (true, "ebfa642f32d3f84b811f10b8ebe647fc509f9057d572527aec6517d04f2110b4"), looks := false }, kinds := [], alts := [], laidByText := true, laidKinds := [.data, .data, .data, .data], laidTests := true, laidLooks := .later }
def SymbolApplyCardSaid : Prop := Claim7.holds Tryd.pinned (.plain (OpenSpec.ofChange symbolApplySpec)) symbolApplyCard

/-- THE TIED CARD OF 'pithlaw13.SymbolNames'. -/
def symbolNamesCard : Claim7 := { stood := { row := symbolNamesRow, standIns := [], harness := (true, "ebfa642f32d3f84b811f10b8ebe647fc509f9057d572527aec6517d04f2110b4"), looks := false }, kinds := [], alts := [], laidByText := true, laidKinds := [.data, .data, .data, .data], laidTests := true, laidLooks := .later }
def SymbolNamesCardSaid : Prop := Claim7.holds Tryd.pinned (.plain (OpenSpec.ofChange symbolNamesSpec)) symbolNamesCard

/-- THE TIED CARD OF 'pithlaw13.SymbolGreater'. -/
def symbolGreaterCard : Claim7 := { stood := { row := symbolGreaterRow, standIns := [], harness := (true, "ebfa642f32d3f84b811f10b8ebe647fc509f9057d572527aec6517d04f2110b4"), looks := false }, kinds := [], alts := [], laidByText := true, laidKinds := [.data, .data, .data, .data], laidTests := true, laidLooks := .later }
def SymbolGreaterCardSaid : Prop := Claim7.holds Tryd.pinned (.plain (OpenSpec.ofChange symbolGreaterSpec)) symbolGreaterCard

/-- THE TIED CARD OF 'pithlaw13.SymbolRows'. -/
def symbolRowsCard : Claim7 := { stood := { row := symbolRowsRow, standIns := [], harness := (true, "ebfa642f32d3f84b811f10b8ebe647fc509f9057d572527aec6517d04f2110b4"), looks := false }, kinds := [], alts := [], laidByText := true, laidKinds := [.data, .data, .data, .data], laidTests := true, laidLooks := .later }
def SymbolRowsCardSaid : Prop := Claim7.holds Tryd.pinned (.plain (OpenSpec.ofChange symbolRowsSpec)) symbolRowsCard

/-- THE TIED CARD OF 'pithlaw13.SymbolLiterals'. -/
def symbolLiteralsCard : Claim7 := { stood := { row := symbolLiteralsRow, standIns := [], harness := (true, "ebfa642f32d3f84b811f10b8ebe647fc509f9057d572527aec6517d04f2110b4"), looks := false }, kinds := [], alts := [], laidByText := true, laidKinds := [.data, .data, .data, .data], laidTests := true, laidLooks := .later }
def SymbolLiteralsCardSaid : Prop := Claim7.holds Tryd.pinned (.plain (OpenSpec.ofChange symbolLiteralsSpec)) symbolLiteralsCard

/-- THE SECOND FORM's CARD OF 'pithlaw13.SymbolApply'. -/
def symbolApplyUptoCard : Claim7 := { stood := { row := symbolApplyUptoRow, standIns := [], harness := (true, "ebfa642f32d3f84b811f10b8ebe647fc509f9057d572527aec6517d04f2110b4"), looks := false }, kinds := [], alts := [], laidByText := true, laidKinds := [.data, .data, .data, .data], laidTests := true, laidLooks := .later }
def SymbolApplyUptoCardSaid : Prop := Claim7.holds Tryd.pinned (.plain (OpenSpec.upto symbolApplySpec)) symbolApplyUptoCard

/-- THE SECOND FORM's CARD OF 'pithlaw13.SymbolNames'. -/
def symbolNamesUptoCard : Claim7 := { stood := { row := symbolNamesUptoRow, standIns := [], harness := (true, "ebfa642f32d3f84b811f10b8ebe647fc509f9057d572527aec6517d04f2110b4"), looks := false }, kinds := [], alts := [], laidByText := true, laidKinds := [.data, .data, .data, .data], laidTests := true, laidLooks := .later }
def SymbolNamesUptoCardSaid : Prop := Claim7.holds Tryd.pinned (.plain (OpenSpec.upto symbolNamesSpec)) symbolNamesUptoCard

/-- THE SECOND FORM's CARD OF 'pithlaw13.SymbolGreater'. -/
def symbolGreaterUptoCard : Claim7 := { stood := { row := symbolGreaterUptoRow, standIns := [], harness := (true, "ebfa642f32d3f84b811f10b8ebe647fc509f9057d572527aec6517d04f2110b4"), looks := false }, kinds := [], alts := [], laidByText := true, laidKinds := [.data, .data, .data, .data], laidTests := true, laidLooks := .later }
def SymbolGreaterUptoCardSaid : Prop := Claim7.holds Tryd.pinned (.plain (OpenSpec.upto symbolGreaterSpec)) symbolGreaterUptoCard

/-- THE SECOND FORM's CARD OF 'pithlaw13.SymbolRows'. -/
def symbolRowsUptoCard : Claim7 := { stood := { row := symbolRowsUptoRow, standIns := [], harness := (true, "ebfa642f32d3f84b811f10b8ebe647fc509f9057d572527aec6517d04f2110b4"), looks := false }, kinds := [], alts := [], laidByText := true, laidKinds := [.data, .data, .data, .data], laidTests := true, laidLooks := .later }
def SymbolRowsUptoCardSaid : Prop := Claim7.holds Tryd.pinned (.plain (OpenSpec.upto symbolRowsSpec)) symbolRowsUptoCard

/-- THE SECOND FORM's CARD OF 'pithlaw13.SymbolLiterals'. -/
def symbolLiteralsUptoCard : Claim7 := { stood := { row := symbolLiteralsUptoRow, standIns := [], harness := (true, "ebfa642f32d3f84b811f10b8ebe647fc509f9057d572527aec6517d04f2110b4"), looks := false }, kinds := [], alts := [], laidByText := true, laidKinds := [.data, .data, .data, .data], laidTests := true, laidLooks := .later }
def SymbolLiteralsUptoCardSaid : Prop := Claim7.holds Tryd.pinned (.plain (OpenSpec.upto symbolLiteralsSpec)) symbolLiteralsUptoCard
end Rows
end Go.Proofs.YthcgchkcanhmnaaDoor
