/-
  NARROWER THAN 'FOR EVERY INPUT', by the rows' own cells (each row's printed sentence says how): SymbolApply: laid · SymbolNames: laid · SymbolGreater: laid · SymbolRows: laid · SymbolLiterals: laid.
  DERIVED. THE GIVEN ROWS OF THIS SEAT. 5 by the template 'for every input the law returns true; each argument reads behind the call as it read before'; 0 by the template 'total and deterministic' (their statements: YthcgchkcanhmnaaDoorTotals.lean).
  GIVEN WITH THE SEED: the statements are not yours to turn. If you find one false, say at which input.
  Laid BY PROGRAM, IN A SANDBOX (cutbox-rows.mjs): the forced cells as the released guide's own fill.sh prints them over the translation 5c18650adde78659… (all of the seat's roots in one cut). By AI agents, Wed Nov 11 2026. No macro, syntax, notation, axiom, sorry.
-/
import Derived.Test.YthcgchkcanhmnaaDoorChecked
import GoSem.Claim
import GoSem.ClaimJoined
import GoSem.ClaimMapViews
import Derived.JoinedTies
import Derived.KernelRfl
namespace Go.Proofs.YthcgchkcanhmnaaDoor
/- THE CELL 'sum', in the pinned program and in every row, IS THE sha256 OF THE DUMP (.gsa) THAT YthcgchkcanhmnaaDoorProg.lean LOADS. Nothing in Lean hashes anything: it is a label: what it is worth is what the hold of that sum in a sandbox is worth. -/
noncomputable def Tryd.pinned : Pinned := { name := "ythcgchkcanhmnaadoor", sum := "5c18650adde78659c95b232d3a58e2415dc689144b4135fa2566185dc1c4c6b8", checked := Tryd.checked }
namespace Rows
def none {H : Type} : Left H := { results := [], args := [] }

/- WHAT THE LISTED PACKAGE-LEVEL VARIABLES READ AS WHEN THE CALL BEGINS. Each datum BY PROGRAM (the guide's laid-datum.mjs) off the statement by which the dump's own 'gosem.cut.vars' lays the variable. In a bare row this is a premise. The card (YthcgchkcanhmnaaDoorCards.lean) ties it to the program's text. -/
def laid_pith_state_afterLit {H : Type} : DataW H := .agg [.lit (.int .i64 0), .lit (.int .i64 0), .lit (.int .i64 0), .lit (.int .i64 0), .lit (.int .i64 1), .lit (.int .i64 2), .lit (.int .i64 3), .lit (.int .i64 4), .lit (.int .i64 5), .lit (.int .i64 6), .lit (.int .i64 4), .lit (.int .i64 5)]
def laid_pith_state_afterMatch {H : Type} : DataW H := .agg [.lit (.int .i64 7), .lit (.int .i64 7), .lit (.int .i64 7), .lit (.int .i64 7), .lit (.int .i64 7), .lit (.int .i64 7), .lit (.int .i64 7), .lit (.int .i64 10), .lit (.int .i64 10), .lit (.int .i64 10), .lit (.int .i64 10), .lit (.int .i64 10)]
def laid_pith_state_afterRep {H : Type} : DataW H := .agg [.lit (.int .i64 8), .lit (.int .i64 8), .lit (.int .i64 8), .lit (.int .i64 8), .lit (.int .i64 8), .lit (.int .i64 8), .lit (.int .i64 8), .lit (.int .i64 11), .lit (.int .i64 11), .lit (.int .i64 11), .lit (.int .i64 11), .lit (.int .i64 11)]
def laid_pith_state_afterShort {H : Type} : DataW H := .agg [.lit (.int .i64 9), .lit (.int .i64 9), .lit (.int .i64 9), .lit (.int .i64 9), .lit (.int .i64 9), .lit (.int .i64 9), .lit (.int .i64 9), .lit (.int .i64 11), .lit (.int .i64 11), .lit (.int .i64 11), .lit (.int .i64 11), .lit (.int .i64 11)]

/-- 'pithlaw13.SymbolApply': WHATEVER THE INPUT: true; the input reads as it did. -/
def symbolApplySpec : ChangeSpec := { name := "symbolApply", fn := fun _ => fun
  | [d1, d2, d3, d4, d5] => { results := [.lit (.bool true)], args := [d1, d2, d3, d4, d5] }
  | _ => none }
def symbolApplyRow : OpenClaim := { program := "ythcgchkcanhmnaadoor", sum := "5c18650adde78659c95b232d3a58e2415dc689144b4135fa2566185dc1c4c6b8", func := "pith/pithlaw13.SymbolApply", spec := "symbolApply", named := ["pith/state.afterLit", "pith/state.afterShort", "pith/state.afterMatch", "pith/state.afterRep"], apart := false, laid := [("pith/state.afterLit", laid_pith_state_afterLit), ("pith/state.afterMatch", laid_pith_state_afterMatch), ("pith/state.afterRep", laid_pith_state_afterRep), ("pith/state.afterShort", laid_pith_state_afterShort)] }
def SymbolApplySaid : Prop := symbolApplyRow.holds Tryd.pinned (OpenSpec.ofChange symbolApplySpec)

/-- ITS FALSE NEIGHBOUR: 'it returns false'. Refute it at one input. -/
def symbolApplyWrong : ChangeSpec := { name := "symbolApply", fn := fun _ => fun
  | [d1, d2, d3, d4, d5] => { results := [.lit (.bool false)], args := [d1, d2, d3, d4, d5] }
  | _ => none }
def SymbolApplyWrongFalsely : Prop := symbolApplyRow.holds Tryd.pinned (OpenSpec.ofChange symbolApplyWrong)

/-- 'pithlaw13.SymbolNames': WHATEVER THE INPUT: true; the input reads as it did. -/
def symbolNamesSpec : ChangeSpec := { name := "symbolNames", fn := fun _ => fun
  | [d1, d2] => { results := [.lit (.bool true)], args := [d1, d2] }
  | _ => none }
def symbolNamesRow : OpenClaim := { program := "ythcgchkcanhmnaadoor", sum := "5c18650adde78659c95b232d3a58e2415dc689144b4135fa2566185dc1c4c6b8", func := "pith/pithlaw13.SymbolNames", spec := "symbolNames", named := ["pith/state.afterLit", "pith/state.afterShort", "pith/state.afterMatch", "pith/state.afterRep"], apart := false, laid := [("pith/state.afterLit", laid_pith_state_afterLit), ("pith/state.afterMatch", laid_pith_state_afterMatch), ("pith/state.afterRep", laid_pith_state_afterRep), ("pith/state.afterShort", laid_pith_state_afterShort)] }
def SymbolNamesSaid : Prop := symbolNamesRow.holds Tryd.pinned (OpenSpec.ofChange symbolNamesSpec)

/-- ITS FALSE NEIGHBOUR: 'it returns false'. Refute it at one input. -/
def symbolNamesWrong : ChangeSpec := { name := "symbolNames", fn := fun _ => fun
  | [d1, d2] => { results := [.lit (.bool false)], args := [d1, d2] }
  | _ => none }
def SymbolNamesWrongFalsely : Prop := symbolNamesRow.holds Tryd.pinned (OpenSpec.ofChange symbolNamesWrong)

/-- 'pithlaw13.SymbolGreater': WHATEVER THE INPUT: true; the input reads as it did. -/
def symbolGreaterSpec : ChangeSpec := { name := "symbolGreater", fn := fun _ => fun
  | [d1, d2, d3, d4] => { results := [.lit (.bool true)], args := [d1, d2, d3, d4] }
  | _ => none }
def symbolGreaterRow : OpenClaim := { program := "ythcgchkcanhmnaadoor", sum := "5c18650adde78659c95b232d3a58e2415dc689144b4135fa2566185dc1c4c6b8", func := "pith/pithlaw13.SymbolGreater", spec := "symbolGreater", named := ["pith/state.afterLit", "pith/state.afterShort", "pith/state.afterMatch", "pith/state.afterRep"], apart := false, laid := [("pith/state.afterLit", laid_pith_state_afterLit), ("pith/state.afterMatch", laid_pith_state_afterMatch), ("pith/state.afterRep", laid_pith_state_afterRep), ("pith/state.afterShort", laid_pith_state_afterShort)] }
def SymbolGreaterSaid : Prop := symbolGreaterRow.holds Tryd.pinned (OpenSpec.ofChange symbolGreaterSpec)

/-- ITS FALSE NEIGHBOUR: 'it returns false'. Refute it at one input. -/
def symbolGreaterWrong : ChangeSpec := { name := "symbolGreater", fn := fun _ => fun
  | [d1, d2, d3, d4] => { results := [.lit (.bool false)], args := [d1, d2, d3, d4] }
  | _ => none }
def SymbolGreaterWrongFalsely : Prop := symbolGreaterRow.holds Tryd.pinned (OpenSpec.ofChange symbolGreaterWrong)

/-- 'pithlaw13.SymbolRows': WHATEVER THE INPUT: true; the input reads as it did. -/
def symbolRowsSpec : ChangeSpec := { name := "symbolRows", fn := fun _ => fun
  | [d1, d2, d3] => { results := [.lit (.bool true)], args := [d1, d2, d3] }
  | _ => none }
def symbolRowsRow : OpenClaim := { program := "ythcgchkcanhmnaadoor", sum := "5c18650adde78659c95b232d3a58e2415dc689144b4135fa2566185dc1c4c6b8", func := "pith/pithlaw13.SymbolRows", spec := "symbolRows", named := ["pith/state.afterLit", "pith/state.afterShort", "pith/state.afterMatch", "pith/state.afterRep"], apart := false, laid := [("pith/state.afterLit", laid_pith_state_afterLit), ("pith/state.afterMatch", laid_pith_state_afterMatch), ("pith/state.afterRep", laid_pith_state_afterRep), ("pith/state.afterShort", laid_pith_state_afterShort)] }
def SymbolRowsSaid : Prop := symbolRowsRow.holds Tryd.pinned (OpenSpec.ofChange symbolRowsSpec)

/-- ITS FALSE NEIGHBOUR: 'it returns false'. Refute it at one input. -/
def symbolRowsWrong : ChangeSpec := { name := "symbolRows", fn := fun _ => fun
  | [d1, d2, d3] => { results := [.lit (.bool false)], args := [d1, d2, d3] }
  | _ => none }
def SymbolRowsWrongFalsely : Prop := symbolRowsRow.holds Tryd.pinned (OpenSpec.ofChange symbolRowsWrong)

/-- 'pithlaw13.SymbolLiterals': WHATEVER THE INPUT: true; the input reads as it did. -/
def symbolLiteralsSpec : ChangeSpec := { name := "symbolLiterals", fn := fun _ => fun
  | [d1, d2, d3] => { results := [.lit (.bool true)], args := [d1, d2, d3] }
  | _ => none }
def symbolLiteralsRow : OpenClaim := { program := "ythcgchkcanhmnaadoor", sum := "5c18650adde78659c95b232d3a58e2415dc689144b4135fa2566185dc1c4c6b8", func := "pith/pithlaw13.SymbolLiterals", spec := "symbolLiterals", named := ["pith/state.afterLit", "pith/state.afterShort", "pith/state.afterMatch", "pith/state.afterRep"], apart := false, laid := [("pith/state.afterLit", laid_pith_state_afterLit), ("pith/state.afterMatch", laid_pith_state_afterMatch), ("pith/state.afterRep", laid_pith_state_afterRep), ("pith/state.afterShort", laid_pith_state_afterShort)] }
def SymbolLiteralsSaid : Prop := symbolLiteralsRow.holds Tryd.pinned (OpenSpec.ofChange symbolLiteralsSpec)

/-- ITS FALSE NEIGHBOUR: 'it returns false'. Refute it at one input. -/
def symbolLiteralsWrong : ChangeSpec := { name := "symbolLiterals", fn := fun _ => fun
  | [d1, d2, d3] => { results := [.lit (.bool false)], args := [d1, d2, d3] }
  | _ => none }
def SymbolLiteralsWrongFalsely : Prop := symbolLiteralsRow.holds Tryd.pinned (OpenSpec.ofChange symbolLiteralsWrong)

/- THE SECOND FORM. 'bulk': how many values and letters a reading holds, each counted each time it is reached (what is shared counts as often as it is met; a slice's spare places count too). A statement '..UptoSaid' is the law's where the arguments, and the package variables that the reading takes, are together of bulk at most 1048576: NARROWER than '..Said'. Prove '..Said' where nothing that the law and all that it calls make is longer than what came in: it says more and counts as full. Else prove '..UptoSaid'. A law counts once. -/
mutual
def uptoBulk {H : Type} : DataW H → Nat
  | .lit (.string bytes) => bytes.length + 1
  | .lit _ => 1
  | .nil => 1
  | .ptr d => uptoBulk d + 1
  | .slice elems spare => uptoBulkAll elems + uptoBulkAll spare + 1
  | .agg parts => uptoBulkAll parts + 1
  | .iface _ d => uptoBulk d + 1
  | .map entries => uptoBulkEntries entries + 1
  | .held _ => 1
def uptoBulkAll {H : Type} : List (DataW H) → Nat
  | [] => 0
  | d :: r => uptoBulk d + uptoBulkAll r
def uptoBulkEntries {H : Type} : List (Lit × DataW H) → Nat
  | [] => 0
  | x :: r => uptoBulkEntry x + uptoBulkEntries r
def uptoBulkEntry {H : Type} : Lit × DataW H → Nat
  | (.string bytes, d) => bytes.length + uptoBulk d + 1
  | (_, d) => uptoBulk d + 1
 end
def uptoSmall : (H : Type) → List (DataW H) → Bool := fun _ ds => decide (uptoBulkAll ds ≤ 1048576)
def OpenSpec.upto (s : _root_.Go.ChangeSpec) : _root_.Go.OpenSpec := { _root_.Go.OpenSpec.ofChange s with cond := some uptoSmall }

/-- 'pithlaw13.SymbolApply', WHERE WHAT IT READS IS OF BULK AT MOST 1048576: true; the input reads as it did. -/
def symbolApplyUptoRow : OpenClaim := { program := "ythcgchkcanhmnaadoor", sum := "5c18650adde78659c95b232d3a58e2415dc689144b4135fa2566185dc1c4c6b8", func := "pith/pithlaw13.SymbolApply", spec := "symbolApply", named := ["pith/state.afterLit", "pith/state.afterShort", "pith/state.afterMatch", "pith/state.afterRep"], apart := false, laid := [("pith/state.afterLit", laid_pith_state_afterLit), ("pith/state.afterMatch", laid_pith_state_afterMatch), ("pith/state.afterRep", laid_pith_state_afterRep), ("pith/state.afterShort", laid_pith_state_afterShort)], narrowed := true }
def SymbolApplyUptoSaid : Prop := symbolApplyUptoRow.holds Tryd.pinned (OpenSpec.upto symbolApplySpec)

/-- 'pithlaw13.SymbolNames', WHERE WHAT IT READS IS OF BULK AT MOST 1048576: true; the input reads as it did. -/
def symbolNamesUptoRow : OpenClaim := { program := "ythcgchkcanhmnaadoor", sum := "5c18650adde78659c95b232d3a58e2415dc689144b4135fa2566185dc1c4c6b8", func := "pith/pithlaw13.SymbolNames", spec := "symbolNames", named := ["pith/state.afterLit", "pith/state.afterShort", "pith/state.afterMatch", "pith/state.afterRep"], apart := false, laid := [("pith/state.afterLit", laid_pith_state_afterLit), ("pith/state.afterMatch", laid_pith_state_afterMatch), ("pith/state.afterRep", laid_pith_state_afterRep), ("pith/state.afterShort", laid_pith_state_afterShort)], narrowed := true }
def SymbolNamesUptoSaid : Prop := symbolNamesUptoRow.holds Tryd.pinned (OpenSpec.upto symbolNamesSpec)

/-- 'pithlaw13.SymbolGreater', WHERE WHAT IT READS IS OF BULK AT MOST 1048576: true; the input reads as it did. -/
def symbolGreaterUptoRow : OpenClaim := { program := "ythcgchkcanhmnaadoor", sum := "5c18650adde78659c95b232d3a58e2415dc689144b4135fa2566185dc1c4c6b8", func := "pith/pithlaw13.SymbolGreater", spec := "symbolGreater", named := ["pith/state.afterLit", "pith/state.afterShort", "pith/state.afterMatch", "pith/state.afterRep"], apart := false, laid := [("pith/state.afterLit", laid_pith_state_afterLit), ("pith/state.afterMatch", laid_pith_state_afterMatch), ("pith/state.afterRep", laid_pith_state_afterRep), ("pith/state.afterShort", laid_pith_state_afterShort)], narrowed := true }
def SymbolGreaterUptoSaid : Prop := symbolGreaterUptoRow.holds Tryd.pinned (OpenSpec.upto symbolGreaterSpec)

/-- 'pithlaw13.SymbolRows', WHERE WHAT IT READS IS OF BULK AT MOST 1048576: true; the input reads as it did. -/
def symbolRowsUptoRow : OpenClaim := { program := "ythcgchkcanhmnaadoor", sum := "5c18650adde78659c95b232d3a58e2415dc689144b4135fa2566185dc1c4c6b8", func := "pith/pithlaw13.SymbolRows", spec := "symbolRows", named := ["pith/state.afterLit", "pith/state.afterShort", "pith/state.afterMatch", "pith/state.afterRep"], apart := false, laid := [("pith/state.afterLit", laid_pith_state_afterLit), ("pith/state.afterMatch", laid_pith_state_afterMatch), ("pith/state.afterRep", laid_pith_state_afterRep), ("pith/state.afterShort", laid_pith_state_afterShort)], narrowed := true }
def SymbolRowsUptoSaid : Prop := symbolRowsUptoRow.holds Tryd.pinned (OpenSpec.upto symbolRowsSpec)

/-- 'pithlaw13.SymbolLiterals', WHERE WHAT IT READS IS OF BULK AT MOST 1048576: true; the input reads as it did. -/
def symbolLiteralsUptoRow : OpenClaim := { program := "ythcgchkcanhmnaadoor", sum := "5c18650adde78659c95b232d3a58e2415dc689144b4135fa2566185dc1c4c6b8", func := "pith/pithlaw13.SymbolLiterals", spec := "symbolLiterals", named := ["pith/state.afterLit", "pith/state.afterShort", "pith/state.afterMatch", "pith/state.afterRep"], apart := false, laid := [("pith/state.afterLit", laid_pith_state_afterLit), ("pith/state.afterMatch", laid_pith_state_afterMatch), ("pith/state.afterRep", laid_pith_state_afterRep), ("pith/state.afterShort", laid_pith_state_afterShort)], narrowed := true }
def SymbolLiteralsUptoSaid : Prop := symbolLiteralsUptoRow.holds Tryd.pinned (OpenSpec.upto symbolLiteralsSpec)

end Rows
end Go.Proofs.YthcgchkcanhmnaaDoor
