/-
  NARROWER THAN 'FOR EVERY INPUT', by the rows' own cells (each row's printed sentence says how): ParsePrices: laid · ParseEqual: laid · ParseRows: laid · ParseCheapest: laid · ParseMeans: laid.
  DERIVED. THE GIVEN ROWS OF THIS SEAT. 5 by the template 'for every input the law returns true; each argument reads behind the call as it read before'; 0 by the template 'total and deterministic' (their statements: YthlflcnpmabmbaaDoorTotals.lean).
  GIVEN WITH THE SEED: the statements are not yours to turn. If you find one false, say at which input.
  Laid BY PROGRAM, IN A SANDBOX (cutbox-rows.mjs): the forced cells as the released guide's own fill.sh prints them over the translation ec99475a990b69c7… (all of the seat's roots in one cut). By AI agents, Wed Nov 11 2026. No macro, syntax, notation, axiom, sorry.
-/
import Derived.Test.YthlflcnpmabmbaaDoorChecked
import GoSem.Claim
import GoSem.ClaimJoined
import GoSem.ClaimMapViews
import Derived.JoinedTies
import Derived.KernelRfl
namespace Go.Proofs.YthlflcnpmabmbaaDoor
/- THE CELL 'sum', in the pinned program and in every row, IS THE sha256 OF THE DUMP (.gsa) THAT YthlflcnpmabmbaaDoorProg.lean LOADS. Nothing in Lean hashes anything: it is a label: what it is worth is what the hold of that sum in a sandbox is worth. -/
noncomputable def Tryd.pinned : Pinned := { name := "ythlflcnpmabmbaadoor", sum := "ec99475a990b69c7e89e208a2c5e454e7670f015f16340ff58ad21c754d9c8fa", checked := Tryd.checked }
namespace Rows
def none {H : Type} : Left H := { results := [], args := [] }

/- WHAT THE LISTED PACKAGE-LEVEL VARIABLES READ AS WHEN THE CALL BEGINS. Each datum BY PROGRAM (the guide's laid-datum.mjs) off the statement by which the dump's own 'gosem.cut.vars' lays the variable. In a bare row this is a premise. The card (YthlflcnpmabmbaaDoorCards.lean) ties it to the program's text. -/
def laid_pith_state_afterLit {H : Type} : DataW H := .agg [.lit (.int .i64 0), .lit (.int .i64 0), .lit (.int .i64 0), .lit (.int .i64 0), .lit (.int .i64 1), .lit (.int .i64 2), .lit (.int .i64 3), .lit (.int .i64 4), .lit (.int .i64 5), .lit (.int .i64 6), .lit (.int .i64 4), .lit (.int .i64 5)]
def laid_pith_state_afterMatch {H : Type} : DataW H := .agg [.lit (.int .i64 7), .lit (.int .i64 7), .lit (.int .i64 7), .lit (.int .i64 7), .lit (.int .i64 7), .lit (.int .i64 7), .lit (.int .i64 7), .lit (.int .i64 10), .lit (.int .i64 10), .lit (.int .i64 10), .lit (.int .i64 10), .lit (.int .i64 10)]
def laid_pith_state_afterRep {H : Type} : DataW H := .agg [.lit (.int .i64 8), .lit (.int .i64 8), .lit (.int .i64 8), .lit (.int .i64 8), .lit (.int .i64 8), .lit (.int .i64 8), .lit (.int .i64 8), .lit (.int .i64 11), .lit (.int .i64 11), .lit (.int .i64 11), .lit (.int .i64 11), .lit (.int .i64 11)]
def laid_pith_state_afterShort {H : Type} : DataW H := .agg [.lit (.int .i64 9), .lit (.int .i64 9), .lit (.int .i64 9), .lit (.int .i64 9), .lit (.int .i64 9), .lit (.int .i64 9), .lit (.int .i64 9), .lit (.int .i64 11), .lit (.int .i64 11), .lit (.int .i64 11), .lit (.int .i64 11), .lit (.int .i64 11)]

/-- 'pithlaw16.ParsePrices': WHATEVER THE INPUT: true; the input reads as it did. -/
def parsePricesSpec : ChangeSpec := { name := "parsePrices", fn := fun _ => fun
  | [d] => { results := [.lit (.bool true)], args := [d] }
  | _ => none }
def parsePricesRow : OpenClaim := { program := "ythlflcnpmabmbaadoor", sum := "ec99475a990b69c7e89e208a2c5e454e7670f015f16340ff58ad21c754d9c8fa", func := "pith/pithlaw16.ParsePrices", spec := "parsePrices", named := ["pith/state.afterLit", "pith/state.afterShort", "pith/state.afterMatch", "pith/state.afterRep"], plainKeys := false, apart := false, laid := [("pith/state.afterLit", laid_pith_state_afterLit), ("pith/state.afterMatch", laid_pith_state_afterMatch), ("pith/state.afterRep", laid_pith_state_afterRep), ("pith/state.afterShort", laid_pith_state_afterShort)] }
def ParsePricesSaid : Prop := parsePricesRow.holds Tryd.pinned (OpenSpec.ofChange parsePricesSpec)

/-- ITS FALSE NEIGHBOUR: 'it returns false'. Refute it at one input. -/
def parsePricesWrong : ChangeSpec := { name := "parsePrices", fn := fun _ => fun
  | [d] => { results := [.lit (.bool false)], args := [d] }
  | _ => none }
def ParsePricesWrongFalsely : Prop := parsePricesRow.holds Tryd.pinned (OpenSpec.ofChange parsePricesWrong)

/-- 'pithlaw16.ParseEqual': WHATEVER THE INPUT: true; the input reads as it did. -/
def parseEqualSpec : ChangeSpec := { name := "parseEqual", fn := fun _ => fun
  | [d1, d2] => { results := [.lit (.bool true)], args := [d1, d2] }
  | _ => none }
def parseEqualRow : OpenClaim := { program := "ythlflcnpmabmbaadoor", sum := "ec99475a990b69c7e89e208a2c5e454e7670f015f16340ff58ad21c754d9c8fa", func := "pith/pithlaw16.ParseEqual", spec := "parseEqual", unfollowed := true, recurses := true, named := ["pith/state.afterLit", "pith/state.afterShort", "pith/state.afterMatch", "pith/state.afterRep"], plainKeys := false, apart := false, laid := [("pith/state.afterLit", laid_pith_state_afterLit), ("pith/state.afterMatch", laid_pith_state_afterMatch), ("pith/state.afterRep", laid_pith_state_afterRep), ("pith/state.afterShort", laid_pith_state_afterShort)] }
def ParseEqualSaid : Prop := parseEqualRow.holds Tryd.pinned (OpenSpec.ofChange parseEqualSpec)

/-- ITS FALSE NEIGHBOUR: 'it returns false'. Refute it at one input. -/
def parseEqualWrong : ChangeSpec := { name := "parseEqual", fn := fun _ => fun
  | [d1, d2] => { results := [.lit (.bool false)], args := [d1, d2] }
  | _ => none }
def ParseEqualWrongFalsely : Prop := parseEqualRow.holds Tryd.pinned (OpenSpec.ofChange parseEqualWrong)

/-- 'pithlaw16.ParseRows': WHATEVER THE INPUT: true; the input reads as it did. -/
def parseRowsSpec : ChangeSpec := { name := "parseRows", fn := fun _ => fun
  | [d] => { results := [.lit (.bool true)], args := [d] }
  | _ => none }
def parseRowsRow : OpenClaim := { program := "ythlflcnpmabmbaadoor", sum := "ec99475a990b69c7e89e208a2c5e454e7670f015f16340ff58ad21c754d9c8fa", func := "pith/pithlaw16.ParseRows", spec := "parseRows", unfollowed := true, recurses := true, named := ["pith/state.afterLit", "pith/state.afterShort", "pith/state.afterMatch", "pith/state.afterRep"], plainKeys := false, apart := false, laid := [("pith/state.afterLit", laid_pith_state_afterLit), ("pith/state.afterMatch", laid_pith_state_afterMatch), ("pith/state.afterRep", laid_pith_state_afterRep), ("pith/state.afterShort", laid_pith_state_afterShort)] }
def ParseRowsSaid : Prop := parseRowsRow.holds Tryd.pinned (OpenSpec.ofChange parseRowsSpec)

/-- ITS FALSE NEIGHBOUR: 'it returns false'. Refute it at one input. -/
def parseRowsWrong : ChangeSpec := { name := "parseRows", fn := fun _ => fun
  | [d] => { results := [.lit (.bool false)], args := [d] }
  | _ => none }
def ParseRowsWrongFalsely : Prop := parseRowsRow.holds Tryd.pinned (OpenSpec.ofChange parseRowsWrong)

/-- 'pithlaw16.ParseCheapest': WHATEVER THE INPUT: true; the input reads as it did. -/
def parseCheapestSpec : ChangeSpec := { name := "parseCheapest", fn := fun _ => fun
  | [d1, d2] => { results := [.lit (.bool true)], args := [d1, d2] }
  | _ => none }
def parseCheapestRow : OpenClaim := { program := "ythlflcnpmabmbaadoor", sum := "ec99475a990b69c7e89e208a2c5e454e7670f015f16340ff58ad21c754d9c8fa", func := "pith/pithlaw16.ParseCheapest", spec := "parseCheapest", unfollowed := true, recurses := true, named := ["pith/state.afterLit", "pith/state.afterShort", "pith/state.afterMatch", "pith/state.afterRep"], plainKeys := false, apart := false, laid := [("pith/state.afterLit", laid_pith_state_afterLit), ("pith/state.afterMatch", laid_pith_state_afterMatch), ("pith/state.afterRep", laid_pith_state_afterRep), ("pith/state.afterShort", laid_pith_state_afterShort)] }
def ParseCheapestSaid : Prop := parseCheapestRow.holds Tryd.pinned (OpenSpec.ofChange parseCheapestSpec)

/-- ITS FALSE NEIGHBOUR: 'it returns false'. Refute it at one input. -/
def parseCheapestWrong : ChangeSpec := { name := "parseCheapest", fn := fun _ => fun
  | [d1, d2] => { results := [.lit (.bool false)], args := [d1, d2] }
  | _ => none }
def ParseCheapestWrongFalsely : Prop := parseCheapestRow.holds Tryd.pinned (OpenSpec.ofChange parseCheapestWrong)

/-- 'pithlaw16.ParseMeans': WHATEVER THE INPUT: true; the input reads as it did. -/
def parseMeansSpec : ChangeSpec := { name := "parseMeans", fn := fun _ => fun
  | [d] => { results := [.lit (.bool true)], args := [d] }
  | _ => none }
def parseMeansRow : OpenClaim := { program := "ythlflcnpmabmbaadoor", sum := "ec99475a990b69c7e89e208a2c5e454e7670f015f16340ff58ad21c754d9c8fa", func := "pith/pithlaw16.ParseMeans", spec := "parseMeans", unfollowed := true, recurses := true, named := ["pith/state.afterLit", "pith/state.afterShort", "pith/state.afterMatch", "pith/state.afterRep"], plainKeys := false, apart := false, laid := [("pith/state.afterLit", laid_pith_state_afterLit), ("pith/state.afterMatch", laid_pith_state_afterMatch), ("pith/state.afterRep", laid_pith_state_afterRep), ("pith/state.afterShort", laid_pith_state_afterShort)] }
def ParseMeansSaid : Prop := parseMeansRow.holds Tryd.pinned (OpenSpec.ofChange parseMeansSpec)

/-- ITS FALSE NEIGHBOUR: 'it returns false'. Refute it at one input. -/
def parseMeansWrong : ChangeSpec := { name := "parseMeans", fn := fun _ => fun
  | [d] => { results := [.lit (.bool false)], args := [d] }
  | _ => none }
def ParseMeansWrongFalsely : Prop := parseMeansRow.holds Tryd.pinned (OpenSpec.ofChange parseMeansWrong)

/- THE SECOND FORM. 'bulk': how many values and letters a reading holds, each counted each time it is reached (what is shared counts as often as it is met; a slice's spare places count too). A statement '..UptoSaid' is the law's where the arguments, and the package variables that the reading takes, are together of bulk at most 1048576: NARROWER than '..Said'. Prove '..Said' where nothing that the law and all that it calls make is longer than what came in: it says more and counts as full. Else prove '..UptoSaid'. A law counts once. -/
mutual
def uptoBulk {H : Type} : DataW H → Nat
  | .lit (.string bytes) => bytes.length + 1
  | .lit _ => 1
  | .nil => 1
  | .ptr d => uptoBulk d + 1
  | .slice elems spare => uptoBulkAll elems + uptoBulkAll spare + 1
  | .agg parts => uptoBulkAll parts + 1
  | .iface _ d => uptoBulk d + 1
  | .map entries => uptoBulkEntries entries + 1
  | .held _ => 1
def uptoBulkAll {H : Type} : List (DataW H) → Nat
  | [] => 0
  | d :: r => uptoBulk d + uptoBulkAll r
def uptoBulkEntries {H : Type} : List (Lit × DataW H) → Nat
  | [] => 0
  | x :: r => uptoBulkEntry x + uptoBulkEntries r
def uptoBulkEntry {H : Type} : Lit × DataW H → Nat
  | (.string bytes, d) => bytes.length + uptoBulk d + 1
  | (_, d) => uptoBulk d + 1
 end
def uptoSmall : (H : Type) → List (DataW H) → Bool := fun _ ds => decide (uptoBulkAll ds ≤ 1048576)
def OpenSpec.upto (s : _root_.Go.ChangeSpec) : _root_.Go.OpenSpec := { _root_.Go.OpenSpec.ofChange s with cond := some uptoSmall }

/-- 'pithlaw16.ParsePrices', WHERE WHAT IT READS IS OF BULK AT MOST 1048576: true; the input reads as it did. -/
def parsePricesUptoRow : OpenClaim := { program := "ythlflcnpmabmbaadoor", sum := "ec99475a990b69c7e89e208a2c5e454e7670f015f16340ff58ad21c754d9c8fa", func := "pith/pithlaw16.ParsePrices", spec := "parsePrices", named := ["pith/state.afterLit", "pith/state.afterShort", "pith/state.afterMatch", "pith/state.afterRep"], plainKeys := false, apart := false, laid := [("pith/state.afterLit", laid_pith_state_afterLit), ("pith/state.afterMatch", laid_pith_state_afterMatch), ("pith/state.afterRep", laid_pith_state_afterRep), ("pith/state.afterShort", laid_pith_state_afterShort)], narrowed := true }
def ParsePricesUptoSaid : Prop := parsePricesUptoRow.holds Tryd.pinned (OpenSpec.upto parsePricesSpec)

/-- 'pithlaw16.ParseEqual', WHERE WHAT IT READS IS OF BULK AT MOST 1048576: true; the input reads as it did. -/
def parseEqualUptoRow : OpenClaim := { program := "ythlflcnpmabmbaadoor", sum := "ec99475a990b69c7e89e208a2c5e454e7670f015f16340ff58ad21c754d9c8fa", func := "pith/pithlaw16.ParseEqual", spec := "parseEqual", unfollowed := true, recurses := true, named := ["pith/state.afterLit", "pith/state.afterShort", "pith/state.afterMatch", "pith/state.afterRep"], plainKeys := false, apart := false, laid := [("pith/state.afterLit", laid_pith_state_afterLit), ("pith/state.afterMatch", laid_pith_state_afterMatch), ("pith/state.afterRep", laid_pith_state_afterRep), ("pith/state.afterShort", laid_pith_state_afterShort)], narrowed := true }
def ParseEqualUptoSaid : Prop := parseEqualUptoRow.holds Tryd.pinned (OpenSpec.upto parseEqualSpec)

/-- 'pithlaw16.ParseRows', WHERE WHAT IT READS IS OF BULK AT MOST 1048576: true; the input reads as it did. -/
def parseRowsUptoRow : OpenClaim := { program := "ythlflcnpmabmbaadoor", sum := "ec99475a990b69c7e89e208a2c5e454e7670f015f16340ff58ad21c754d9c8fa", func := "pith/pithlaw16.ParseRows", spec := "parseRows", unfollowed := true, recurses := true, named := ["pith/state.afterLit", "pith/state.afterShort", "pith/state.afterMatch", "pith/state.afterRep"], plainKeys := false, apart := false, laid := [("pith/state.afterLit", laid_pith_state_afterLit), ("pith/state.afterMatch", laid_pith_state_afterMatch), ("pith/state.afterRep", laid_pith_state_afterRep), ("pith/state.afterShort", laid_pith_state_afterShort)], narrowed := true }
def ParseRowsUptoSaid : Prop := parseRowsUptoRow.holds Tryd.pinned (OpenSpec.upto parseRowsSpec)

/-- 'pithlaw16.ParseCheapest', WHERE WHAT IT READS IS OF BULK AT MOST 1048576: true; the input reads as it did. -/
def parseCheapestUptoRow : OpenClaim := { program := "ythlflcnpmabmbaadoor", sum := "ec99475a990b69c7e89e208a2c5e454e7670f015f16340ff58ad21c754d9c8fa", func := "pith/pithlaw16.ParseCheapest", spec := "parseCheapest", unfollowed := true, recurses := true, named := ["pith/state.afterLit", "pith/state.afterShort", "pith/state.afterMatch", "pith/state.afterRep"], plainKeys := false, apart := false, laid := [("pith/state.afterLit", laid_pith_state_afterLit), ("pith/state.afterMatch", laid_pith_state_afterMatch), ("pith/state.afterRep", laid_pith_state_afterRep), ("pith/state.afterShort", laid_pith_state_afterShort)], narrowed := true }
def ParseCheapestUptoSaid : Prop := parseCheapestUptoRow.holds Tryd.pinned (OpenSpec.upto parseCheapestSpec)

/-- 'pithlaw16.ParseMeans', WHERE WHAT IT READS IS OF BULK AT MOST 1048576: true; the input reads as it did. -/
def parseMeansUptoRow : OpenClaim := { program := "ythlflcnpmabmbaadoor", sum := "ec99475a990b69c7e89e208a2c5e454e7670f015f16340ff58ad21c754d9c8fa", func := "pith/pithlaw16.ParseMeans", spec := "parseMeans", unfollowed := true, recurses := true, named := ["pith/state.afterLit", "pith/state.afterShort", "pith/state.afterMatch", "pith/state.afterRep"], plainKeys := false, apart := false, laid := [("pith/state.afterLit", laid_pith_state_afterLit), ("pith/state.afterMatch", laid_pith_state_afterMatch), ("pith/state.afterRep", laid_pith_state_afterRep), ("pith/state.afterShort", laid_pith_state_afterShort)], narrowed := true }
def ParseMeansUptoSaid : Prop := parseMeansUptoRow.holds Tryd.pinned (OpenSpec.upto parseMeansSpec)

end Rows
end Go.Proofs.YthlflcnpmabmbaaDoor
