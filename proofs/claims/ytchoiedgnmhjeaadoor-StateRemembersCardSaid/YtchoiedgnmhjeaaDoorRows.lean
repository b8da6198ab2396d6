/-
  NARROWER THAN 'FOR EVERY INPUT', by the rows' own cells (each row's printed sentence says how): StateNext: laid · StateGoes: laid · StateRemembers: laid · StateSlots: laid · StateProps: laid · StateSlotted: laid · StateBack: laid.
  DERIVED. THE GIVEN ROWS OF THIS SEAT. 7 by the template 'for every input the law returns true; each argument reads behind the call as it read before'; 0 by the template 'total and deterministic' (their statements: YtchoiedgnmhjeaaDoorTotals.lean).
  GIVEN WITH THE SEED: the statements are not yours to turn. If you find one false, say at which input.
  Laid BY PROGRAM, IN A SANDBOX (cutbox-rows.mjs): the forced cells as the released guide's own fill.sh prints them over the translation 9997c7c2a440be31… (all of the seat's roots in one cut). By AI agents, Wed Nov 11 2026. No macro, syntax, notation, axiom, sorry.
-/
import Derived.Test.YtchoiedgnmhjeaaDoorChecked
import GoSem.Claim
import GoSem.ClaimJoined
import GoSem.ClaimMapViews
import Derived.JoinedTies
import Derived.KernelRfl
namespace Go.Proofs.YtchoiedgnmhjeaaDoor
/- THE CELL 'sum', in the pinned program and in every row, IS THE sha256 OF THE DUMP (.gsa) THAT YtchoiedgnmhjeaaDoorProg.lean LOADS. Nothing in Lean hashes anything: it is a label: what it is worth is what the hold of that sum in a sandbox is worth. -/
noncomputable def Tryd.pinned : Pinned := { name := "ytchoiedgnmhjeaadoor", sum := "9997c7c2a440be3169254ab111951fb78d498a9252987bdd33d4e2c521c74771", checked := Tryd.checked }
namespace Rows
def none {H : Type} : Left H := { results := [], args := [] }

/- WHAT THE LISTED PACKAGE-LEVEL VARIABLES READ AS WHEN THE CALL BEGINS. Each datum BY PROGRAM (the guide's laid-datum.mjs) off the statement by which the dump's own 'gosem.cut.vars' lays the variable. In a bare row this is a premise. The card (YtchoiedgnmhjeaaDoorCards.lean) ties it to the program's text. -/
def laid_pith_state_afterLit {H : Type} : DataW H := .agg [.lit (.int .i64 0), .lit (.int .i64 0), .lit (.int .i64 0), .lit (.int .i64 0), .lit (.int .i64 1), .lit (.int .i64 2), .lit (.int .i64 3), .lit (.int .i64 4), .lit (.int .i64 5), .lit (.int .i64 6), .lit (.int .i64 4), .lit (.int .i64 5)]
def laid_pith_state_afterMatch {H : Type} : DataW H := .agg [.lit (.int .i64 7), .lit (.int .i64 7), .lit (.int .i64 7), .lit (.int .i64 7), .lit (.int .i64 7), .lit (.int .i64 7), .lit (.int .i64 7), .lit (.int .i64 10), .lit (.int .i64 10), .lit (.int .i64 10), .lit (.int .i64 10), .lit (.int .i64 10)]
def laid_pith_state_afterRep {H : Type} : DataW H := .agg [.lit (.int .i64 8), .lit (.int .i64 8), .lit (.int .i64 8), .lit (.int .i64 8), .lit (.int .i64 8), .lit (.int .i64 8), .lit (.int .i64 8), .lit (.int .i64 11), .lit (.int .i64 11), .lit (.int .i64 11), .lit (.int .i64 11), .lit (.int .i64 11)]
def laid_pith_state_afterShort {H : Type} : DataW H := .agg [.lit (.int .i64 9), .lit (.int .i64 9), .lit (.int .i64 9), .lit (.int .i64 9), .lit (.int .i64 9), .lit (.int .i64 9), .lit (.int .i64 9), .lit (.int .i64 11), .lit (.int .i64 11), .lit (.int .i64 11), .lit (.int .i64 11), .lit (.int .i64 11)]

/-- 'pithlaw12.StateNext': WHATEVER THE INPUT: true; the input reads as it did. -/
def stateNextSpec : ChangeSpec := { name := "stateNext", fn := fun _ => fun
  | [d1, d2, d3] => { results := [.lit (.bool true)], args := [d1, d2, d3] }
  | _ => none }
def stateNextRow : OpenClaim := { program := "ytchoiedgnmhjeaadoor", sum := "9997c7c2a440be3169254ab111951fb78d498a9252987bdd33d4e2c521c74771", func := "pith/pithlaw12.StateNext", spec := "stateNext", named := ["pith/state.afterLit", "pith/state.afterShort", "pith/state.afterMatch", "pith/state.afterRep"], apart := false, laid := [("pith/state.afterLit", laid_pith_state_afterLit), ("pith/state.afterMatch", laid_pith_state_afterMatch), ("pith/state.afterRep", laid_pith_state_afterRep), ("pith/state.afterShort", laid_pith_state_afterShort)] }
def StateNextSaid : Prop := stateNextRow.holds Tryd.pinned (OpenSpec.ofChange stateNextSpec)

/-- ITS FALSE NEIGHBOUR: 'it returns false'. Refute it at one input. -/
def stateNextWrong : ChangeSpec := { name := "stateNext", fn := fun _ => fun
  | [d1, d2, d3] => { results := [.lit (.bool false)], args := [d1, d2, d3] }
  | _ => none }
def StateNextWrongFalsely : Prop := stateNextRow.holds Tryd.pinned (OpenSpec.ofChange stateNextWrong)

/-- 'pithlaw12.StateGoes': WHATEVER THE INPUT: true; the input reads as it did. -/
def stateGoesSpec : ChangeSpec := { name := "stateGoes", fn := fun _ => fun
  | [d] => { results := [.lit (.bool true)], args := [d] }
  | _ => none }
def stateGoesRow : OpenClaim := { program := "ytchoiedgnmhjeaadoor", sum := "9997c7c2a440be3169254ab111951fb78d498a9252987bdd33d4e2c521c74771", func := "pith/pithlaw12.StateGoes", spec := "stateGoes", named := ["pith/state.afterLit", "pith/state.afterShort", "pith/state.afterMatch", "pith/state.afterRep"], apart := false, laid := [("pith/state.afterLit", laid_pith_state_afterLit), ("pith/state.afterMatch", laid_pith_state_afterMatch), ("pith/state.afterRep", laid_pith_state_afterRep), ("pith/state.afterShort", laid_pith_state_afterShort)] }
def StateGoesSaid : Prop := stateGoesRow.holds Tryd.pinned (OpenSpec.ofChange stateGoesSpec)

/-- ITS FALSE NEIGHBOUR: 'it returns false'. Refute it at one input. -/
def stateGoesWrong : ChangeSpec := { name := "stateGoes", fn := fun _ => fun
  | [d] => { results := [.lit (.bool false)], args := [d] }
  | _ => none }
def StateGoesWrongFalsely : Prop := stateGoesRow.holds Tryd.pinned (OpenSpec.ofChange stateGoesWrong)

/-- 'pithlaw12.StateRemembers': WHATEVER THE INPUT: true; the input reads as it did. -/
def stateRemembersSpec : ChangeSpec := { name := "stateRemembers", fn := fun _ => fun
  | [d] => { results := [.lit (.bool true)], args := [d] }
  | _ => none }
def stateRemembersRow : OpenClaim := { program := "ytchoiedgnmhjeaadoor", sum := "9997c7c2a440be3169254ab111951fb78d498a9252987bdd33d4e2c521c74771", func := "pith/pithlaw12.StateRemembers", spec := "stateRemembers", named := ["pith/state.afterLit", "pith/state.afterShort", "pith/state.afterMatch", "pith/state.afterRep"], apart := false, laid := [("pith/state.afterLit", laid_pith_state_afterLit), ("pith/state.afterMatch", laid_pith_state_afterMatch), ("pith/state.afterRep", laid_pith_state_afterRep), ("pith/state.afterShort", laid_pith_state_afterShort)] }
def StateRemembersSaid : Prop := stateRemembersRow.holds Tryd.pinned (OpenSpec.ofChange stateRemembersSpec)

/-- ITS FALSE NEIGHBOUR: 'it returns false'. Refute it at one input. -/
def stateRemembersWrong : ChangeSpec := { name := "stateRemembers", fn := fun _ => fun
  | [d] => { results := [.lit (.bool false)], args := [d] }
  | _ => none }
def StateRemembersWrongFalsely : Prop := stateRemembersRow.holds Tryd.pinned (OpenSpec.ofChange stateRemembersWrong)

/-- 'pithlaw12.StateSlots': WHATEVER THE INPUT: true; the input reads as it did. -/
def stateSlotsSpec : ChangeSpec := { name := "stateSlots", fn := fun _ => fun
  | [d1, d2] => { results := [.lit (.bool true)], args := [d1, d2] }
  | _ => none }
def stateSlotsRow : OpenClaim := { program := "ytchoiedgnmhjeaadoor", sum := "9997c7c2a440be3169254ab111951fb78d498a9252987bdd33d4e2c521c74771", func := "pith/pithlaw12.StateSlots", spec := "stateSlots", named := ["pith/state.afterLit", "pith/state.afterShort", "pith/state.afterMatch", "pith/state.afterRep"], apart := false, laid := [("pith/state.afterLit", laid_pith_state_afterLit), ("pith/state.afterMatch", laid_pith_state_afterMatch), ("pith/state.afterRep", laid_pith_state_afterRep), ("pith/state.afterShort", laid_pith_state_afterShort)] }
def StateSlotsSaid : Prop := stateSlotsRow.holds Tryd.pinned (OpenSpec.ofChange stateSlotsSpec)

/-- ITS FALSE NEIGHBOUR: 'it returns false'. Refute it at one input. -/
def stateSlotsWrong : ChangeSpec := { name := "stateSlots", fn := fun _ => fun
  | [d1, d2] => { results := [.lit (.bool false)], args := [d1, d2] }
  | _ => none }
def StateSlotsWrongFalsely : Prop := stateSlotsRow.holds Tryd.pinned (OpenSpec.ofChange stateSlotsWrong)

/-- 'pithlaw12.StateProps': WHATEVER THE INPUT: true; the input reads as it did. -/
def statePropsSpec : ChangeSpec := { name := "stateProps", fn := fun _ => fun
  | [d1, d2] => { results := [.lit (.bool true)], args := [d1, d2] }
  | _ => none }
def statePropsRow : OpenClaim := { program := "ytchoiedgnmhjeaadoor", sum := "9997c7c2a440be3169254ab111951fb78d498a9252987bdd33d4e2c521c74771", func := "pith/pithlaw12.StateProps", spec := "stateProps", named := ["pith/state.afterLit", "pith/state.afterShort", "pith/state.afterMatch", "pith/state.afterRep"], apart := false, laid := [("pith/state.afterLit", laid_pith_state_afterLit), ("pith/state.afterMatch", laid_pith_state_afterMatch), ("pith/state.afterRep", laid_pith_state_afterRep), ("pith/state.afterShort", laid_pith_state_afterShort)] }
def StatePropsSaid : Prop := statePropsRow.holds Tryd.pinned (OpenSpec.ofChange statePropsSpec)

/-- ITS FALSE NEIGHBOUR: 'it returns false'. Refute it at one input. -/
def statePropsWrong : ChangeSpec := { name := "stateProps", fn := fun _ => fun
  | [d1, d2] => { results := [.lit (.bool false)], args := [d1, d2] }
  | _ => none }
def StatePropsWrongFalsely : Prop := statePropsRow.holds Tryd.pinned (OpenSpec.ofChange statePropsWrong)

/-- 'pithlaw12.StateSlotted': WHATEVER THE INPUT: true; the input reads as it did. -/
def stateSlottedSpec : ChangeSpec := { name := "stateSlotted", fn := fun _ => fun
  | [d1, d2] => { results := [.lit (.bool true)], args := [d1, d2] }
  | _ => none }
def stateSlottedRow : OpenClaim := { program := "ytchoiedgnmhjeaadoor", sum := "9997c7c2a440be3169254ab111951fb78d498a9252987bdd33d4e2c521c74771", func := "pith/pithlaw12.StateSlotted", spec := "stateSlotted", named := ["pith/state.afterLit", "pith/state.afterShort", "pith/state.afterMatch", "pith/state.afterRep"], apart := false, laid := [("pith/state.afterLit", laid_pith_state_afterLit), ("pith/state.afterMatch", laid_pith_state_afterMatch), ("pith/state.afterRep", laid_pith_state_afterRep), ("pith/state.afterShort", laid_pith_state_afterShort)] }
def StateSlottedSaid : Prop := stateSlottedRow.holds Tryd.pinned (OpenSpec.ofChange stateSlottedSpec)

/-- ITS FALSE NEIGHBOUR: 'it returns false'. Refute it at one input. -/
def stateSlottedWrong : ChangeSpec := { name := "stateSlotted", fn := fun _ => fun
  | [d1, d2] => { results := [.lit (.bool false)], args := [d1, d2] }
  | _ => none }
def StateSlottedWrongFalsely : Prop := stateSlottedRow.holds Tryd.pinned (OpenSpec.ofChange stateSlottedWrong)

/-- 'pithlaw12.StateBack': WHATEVER THE INPUT: true; the input reads as it did. -/
def stateBackSpec : ChangeSpec := { name := "stateBack", fn := fun _ => fun
  | [d1, d2] => { results := [.lit (.bool true)], args := [d1, d2] }
  | _ => none }
def stateBackRow : OpenClaim := { program := "ytchoiedgnmhjeaadoor", sum := "9997c7c2a440be3169254ab111951fb78d498a9252987bdd33d4e2c521c74771", func := "pith/pithlaw12.StateBack", spec := "stateBack", named := ["pith/state.afterLit", "pith/state.afterShort", "pith/state.afterMatch", "pith/state.afterRep"], apart := false, laid := [("pith/state.afterLit", laid_pith_state_afterLit), ("pith/state.afterMatch", laid_pith_state_afterMatch), ("pith/state.afterRep", laid_pith_state_afterRep), ("pith/state.afterShort", laid_pith_state_afterShort)] }
def StateBackSaid : Prop := stateBackRow.holds Tryd.pinned (OpenSpec.ofChange stateBackSpec)

/-- ITS FALSE NEIGHBOUR: 'it returns false'. Refute it at one input. -/
def stateBackWrong : ChangeSpec := { name := "stateBack", fn := fun _ => fun
  | [d1, d2] => { results := [.lit (.bool false)], args := [d1, d2] }
  | _ => none }
def StateBackWrongFalsely : Prop := stateBackRow.holds Tryd.pinned (OpenSpec.ofChange stateBackWrong)

/- THE SECOND FORM. 'bulk': how many values and letters a reading holds, each counted each time it is reached (what is shared counts as often as it is met; a slice's spare places count too). A statement '..UptoSaid' is the law's where the arguments, and the package variables that the reading takes, are together of bulk at most 1048576: NARROWER than '..Said'. Prove '..Said' where nothing that the law and all that it calls make is longer than what came in: it says more and counts as full. Else prove '..UptoSaid'. A law counts once. -/
mutual
def uptoBulk {H : Type} : DataW H → Nat
  | .lit (.string bytes) => bytes.length + 1
  | .lit _ => 1
  | .nil => 1
  | .ptr d => uptoBulk d + 1
  | .slice elems spare => uptoBulkAll elems + uptoBulkAll spare + 1
  | .agg parts => uptoBulkAll parts + 1
  | .iface _ d => uptoBulk d + 1
  | .map entries => uptoBulkEntries entries + 1
  | .held _ => 1
def uptoBulkAll {H : Type} : List (DataW H) → Nat
  | [] => 0
  | d :: r => uptoBulk d + uptoBulkAll r
def uptoBulkEntries {H : Type} : List (Lit × DataW H) → Nat
  | [] => 0
  | x :: r => uptoBulkEntry x + uptoBulkEntries r
def uptoBulkEntry {H : Type} : Lit × DataW H → Nat
  | (.string bytes, d) => bytes.length + uptoBulk d + 1
  | (_, d) => uptoBulk d + 1
 end
def uptoSmall : (H : Type) → List (DataW H) → Bool := fun _ ds => decide (uptoBulkAll ds ≤ 1048576)
def OpenSpec.upto (s : _root_.Go.ChangeSpec) : _root_.Go.OpenSpec := { _root_.Go.OpenSpec.ofChange s with cond := some uptoSmall }

/-- 'pithlaw12.StateNext', WHERE WHAT IT READS IS OF BULK AT MOST 1048576: true; the input reads as it did. -/
def stateNextUptoRow : OpenClaim := { program := "ytchoiedgnmhjeaadoor", sum := "9997c7c2a440be3169254ab111951fb78d498a9252987bdd33d4e2c521c74771", func := "pith/pithlaw12.StateNext", spec := "stateNext", named := ["pith/state.afterLit", "pith/state.afterShort", "pith/state.afterMatch", "pith/state.afterRep"], apart := false, laid := [("pith/state.afterLit", laid_pith_state_afterLit), ("pith/state.afterMatch", laid_pith_state_afterMatch), ("pith/state.afterRep", laid_pith_state_afterRep), ("pith/state.afterShort", laid_pith_state_afterShort)], narrowed := true }
def StateNextUptoSaid : Prop := stateNextUptoRow.holds Tryd.pinned (OpenSpec.upto stateNextSpec)

/-- 'pithlaw12.StateGoes', WHERE WHAT IT READS IS OF BULK AT MOST 1048576: true; the input reads as it did. -/
def stateGoesUptoRow : OpenClaim := { program := "ytchoiedgnmhjeaadoor", sum := "9997c7c2a440be3169254ab111951fb78d498a9252987bdd33d4e2c521c74771", func := "pith/pithlaw12.StateGoes", spec := "stateGoes", named := ["pith/state.afterLit", "pith/state.afterShort", "pith/state.afterMatch", "pith/state.afterRep"], apart := false, laid := [("pith/state.afterLit", laid_pith_state_afterLit), ("pith/state.afterMatch", laid_pith_state_afterMatch), ("pith/state.afterRep", laid_pith_state_afterRep), ("pith/state.afterShort", laid_pith_state_afterShort)], narrowed := true }
def StateGoesUptoSaid : Prop := stateGoesUptoRow.holds Tryd.pinned (OpenSpec.upto stateGoesSpec)

/-- 'pithlaw12.StateRemembers', WHERE WHAT IT READS IS OF BULK AT MOST 1048576: true; the input reads as it did. -/
def stateRemembersUptoRow : OpenClaim := { program := "ytchoiedgnmhjeaadoor", sum := "9997c7c2a440be3169254ab111951fb78d498a9252987bdd33d4e2c521c74771", func := "pith/pithlaw12.StateRemembers", spec := "stateRemembers", named := ["pith/state.afterLit", "pith/state.afterShort", "pith/state.afterMatch", "pith/state.afterRep"], apart := false, laid := [("pith/state.afterLit", laid_pith_state_afterLit), ("pith/state.afterMatch", laid_pith_state_afterMatch), ("pith/state.afterRep", laid_pith_state_afterRep), ("pith/state.afterShort", laid_pith_state_afterShort)], narrowed := true }
def StateRemembersUptoSaid : Prop := stateRemembersUptoRow.holds Tryd.pinned (OpenSpec.upto stateRemembersSpec)

/-- 'pithlaw12.StateSlots', WHERE WHAT IT READS IS OF BULK AT MOST 1048576: true; the input reads as it did. -/
def stateSlotsUptoRow : OpenClaim := { program := "ytchoiedgnmhjeaadoor", sum := "9997c7c2a440be3169254ab111951fb78d498a9252987bdd33d4e2c521c74771", func := "pith/pithlaw12.StateSlots", spec := "stateSlots", named := ["pith/state.afterLit", "pith/state.afterShort", "pith/state.afterMatch", "pith/state.afterRep"], apart := false, laid := [("pith/state.afterLit", laid_pith_state_afterLit), ("pith/state.afterMatch", laid_pith_state_afterMatch), ("pith/state.afterRep", laid_pith_state_afterRep), ("pith/state.afterShort", laid_pith_state_afterShort)], narrowed := true }
def StateSlotsUptoSaid : Prop := stateSlotsUptoRow.holds Tryd.pinned (OpenSpec.upto stateSlotsSpec)

/-- 'pithlaw12.StateProps', WHERE WHAT IT READS IS OF BULK AT MOST 1048576: true; the input reads as it did. -/
def statePropsUptoRow : OpenClaim := { program := "ytchoiedgnmhjeaadoor", sum := "9997c7c2a440be3169254ab111951fb78d498a9252987bdd33d4e2c521c74771", func := "pith/pithlaw12.StateProps", spec := "stateProps", named := ["pith/state.afterLit", "pith/state.afterShort", "pith/state.afterMatch", "pith/state.afterRep"], apart := false, laid := [("pith/state.afterLit", laid_pith_state_afterLit), ("pith/state.afterMatch", laid_pith_state_afterMatch), ("pith/state.afterRep", laid_pith_state_afterRep), ("pith/state.afterShort", laid_pith_state_afterShort)], narrowed := true }
def StatePropsUptoSaid : Prop := statePropsUptoRow.holds Tryd.pinned (OpenSpec.upto statePropsSpec)

/-- 'pithlaw12.StateSlotted', WHERE WHAT IT READS IS OF BULK AT MOST 1048576: true; the input reads as it did. -/
def stateSlottedUptoRow : OpenClaim := { program := "ytchoiedgnmhjeaadoor", sum := "9997c7c2a440be3169254ab111951fb78d498a9252987bdd33d4e2c521c74771", func := "pith/pithlaw12.StateSlotted", spec := "stateSlotted", named := ["pith/state.afterLit", "pith/state.afterShort", "pith/state.afterMatch", "pith/state.afterRep"], apart := false, laid := [("pith/state.afterLit", laid_pith_state_afterLit), ("pith/state.afterMatch", laid_pith_state_afterMatch), ("pith/state.afterRep", laid_pith_state_afterRep), ("pith/state.afterShort", laid_pith_state_afterShort)], narrowed := true }
def StateSlottedUptoSaid : Prop := stateSlottedUptoRow.holds Tryd.pinned (OpenSpec.upto stateSlottedSpec)

/-- 'pithlaw12.StateBack', WHERE WHAT IT READS IS OF BULK AT MOST 1048576: true; the input reads as it did. -/
def stateBackUptoRow : OpenClaim := { program := "ytchoiedgnmhjeaadoor", sum := "9997c7c2a440be3169254ab111951fb78d498a9252987bdd33d4e2c521c74771", func := "pith/pithlaw12.StateBack", spec := "stateBack", named := ["pith/state.afterLit", "pith/state.afterShort", "pith/state.afterMatch", "pith/state.afterRep"], apart := false, laid := [("pith/state.afterLit", laid_pith_state_afterLit), ("pith/state.afterMatch", laid_pith_state_afterMatch), ("pith/state.afterRep", laid_pith_state_afterRep), ("pith/state.afterShort", laid_pith_state_afterShort)], narrowed := true }
def StateBackUptoSaid : Prop := stateBackUptoRow.holds Tryd.pinned (OpenSpec.upto stateBackSpec)

end Rows
end Go.Proofs.YtchoiedgnmhjeaaDoor
