/-
  No cell of these rows narrows 'for every input' (looked for: loops, veiled, ifaces, maps, wideKeys, modest, calm, conditions, laid).
  DERIVED. THE GIVEN ROWS OF THIS SEAT. 3 by the template 'for every input the law returns true; each argument reads behind the call as it read before'; 0 by the template 'total and deterministic' (their statements: YtllhmgnhnbnbiaaTotals.lean).
  GIVEN WITH THE SEED: the statements are not yours to turn. If you find one false, say at which input.
  Laid BY PROGRAM, IN A SANDBOX (cutbox-rows.mjs): the forced cells as the released guide's own fill.sh prints them over the translation 95771ab1c6eac87d… (all of the seat's roots in one cut). By AI agents, Wed Nov 11 2026. No macro, syntax, notation, axiom, sorry.
-/
import Derived.Test.YtllhmgnhnbnbiaaChecked
import GoSem.Claim
import GoSem.ClaimJoined
import GoSem.ClaimMapViews
import Derived.JoinedTies
import Derived.KernelRfl
namespace Go.Proofs.Ytllhmgnhnbnbiaa
/- THE CELL 'sum', in the pinned program and in every row, IS THE sha256 OF THE DUMP (.gsa) THAT YtllhmgnhnbnbiaaProg.lean LOADS. Nothing in Lean hashes anything: it is a label: what it is worth is what the hold of that sum in a sandbox is worth. -/
noncomputable def Try.pinned : Pinned := { name := "ytllhmgnhnbnbiaa", sum := "95771ab1c6eac87d50c13e9fced5614eb2690368cb33bb1e26698e9a783df1c7", checked := Try.checked }
namespace Rows
def none {H : Type} : Left H := { results := [], args := [] }

/-- 'pithlaw11.FinderMissed': WHATEVER THE INPUT: true; the input reads as it did. -/
def finderMissedSpec : ChangeSpec := { name := "finderMissed", fn := fun _ => fun
  | [d1, d2] => { results := [.lit (.bool true)], args := [d1, d2] }
  | _ => none }
def finderMissedRow : OpenClaim := { program := "ytllhmgnhnbnbiaa", sum := "95771ab1c6eac87d50c13e9fced5614eb2690368cb33bb1e26698e9a783df1c7", func := "pith/pithlaw11.FinderMissed", spec := "finderMissed", unfollowed := true, recurses := true, plainKeys := false, apart := false }
def FinderMissedSaid : Prop := finderMissedRow.holds Try.pinned (OpenSpec.ofChange finderMissedSpec)

/-- ITS FALSE NEIGHBOUR: 'it returns false'. Refute it at one input. -/
def finderMissedWrong : ChangeSpec := { name := "finderMissed", fn := fun _ => fun
  | [d1, d2] => { results := [.lit (.bool false)], args := [d1, d2] }
  | _ => none }
def FinderMissedWrongFalsely : Prop := finderMissedRow.holds Try.pinned (OpenSpec.ofChange finderMissedWrong)

/-- 'pithlaw11.FinderThere': WHATEVER THE INPUT: true; the input reads as it did. -/
def finderThereSpec : ChangeSpec := { name := "finderThere", fn := fun _ => fun
  | [d1, d2, d3] => { results := [.lit (.bool true)], args := [d1, d2, d3] }
  | _ => none }
def finderThereRow : OpenClaim := { program := "ytllhmgnhnbnbiaa", sum := "95771ab1c6eac87d50c13e9fced5614eb2690368cb33bb1e26698e9a783df1c7", func := "pith/pithlaw11.FinderThere", spec := "finderThere", unfollowed := true, recurses := true, plainKeys := false, apart := false }
def FinderThereSaid : Prop := finderThereRow.holds Try.pinned (OpenSpec.ofChange finderThereSpec)

/-- ITS FALSE NEIGHBOUR: 'it returns false'. Refute it at one input. -/
def finderThereWrong : ChangeSpec := { name := "finderThere", fn := fun _ => fun
  | [d1, d2, d3] => { results := [.lit (.bool false)], args := [d1, d2, d3] }
  | _ => none }
def FinderThereWrongFalsely : Prop := finderThereRow.holds Try.pinned (OpenSpec.ofChange finderThereWrong)

/-- 'pithlaw11.FinderWays': WHATEVER THE INPUT: true; the input reads as it did. -/
def finderWaysSpec : ChangeSpec := { name := "finderWays", fn := fun _ => fun
  | [d1, d2, d3] => { results := [.lit (.bool true)], args := [d1, d2, d3] }
  | _ => none }
def finderWaysRow : OpenClaim := { program := "ytllhmgnhnbnbiaa", sum := "95771ab1c6eac87d50c13e9fced5614eb2690368cb33bb1e26698e9a783df1c7", func := "pith/pithlaw11.FinderWays", spec := "finderWays", unfollowed := true, recurses := true, plainKeys := false, apart := false }
def FinderWaysSaid : Prop := finderWaysRow.holds Try.pinned (OpenSpec.ofChange finderWaysSpec)

/-- ITS FALSE NEIGHBOUR: 'it returns false'. Refute it at one input. -/
def finderWaysWrong : ChangeSpec := { name := "finderWays", fn := fun _ => fun
  | [d1, d2, d3] => { results := [.lit (.bool false)], args := [d1, d2, d3] }
  | _ => none }
def FinderWaysWrongFalsely : Prop := finderWaysRow.holds Try.pinned (OpenSpec.ofChange finderWaysWrong)

/- THE SECOND FORM. 'bulk': how many values and letters a reading holds, each counted each time it is reached (what is shared counts as often as it is met; a slice's spare places count too). A statement '..UptoSaid' is the law's where the arguments, and the package variables that the reading takes, are together of bulk at most 1048576: NARROWER than '..Said'. Prove '..Said' where nothing that the law and all that it calls make is longer than what came in: it says more and counts as full. Else prove '..UptoSaid'. A law counts once. -/
mutual
def uptoBulk {H : Type} : DataW H → Nat
  | .lit (.string bytes) => bytes.length + 1
  | .lit _ => 1
  | .nil => 1
  | .ptr d => uptoBulk d + 1
  | .slice elems spare => uptoBulkAll elems + uptoBulkAll spare + 1
  | .agg parts => uptoBulkAll parts + 1
  | .iface _ d => uptoBulk d + 1
  | .map entries => uptoBulkEntries entries + 1
  | .held _ => 1
def uptoBulkAll {H : Type} : List (DataW H) → Nat
  | [] => 0
  | d :: r => uptoBulk d + uptoBulkAll r
def uptoBulkEntries {H : Type} : List (Lit × DataW H) → Nat
  | [] => 0
  | x :: r => uptoBulkEntry x + uptoBulkEntries r
def uptoBulkEntry {H : Type} : Lit × DataW H → Nat
  | (.string bytes, d) => bytes.length + uptoBulk d + 1
  | (_, d) => uptoBulk d + 1
 end
def uptoSmall : (H : Type) → List (DataW H) → Bool := fun _ ds => decide (uptoBulkAll ds ≤ 1048576)
def OpenSpec.upto (s : _root_.Go.ChangeSpec) : _root_.Go.OpenSpec := { _root_.Go.OpenSpec.ofChange s with cond := some uptoSmall }

/-- 'pithlaw11.FinderMissed', WHERE WHAT IT READS IS OF BULK AT MOST 1048576: true; the input reads as it did. -/
def finderMissedUptoRow : OpenClaim := { program := "ytllhmgnhnbnbiaa", sum := "95771ab1c6eac87d50c13e9fced5614eb2690368cb33bb1e26698e9a783df1c7", func := "pith/pithlaw11.FinderMissed", spec := "finderMissed", unfollowed := true, recurses := true, plainKeys := false, apart := false, narrowed := true }
def FinderMissedUptoSaid : Prop := finderMissedUptoRow.holds Try.pinned (OpenSpec.upto finderMissedSpec)

/-- 'pithlaw11.FinderThere', WHERE WHAT IT READS IS OF BULK AT MOST 1048576: true; the input reads as it did. -/
def finderThereUptoRow : OpenClaim := { program := "ytllhmgnhnbnbiaa", sum := "95771ab1c6eac87d50c13e9fced5614eb2690368cb33bb1e26698e9a783df1c7", func := "pith/pithlaw11.FinderThere", spec := "finderThere", unfollowed := true, recurses := true, plainKeys := false, apart := false, narrowed := true }
def FinderThereUptoSaid : Prop := finderThereUptoRow.holds Try.pinned (OpenSpec.upto finderThereSpec)

/-- 'pithlaw11.FinderWays', WHERE WHAT IT READS IS OF BULK AT MOST 1048576: true; the input reads as it did. -/
def finderWaysUptoRow : OpenClaim := { program := "ytllhmgnhnbnbiaa", sum := "95771ab1c6eac87d50c13e9fced5614eb2690368cb33bb1e26698e9a783df1c7", func := "pith/pithlaw11.FinderWays", spec := "finderWays", unfollowed := true, recurses := true, plainKeys := false, apart := false, narrowed := true }
def FinderWaysUptoSaid : Prop := finderWaysUptoRow.holds Try.pinned (OpenSpec.upto finderWaysSpec)

end Rows
end Go.Proofs.Ytllhmgnhnbnbiaa
