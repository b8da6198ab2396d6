/-
  No cell of these rows narrows 'for every input' (looked for: loops, veiled, ifaces, maps, wideKeys, modest, calm, conditions, laid).
  DERIVED. THE GIVEN ROWS OF THIS SEAT. 5 by the template 'for every input the law returns true; each argument reads behind the call as it read before'; 0 by the template 'total and deterministic' (their statements: YtcfaocbdhfmhbaaTotals.lean).
  GIVEN WITH THE SEED: the statements are not yours to turn. If you find one false, say at which input.
  Laid BY PROGRAM, IN A SANDBOX (cutbox-rows.mjs): the forced cells as the released guide's own fill.sh prints them over the translation 8e0caed85b42d8c0… (all of the seat's roots in one cut). By AI agents, Wed Nov 11 2026. No macro, syntax, notation, axiom, sorry.
-/
import Derived.Test.YtcfaocbdhfmhbaaChecked
import GoSem.Claim
import GoSem.ClaimJoined
import GoSem.ClaimMapViews
import Derived.JoinedTies
import Derived.KernelRfl
namespace Go.Proofs.Ytcfaocbdhfmhbaa
/- THE CELL 'sum', in the pinned program and in every row, IS THE sha256 OF THE DUMP (.gsa) THAT YtcfaocbdhfmhbaaProg.lean LOADS. Nothing in Lean hashes anything: it is a label: what it is worth is what the hold of that sum in a sandbox is worth. -/
noncomputable def Try.pinned : Pinned := { name := "ytcfaocbdhfmhbaa", sum := "8e0caed85b42d8c099802d8a279ed41b34b8782c7b61b1dafecd74bf1b4b9192", checked := Try.checked }
namespace Rows
def none {H : Type} : Left H := { results := [], args := [] }

/-- 'pithlaw10.WindowRows': WHATEVER THE INPUT: true; the input reads as it did. -/
def windowRowsSpec : ChangeSpec := { name := "windowRows", fn := fun _ => fun
  | [d1, d2, d3, d4] => { results := [.lit (.bool true)], args := [d1, d2, d3, d4] }
  | _ => none }
def windowRowsRow : OpenClaim := { program := "ytcfaocbdhfmhbaa", sum := "8e0caed85b42d8c099802d8a279ed41b34b8782c7b61b1dafecd74bf1b4b9192", func := "pith/pithlaw10.WindowRows", spec := "windowRows", apart := false }
def WindowRowsSaid : Prop := windowRowsRow.holds Try.pinned (OpenSpec.ofChange windowRowsSpec)

/-- ITS FALSE NEIGHBOUR: 'it returns false'. Refute it at one input. -/
def windowRowsWrong : ChangeSpec := { name := "windowRows", fn := fun _ => fun
  | [d1, d2, d3, d4] => { results := [.lit (.bool false)], args := [d1, d2, d3, d4] }
  | _ => none }
def WindowRowsWrongFalsely : Prop := windowRowsRow.holds Try.pinned (OpenSpec.ofChange windowRowsWrong)

/-- 'pithlaw10.WindowForks': WHATEVER THE INPUT: true; the input reads as it did. -/
def windowForksSpec : ChangeSpec := { name := "windowForks", fn := fun _ => fun
  | [d1, d2, d3, d4] => { results := [.lit (.bool true)], args := [d1, d2, d3, d4] }
  | _ => none }
def windowForksRow : OpenClaim := { program := "ytcfaocbdhfmhbaa", sum := "8e0caed85b42d8c099802d8a279ed41b34b8782c7b61b1dafecd74bf1b4b9192", func := "pith/pithlaw10.WindowForks", spec := "windowForks", apart := false }
def WindowForksSaid : Prop := windowForksRow.holds Try.pinned (OpenSpec.ofChange windowForksSpec)

/-- ITS FALSE NEIGHBOUR: 'it returns false'. Refute it at one input. -/
def windowForksWrong : ChangeSpec := { name := "windowForks", fn := fun _ => fun
  | [d1, d2, d3, d4] => { results := [.lit (.bool false)], args := [d1, d2, d3, d4] }
  | _ => none }
def WindowForksWrongFalsely : Prop := windowForksRow.holds Try.pinned (OpenSpec.ofChange windowForksWrong)

/-- 'pithlaw10.WindowLast': WHATEVER THE INPUT: true; the input reads as it did. -/
def windowLastSpec : ChangeSpec := { name := "windowLast", fn := fun _ => fun
  | [d1, d2, d3, d4, d5] => { results := [.lit (.bool true)], args := [d1, d2, d3, d4, d5] }
  | _ => none }
def windowLastRow : OpenClaim := { program := "ytcfaocbdhfmhbaa", sum := "8e0caed85b42d8c099802d8a279ed41b34b8782c7b61b1dafecd74bf1b4b9192", func := "pith/pithlaw10.WindowLast", spec := "windowLast", apart := false }
def WindowLastSaid : Prop := windowLastRow.holds Try.pinned (OpenSpec.ofChange windowLastSpec)

/-- ITS FALSE NEIGHBOUR: 'it returns false'. Refute it at one input. -/
def windowLastWrong : ChangeSpec := { name := "windowLast", fn := fun _ => fun
  | [d1, d2, d3, d4, d5] => { results := [.lit (.bool false)], args := [d1, d2, d3, d4, d5] }
  | _ => none }
def WindowLastWrongFalsely : Prop := windowLastRow.holds Try.pinned (OpenSpec.ofChange windowLastWrong)

/-- 'pithlaw10.WindowSmall': WHATEVER THE INPUT: true; the input reads as it did. -/
def windowSmallSpec : ChangeSpec := { name := "windowSmall", fn := fun _ => fun
  | [d1, d2, d3] => { results := [.lit (.bool true)], args := [d1, d2, d3] }
  | _ => none }
def windowSmallRow : OpenClaim := { program := "ytcfaocbdhfmhbaa", sum := "8e0caed85b42d8c099802d8a279ed41b34b8782c7b61b1dafecd74bf1b4b9192", func := "pith/pithlaw10.WindowSmall", spec := "windowSmall", apart := false }
def WindowSmallSaid : Prop := windowSmallRow.holds Try.pinned (OpenSpec.ofChange windowSmallSpec)

/-- ITS FALSE NEIGHBOUR: 'it returns false'. Refute it at one input. -/
def windowSmallWrong : ChangeSpec := { name := "windowSmall", fn := fun _ => fun
  | [d1, d2, d3] => { results := [.lit (.bool false)], args := [d1, d2, d3] }
  | _ => none }
def WindowSmallWrongFalsely : Prop := windowSmallRow.holds Try.pinned (OpenSpec.ofChange windowSmallWrong)

/-- 'pithlaw10.WindowPlays': WHATEVER THE INPUT: true; the input reads as it did. -/
def windowPlaysSpec : ChangeSpec := { name := "windowPlays", fn := fun _ => fun
  | [d1, d2, d3] => { results := [.lit (.bool true)], args := [d1, d2, d3] }
  | _ => none }
def windowPlaysRow : OpenClaim := { program := "ytcfaocbdhfmhbaa", sum := "8e0caed85b42d8c099802d8a279ed41b34b8782c7b61b1dafecd74bf1b4b9192", func := "pith/pithlaw10.WindowPlays", spec := "windowPlays", apart := false }
def WindowPlaysSaid : Prop := windowPlaysRow.holds Try.pinned (OpenSpec.ofChange windowPlaysSpec)

/-- ITS FALSE NEIGHBOUR: 'it returns false'. Refute it at one input. -/
def windowPlaysWrong : ChangeSpec := { name := "windowPlays", fn := fun _ => fun
  | [d1, d2, d3] => { results := [.lit (.bool false)], args := [d1, d2, d3] }
  | _ => none }
def WindowPlaysWrongFalsely : Prop := windowPlaysRow.holds Try.pinned (OpenSpec.ofChange windowPlaysWrong)

/- THE SECOND FORM. 'bulk': how many values and letters a reading holds, each counted each time it is reached (what is shared counts as often as it is met; a slice's spare places count too). A statement '..UptoSaid' is the law's where the arguments, and the package variables that the reading takes, are together of bulk at most 1048576: NARROWER than '..Said'. Prove '..Said' where nothing that the law and all that it calls make is longer than what came in: it says more and counts as full. Else prove '..UptoSaid'. A law counts once. -/
mutual
def uptoBulk {H : Type} : DataW H → Nat
  | .lit (.string bytes) => bytes.length + 1
  | .lit _ => 1
  | .nil => 1
  | .ptr d => uptoBulk d + 1
  | .slice elems spare => uptoBulkAll elems + uptoBulkAll spare + 1
  | .agg parts => uptoBulkAll parts + 1
  | .iface _ d => uptoBulk d + 1
  | .map entries => uptoBulkEntries entries + 1
  | .held _ => 1
def uptoBulkAll {H : Type} : List (DataW H) → Nat
  | [] => 0
  | d :: r => uptoBulk d + uptoBulkAll r
def uptoBulkEntries {H : Type} : List (Lit × DataW H) → Nat
  | [] => 0
  | x :: r => uptoBulkEntry x + uptoBulkEntries r
def uptoBulkEntry {H : Type} : Lit × DataW H → Nat
  | (.string bytes, d) => bytes.length + uptoBulk d + 1
  | (_, d) => uptoBulk d + 1
 end
def uptoSmall : (H : Type) → List (DataW H) → Bool := fun _ ds => decide (uptoBulkAll ds ≤ 1048576)
def OpenSpec.upto (s : _root_.Go.ChangeSpec) : _root_.Go.OpenSpec := { _root_.Go.OpenSpec.ofChange s with cond := some uptoSmall }

/-- 'pithlaw10.WindowRows', WHERE WHAT IT READS IS OF BULK AT MOST 1048576: true; the input reads as it did. -/
def windowRowsUptoRow : OpenClaim := { program := "ytcfaocbdhfmhbaa", sum := "8e0caed85b42d8c099802d8a279ed41b34b8782c7b61b1dafecd74bf1b4b9192", func := "pith/pithlaw10.WindowRows", spec := "windowRows", apart := false, narrowed := true }
def WindowRowsUptoSaid : Prop := windowRowsUptoRow.holds Try.pinned (OpenSpec.upto windowRowsSpec)

/-- 'pithlaw10.WindowForks', WHERE WHAT IT READS IS OF BULK AT MOST 1048576: true; the input reads as it did. -/
def windowForksUptoRow : OpenClaim := { program := "ytcfaocbdhfmhbaa", sum := "8e0caed85b42d8c099802d8a279ed41b34b8782c7b61b1dafecd74bf1b4b9192", func := "pith/pithlaw10.WindowForks", spec := "windowForks", apart := false, narrowed := true }
def WindowForksUptoSaid : Prop := windowForksUptoRow.holds Try.pinned (OpenSpec.upto windowForksSpec)

/-- 'pithlaw10.WindowLast', WHERE WHAT IT READS IS OF BULK AT MOST 1048576: true; the input reads as it did. -/
def windowLastUptoRow : OpenClaim := { program := "ytcfaocbdhfmhbaa", sum := "8e0caed85b42d8c099802d8a279ed41b34b8782c7b61b1dafecd74bf1b4b9192", func := "pith/pithlaw10.WindowLast", spec := "windowLast", apart := false, narrowed := true }
def WindowLastUptoSaid : Prop := windowLastUptoRow.holds Try.pinned (OpenSpec.upto windowLastSpec)

/-- 'pithlaw10.WindowSmall', WHERE WHAT IT READS IS OF BULK AT MOST 1048576: true; the input reads as it did. -/
def windowSmallUptoRow : OpenClaim := { program := "ytcfaocbdhfmhbaa", sum := "8e0caed85b42d8c099802d8a279ed41b34b8782c7b61b1dafecd74bf1b4b9192", func := "pith/pithlaw10.WindowSmall", spec := "windowSmall", apart := false, narrowed := true }
def WindowSmallUptoSaid : Prop := windowSmallUptoRow.holds Try.pinned (OpenSpec.upto windowSmallSpec)

/-- 'pithlaw10.WindowPlays', WHERE WHAT IT READS IS OF BULK AT MOST 1048576: true; the input reads as it did. -/
def windowPlaysUptoRow : OpenClaim := { program := "ytcfaocbdhfmhbaa", sum := "8e0caed85b42d8c099802d8a279ed41b34b8782c7b61b1dafecd74bf1b4b9192", func := "pith/pithlaw10.WindowPlays", spec := "windowPlays", apart := false, narrowed := true }
def WindowPlaysUptoSaid : Prop := windowPlaysUptoRow.holds Try.pinned (OpenSpec.upto windowPlaysSpec)

end Rows
end Go.Proofs.Ytcfaocbdhfmhbaa
