/-
  No cell of these rows narrows 'for every input' (looked for: loops, veiled, ifaces, maps, wideKeys, modest, calm, conditions, laid).
  DERIVED. THE GIVEN ROWS OF THIS SEAT. 4 by the template 'for every input the law returns true; each argument reads behind the call as it read before'; 0 by the template 'total and deterministic' (their statements: YtglkahonejblpaaTotals.lean).
  GIVEN WITH THE SEED: the statements are not yours to turn. If you find one false, say at which input.
  Laid BY PROGRAM, IN A SANDBOX (cutbox-rows.mjs): the forced cells as the released guide's own fill.sh prints them over the translation 6e7c551b2519654b… (all of the seat's roots in one cut). By AI agents, Wed Nov 11 2026. No macro, syntax, notation, axiom, sorry.
-/
import Derived.Test.YtglkahonejblpaaChecked
import GoSem.Claim
import GoSem.ClaimJoined
import GoSem.ClaimMapViews
import Derived.JoinedTies
import Derived.KernelRfl
namespace Go.Proofs.Ytglkahonejblpaa
/- THE CELL 'sum', in the pinned program and in every row, IS THE sha256 OF THE DUMP (.gsa) THAT YtglkahonejblpaaProg.lean LOADS. Nothing in Lean hashes anything: it is a label: what it is worth is what the hold of that sum in a sandbox is worth. -/
noncomputable def Try.pinned : Pinned := { name := "ytglkahonejblpaa", sum := "6e7c551b2519654bbcd61597bc33e4dde8718f6ff0a4b19af51c8a1abeab1b89", checked := Try.checked }
namespace Rows
def none {H : Type} : Left H := { results := [], args := [] }

/-- 'pithlaw34.CdcWrites': WHATEVER THE INPUT: true; the input reads as it did. -/
def cdcWritesSpec : ChangeSpec := { name := "cdcWrites", fn := fun _ => fun
  | [d1, d2] => { results := [.lit (.bool true)], args := [d1, d2] }
  | _ => none }
def cdcWritesRow : OpenClaim := { program := "ytglkahonejblpaa", sum := "6e7c551b2519654bbcd61597bc33e4dde8718f6ff0a4b19af51c8a1abeab1b89", func := "pith/pithlaw34.CdcWrites", spec := "cdcWrites", unfollowed := true, recurses := true, apart := false }
def CdcWritesSaid : Prop := cdcWritesRow.holds Try.pinned (OpenSpec.ofChange cdcWritesSpec)

/-- ITS FALSE NEIGHBOUR: 'it returns false'. Refute it at one input. -/
def cdcWritesWrong : ChangeSpec := { name := "cdcWrites", fn := fun _ => fun
  | [d1, d2] => { results := [.lit (.bool false)], args := [d1, d2] }
  | _ => none }
def CdcWritesWrongFalsely : Prop := cdcWritesRow.holds Try.pinned (OpenSpec.ofChange cdcWritesWrong)

/-- 'pithlaw34.CdcSizes': WHATEVER THE INPUT: true; the input reads as it did. -/
def cdcSizesSpec : ChangeSpec := { name := "cdcSizes", fn := fun _ => fun
  | [d1, d2, d3] => { results := [.lit (.bool true)], args := [d1, d2, d3] }
  | _ => none }
def cdcSizesRow : OpenClaim := { program := "ytglkahonejblpaa", sum := "6e7c551b2519654bbcd61597bc33e4dde8718f6ff0a4b19af51c8a1abeab1b89", func := "pith/pithlaw34.CdcSizes", spec := "cdcSizes", unfollowed := true, recurses := true, apart := false }
def CdcSizesSaid : Prop := cdcSizesRow.holds Try.pinned (OpenSpec.ofChange cdcSizesSpec)

/-- ITS FALSE NEIGHBOUR: 'it returns false'. Refute it at one input. -/
def cdcSizesWrong : ChangeSpec := { name := "cdcSizes", fn := fun _ => fun
  | [d1, d2, d3] => { results := [.lit (.bool false)], args := [d1, d2, d3] }
  | _ => none }
def CdcSizesWrongFalsely : Prop := cdcSizesRow.holds Try.pinned (OpenSpec.ofChange cdcSizesWrong)

/-- 'pithlaw34.CdcAlike': WHATEVER THE INPUT: true; the input reads as it did. -/
def cdcAlikeSpec : ChangeSpec := { name := "cdcAlike", fn := fun _ => fun
  | [d1, d2] => { results := [.lit (.bool true)], args := [d1, d2] }
  | _ => none }
def cdcAlikeRow : OpenClaim := { program := "ytglkahonejblpaa", sum := "6e7c551b2519654bbcd61597bc33e4dde8718f6ff0a4b19af51c8a1abeab1b89", func := "pith/pithlaw34.CdcAlike", spec := "cdcAlike", unfollowed := true, recurses := true, apart := false }
def CdcAlikeSaid : Prop := cdcAlikeRow.holds Try.pinned (OpenSpec.ofChange cdcAlikeSpec)

/-- ITS FALSE NEIGHBOUR: 'it returns false'. Refute it at one input. -/
def cdcAlikeWrong : ChangeSpec := { name := "cdcAlike", fn := fun _ => fun
  | [d1, d2] => { results := [.lit (.bool false)], args := [d1, d2] }
  | _ => none }
def CdcAlikeWrongFalsely : Prop := cdcAlikeRow.holds Try.pinned (OpenSpec.ofChange cdcAlikeWrong)

/-- 'pithlaw34.CdcCuts': WHATEVER THE INPUT: true; the input reads as it did. -/
def cdcCutsSpec : ChangeSpec := { name := "cdcCuts", fn := fun _ => fun
  | [d1, d2, d3] => { results := [.lit (.bool true)], args := [d1, d2, d3] }
  | _ => none }
def cdcCutsRow : OpenClaim := { program := "ytglkahonejblpaa", sum := "6e7c551b2519654bbcd61597bc33e4dde8718f6ff0a4b19af51c8a1abeab1b89", func := "pith/pithlaw34.CdcCuts", spec := "cdcCuts", unfollowed := true, recurses := true, apart := false }
def CdcCutsSaid : Prop := cdcCutsRow.holds Try.pinned (OpenSpec.ofChange cdcCutsSpec)

/-- ITS FALSE NEIGHBOUR: 'it returns false'. Refute it at one input. -/
def cdcCutsWrong : ChangeSpec := { name := "cdcCuts", fn := fun _ => fun
  | [d1, d2, d3] => { results := [.lit (.bool false)], args := [d1, d2, d3] }
  | _ => none }
def CdcCutsWrongFalsely : Prop := cdcCutsRow.holds Try.pinned (OpenSpec.ofChange cdcCutsWrong)

/- THE SECOND FORM. 'bulk': how many values and letters a reading holds, each counted each time it is reached (what is shared counts as often as it is met; a slice's spare places count too). A statement '..UptoSaid' is the law's where the arguments, and the package variables that the reading takes, are together of bulk at most 1048576: NARROWER than '..Said'. Prove '..Said' where nothing that the law and all that it calls make is longer than what came in: it says more and counts as full. Else prove '..UptoSaid'. A law counts once. -/
mutual
def uptoBulk {H : Type} : DataW H → Nat
  | .lit (.string bytes) => bytes.length + 1
  | .lit _ => 1
  | .nil => 1
  | .ptr d => uptoBulk d + 1
  | .slice elems spare => uptoBulkAll elems + uptoBulkAll spare + 1
  | .agg parts => uptoBulkAll parts + 1
  | .iface _ d => uptoBulk d + 1
  | .map entries => uptoBulkEntries entries + 1
  | .held _ => 1
def uptoBulkAll {H : Type} : List (DataW H) → Nat
  | [] => 0
  | d :: r => uptoBulk d + uptoBulkAll r
def uptoBulkEntries {H : Type} : List (Lit × DataW H) → Nat
  | [] => 0
  | x :: r => uptoBulkEntry x + uptoBulkEntries r
def uptoBulkEntry {H : Type} : Lit × DataW H → Nat
  | (.string bytes, d) => bytes.length + uptoBulk d + 1
  | (_, d) => uptoBulk d + 1
 end
def uptoSmall : (H : Type) → List (DataW H) → Bool := fun _ ds => decide (uptoBulkAll ds ≤ 1048576)
def OpenSpec.upto (s : _root_.Go.ChangeSpec) : _root_.Go.OpenSpec := { _root_.Go.OpenSpec.ofChange s with cond := some uptoSmall }

/-- 'pithlaw34.CdcWrites', WHERE WHAT IT READS IS OF BULK AT MOST 1048576: true; the input reads as it did. -/
def cdcWritesUptoRow : OpenClaim := { program := "ytglkahonejblpaa", sum := "6e7c551b2519654bbcd61597bc33e4dde8718f6ff0a4b19af51c8a1abeab1b89", func := "pith/pithlaw34.CdcWrites", spec := "cdcWrites", unfollowed := true, recurses := true, apart := false, narrowed := true }
def CdcWritesUptoSaid : Prop := cdcWritesUptoRow.holds Try.pinned (OpenSpec.upto cdcWritesSpec)

/-- 'pithlaw34.CdcSizes', WHERE WHAT IT READS IS OF BULK AT MOST 1048576: true; the input reads as it did. -/
def cdcSizesUptoRow : OpenClaim := { program := "ytglkahonejblpaa", sum := "6e7c551b2519654bbcd61597bc33e4dde8718f6ff0a4b19af51c8a1abeab1b89", func := "pith/pithlaw34.CdcSizes", spec := "cdcSizes", unfollowed := true, recurses := true, apart := false, narrowed := true }
def CdcSizesUptoSaid : Prop := cdcSizesUptoRow.holds Try.pinned (OpenSpec.upto cdcSizesSpec)

/-- 'pithlaw34.CdcAlike', WHERE WHAT IT READS IS OF BULK AT MOST 1048576: true; the input reads as it did. -/
def cdcAlikeUptoRow : OpenClaim := { program := "ytglkahonejblpaa", sum := "6e7c551b2519654bbcd61597bc33e4dde8718f6ff0a4b19af51c8a1abeab1b89", func := "pith/pithlaw34.CdcAlike", spec := "cdcAlike", unfollowed := true, recurses := true, apart := false, narrowed := true }
def CdcAlikeUptoSaid : Prop := cdcAlikeUptoRow.holds Try.pinned (OpenSpec.upto cdcAlikeSpec)

/-- 'pithlaw34.CdcCuts', WHERE WHAT IT READS IS OF BULK AT MOST 1048576: true; the input reads as it did. -/
def cdcCutsUptoRow : OpenClaim := { program := "ytglkahonejblpaa", sum := "6e7c551b2519654bbcd61597bc33e4dde8718f6ff0a4b19af51c8a1abeab1b89", func := "pith/pithlaw34.CdcCuts", spec := "cdcCuts", unfollowed := true, recurses := true, apart := false, narrowed := true }
def CdcCutsUptoSaid : Prop := cdcCutsUptoRow.holds Try.pinned (OpenSpec.upto cdcCutsSpec)

end Rows
end Go.Proofs.Ytglkahonejblpaa
