/-
  NARROWER THAN 'FOR EVERY INPUT', by the rows' own cells (each row's printed sentence says how): RoundTrip: laid · OneMeaning: laid · BurstTold: laid.
  DERIVED. THE GIVEN ROWS OF THIS SEAT. 3 by the template 'for every input the law returns true; each argument reads behind the call as it read before'; 0 by the template 'total and deterministic' (their statements: YtcjehjdehdoaeaaGreatDoorTotals.lean).
  GIVEN WITH THE SEED: the statements are not yours to turn. If you find one false, say at which input.
  Laid BY PROGRAM, IN A SANDBOX (cutbox-rows.mjs): the forced cells as the released guide's own fill.sh prints them over the translation 4419fcd60b53cefc… (all of the seat's roots in one cut). By AI agents, Wed Nov 11 2026. No macro, syntax, notation, axiom, sorry.
-/
import Derived.Test.YtcjehjdehdoaeaaGreatDoorChecked
import GoSem.Claim
import GoSem.ClaimJoined
import GoSem.ClaimMapViews
import Derived.JoinedTies
import Derived.KernelRfl
namespace Go.Proofs.YtcjehjdehdoaeaaGreatDoor
/- THE CELL 'sum', in the pinned program and in every row, IS THE sha256 OF THE DUMP (.gsa) THAT YtcjehjdehdoaeaaGreatDoorProg.lean LOADS. Nothing in Lean hashes anything: it is a label: what it is worth is what the hold of that sum in a sandbox is worth. -/
noncomputable def Tryz.pinned : Pinned := { name := "ytcjehjdehdoaeaagreatdoor", sum := "4419fcd60b53cefc00874ca9475d350557c45c4c15f0dc7d182eca27864fbf33", checked := Tryz.checked }
namespace Rows
def none {H : Type} : Left H := { results := [], args := [] }

/- WHAT THE LISTED PACKAGE-LEVEL VARIABLES READ AS WHEN THE CALL BEGINS. Each datum BY PROGRAM (the guide's laid-datum.mjs) off the statement by which the dump's own 'gosem.cut.vars' lays the variable. In a bare row this is a premise. The card (YtcjehjdehdoaeaaGreatDoorCards.lean) ties it to the program's text. -/
def laid_pith_crc_table32 {H : Type} : DataW H := .agg [.lit (.int .u32 0), .lit (.int .u32 498536548), .lit (.int .u32 997073096), .lit (.int .u32 651767980), .lit (.int .u32 1994146192), .lit (.int .u32 1802195444), .lit (.int .u32 1303535960), .lit (.int .u32 1342533948), .lit (.int .u32 3988292384), .lit (.int .u32 4027552580), .lit (.int .u32 3604390888), .lit (.int .u32 3412177804), .lit (.int .u32 2607071920), .lit (.int .u32 2262029012), .lit (.int .u32 2685067896), .lit (.int .u32 3183342108)]
def laid_pith_sha_first {H : Type} : DataW H := .agg [.lit (.int .u32 1779033703), .lit (.int .u32 3144134277), .lit (.int .u32 1013904242), .lit (.int .u32 2773480762), .lit (.int .u32 1359893119), .lit (.int .u32 2600822924), .lit (.int .u32 528734635), .lit (.int .u32 1541459225)]
def laid_pith_state_afterLit {H : Type} : DataW H := .agg [.lit (.int .i64 0), .lit (.int .i64 0), .lit (.int .i64 0), .lit (.int .i64 0), .lit (.int .i64 1), .lit (.int .i64 2), .lit (.int .i64 3), .lit (.int .i64 4), .lit (.int .i64 5), .lit (.int .i64 6), .lit (.int .i64 4), .lit (.int .i64 5)]
def laid_pith_state_afterMatch {H : Type} : DataW H := .agg [.lit (.int .i64 7), .lit (.int .i64 7), .lit (.int .i64 7), .lit (.int .i64 7), .lit (.int .i64 7), .lit (.int .i64 7), .lit (.int .i64 7), .lit (.int .i64 10), .lit (.int .i64 10), .lit (.int .i64 10), .lit (.int .i64 10), .lit (.int .i64 10)]
def laid_pith_state_afterRep {H : Type} : DataW H := .agg [.lit (.int .i64 8), .lit (.int .i64 8), .lit (.int .i64 8), .lit (.int .i64 8), .lit (.int .i64 8), .lit (.int .i64 8), .lit (.int .i64 8), .lit (.int .i64 11), .lit (.int .i64 11), .lit (.int .i64 11), .lit (.int .i64 11), .lit (.int .i64 11)]
def laid_pith_state_afterShort {H : Type} : DataW H := .agg [.lit (.int .i64 9), .lit (.int .i64 9), .lit (.int .i64 9), .lit (.int .i64 9), .lit (.int .i64 9), .lit (.int .i64 9), .lit (.int .i64 9), .lit (.int .i64 11), .lit (.int .i64 11), .lit (.int .i64 11), .lit (.int .i64 11), .lit (.int .i64 11)]
def laid_pith_varint_bounds {H : Type} : DataW H := .agg [.lit (.int .u64 128), .lit (.int .u64 16384), .lit (.int .u64 2097152), .lit (.int .u64 268435456), .lit (.int .u64 34359738368), .lit (.int .u64 4398046511104), .lit (.int .u64 562949953421312), .lit (.int .u64 72057594037927936), .lit (.int .u64 9223372036854775808)]
def laid_pith_chunk_moves {H : Type} : DataW H := .agg [.agg [.lit (.int .i64 3), .lit (.int .i64 1), .lit (.int .i64 4), .lit (.int .i64 4), .lit (.int .i64 4), .lit (.int .i64 4), .lit (.int .i64 2)], .agg [.lit (.int .i64 3), .lit (.int .i64 1), .lit (.int .i64 1), .lit (.int .i64 4), .lit (.int .i64 4), .lit (.int .i64 2), .lit (.int .i64 2)], .agg [.lit (.int .i64 3), .lit (.int .i64 1), .lit (.int .i64 2), .lit (.int .i64 2), .lit (.int .i64 2), .lit (.int .i64 2), .lit (.int .i64 2)], .agg [.lit (.int .i64 4), .lit (.int .i64 4), .lit (.int .i64 4), .lit (.int .i64 4), .lit (.int .i64 4), .lit (.int .i64 4), .lit (.int .i64 4)]]
def laid_pith_check_sizes {H : Type} : DataW H := .agg [.lit (.int .i64 0), .lit (.int .i64 4), .lit (.int .i64 4), .lit (.int .i64 4), .lit (.int .i64 8), .lit (.int .i64 8), .lit (.int .i64 8), .lit (.int .i64 16), .lit (.int .i64 16), .lit (.int .i64 16), .lit (.int .i64 32), .lit (.int .i64 32), .lit (.int .i64 32), .lit (.int .i64 64), .lit (.int .i64 64), .lit (.int .i64 64)]
def laid_pith_stream_Truncated {H : Type} : DataW H := .iface "*errors.errorString" (.ptr (.agg [.lit (.string [116, 104, 101, 32, 98, 121, 116, 101, 115, 32, 101, 110, 100, 32, 116, 111, 111, 32, 101, 97, 114, 108, 121])]))
def laid_pith_stream_Format {H : Type} : DataW H := .iface "*errors.errorString" (.ptr (.agg [.lit (.string [116, 104, 101, 32, 98, 121, 116, 101, 115, 32, 97, 114, 101, 32, 110, 111, 110, 101, 32, 111, 102, 32, 116, 104, 101, 32, 102, 111, 114, 109, 97, 116])]))
def laid_pith_stream_Check {H : Type} : DataW H := .iface "*errors.errorString" (.ptr (.agg [.lit (.string [97, 32, 115, 117, 109, 32, 105, 115, 32, 97, 110, 111, 116, 104, 101, 114, 32, 111, 110, 101])]))
def laid_pith_stream_Unsupported {H : Type} : DataW H := .iface "*errors.errorString" (.ptr (.agg [.lit (.string [116, 104, 105, 115, 32, 105, 115, 32, 110, 111, 116, 32, 114, 101, 97, 100, 32, 104, 101, 114, 101])]))
def laid_pith_stream_MemLimit {H : Type} : DataW H := .iface "*errors.errorString" (.ptr (.agg [.lit (.string [116, 104, 101, 32, 100, 105, 99, 116, 105, 111, 110, 97, 114, 121, 32, 105, 115, 32, 97, 98, 111, 118, 101, 32, 116, 104, 101, 32, 108, 105, 109, 105, 116])]))
def laid_pith_stream_Config {H : Type} : DataW H := .iface "*errors.errorString" (.ptr (.agg [.lit (.string [116, 104, 105, 115, 32, 105, 115, 32, 110, 111, 116, 32, 97, 108, 108, 111, 119, 101, 100])]))
def laid_pith_stream_Range {H : Type} : DataW H := .iface "*errors.errorString" (.ptr (.agg [.lit (.string [116, 104, 105, 115, 32, 105, 115, 32, 110, 111, 116, 32, 116, 104, 101, 114, 101])]))
def laid_pith_stream_Name {H : Type} : DataW H := .iface "*errors.errorString" (.ptr (.agg [.lit (.string [110, 111, 32, 115, 117, 99, 104, 32, 110, 97, 109, 101])]))
def laid_pith_stream_Twice {H : Type} : DataW H := .iface "*errors.errorString" (.ptr (.agg [.lit (.string [116, 104, 101, 32, 110, 97, 109, 101, 32, 105, 115, 32, 116, 104, 101, 114, 101, 32, 97, 108, 114, 101, 97, 100, 121])]))

/-- 'pithtop.RoundTrip': WHATEVER THE INPUT: true; the input reads as it did. -/
def roundTripSpec : ChangeSpec := { name := "roundTrip", fn := fun _ => fun
  | [d1, d2] => { results := [.lit (.bool true)], args := [d1, d2] }
  | _ => none }
def roundTripRow : OpenClaim := { program := "ytcjehjdehdoaeaagreatdoor", sum := "4419fcd60b53cefc00874ca9475d350557c45c4c15f0dc7d182eca27864fbf33", func := "pith/pithtop.RoundTrip", spec := "roundTrip", inPlace := ["internal/reflectlite.TypeOf"], unfollowed := true, recurses := true, named := ["pith/stream.Format", "pith/stream.Truncated", "pith/stream.Check", "pith/stream.Unsupported", "pith/stream.MemLimit", "pith/stream.Config", "pith/stream.Range", "pith/stream.Name", "pith/stream.Twice", "pith/sha.first", "pith/crc.table32", "pith/varint.bounds", "pith/state.afterLit", "pith/state.afterShort", "pith/state.afterMatch", "pith/state.afterRep", "pith/chunk.moves", "pith/check.sizes"], plainKeys := false, apart := false, laid := [("pith/crc.table32", laid_pith_crc_table32), ("pith/sha.first", laid_pith_sha_first), ("pith/state.afterLit", laid_pith_state_afterLit), ("pith/state.afterMatch", laid_pith_state_afterMatch), ("pith/state.afterRep", laid_pith_state_afterRep), ("pith/state.afterShort", laid_pith_state_afterShort), ("pith/varint.bounds", laid_pith_varint_bounds), ("pith/chunk.moves", laid_pith_chunk_moves), ("pith/check.sizes", laid_pith_check_sizes), ("pith/stream.Truncated", laid_pith_stream_Truncated), ("pith/stream.Format", laid_pith_stream_Format), ("pith/stream.Check", laid_pith_stream_Check), ("pith/stream.Unsupported", laid_pith_stream_Unsupported), ("pith/stream.MemLimit", laid_pith_stream_MemLimit), ("pith/stream.Config", laid_pith_stream_Config), ("pith/stream.Range", laid_pith_stream_Range), ("pith/stream.Name", laid_pith_stream_Name), ("pith/stream.Twice", laid_pith_stream_Twice)] }
def RoundTripSaid : Prop := roundTripRow.holds Tryz.pinned (OpenSpec.ofChange roundTripSpec)

/-- ITS FALSE NEIGHBOUR: 'it returns false'. Refute it at one input. -/
def roundTripWrong : ChangeSpec := { name := "roundTrip", fn := fun _ => fun
  | [d1, d2] => { results := [.lit (.bool false)], args := [d1, d2] }
  | _ => none }
def RoundTripWrongFalsely : Prop := roundTripRow.holds Tryz.pinned (OpenSpec.ofChange roundTripWrong)

/-- 'pithtop.OneMeaning': WHATEVER THE INPUT: true; the input reads as it did. -/
def oneMeaningSpec : ChangeSpec := { name := "oneMeaning", fn := fun _ => fun
  | [d1, d2] => { results := [.lit (.bool true)], args := [d1, d2] }
  | _ => none }
def oneMeaningRow : OpenClaim := { program := "ytcjehjdehdoaeaagreatdoor", sum := "4419fcd60b53cefc00874ca9475d350557c45c4c15f0dc7d182eca27864fbf33", func := "pith/pithtop.OneMeaning", spec := "oneMeaning", inPlace := ["internal/reflectlite.TypeOf"], unfollowed := true, recurses := true, named := ["pith/stream.Format", "pith/stream.Truncated", "pith/stream.Check", "pith/stream.Unsupported", "pith/stream.MemLimit", "pith/stream.Config", "pith/stream.Range", "pith/stream.Name", "pith/stream.Twice", "pith/sha.first", "pith/crc.table32", "pith/varint.bounds", "pith/state.afterLit", "pith/state.afterShort", "pith/state.afterMatch", "pith/state.afterRep", "pith/chunk.moves", "pith/check.sizes"], plainKeys := false, apart := false, laid := [("pith/crc.table32", laid_pith_crc_table32), ("pith/sha.first", laid_pith_sha_first), ("pith/state.afterLit", laid_pith_state_afterLit), ("pith/state.afterMatch", laid_pith_state_afterMatch), ("pith/state.afterRep", laid_pith_state_afterRep), ("pith/state.afterShort", laid_pith_state_afterShort), ("pith/varint.bounds", laid_pith_varint_bounds), ("pith/chunk.moves", laid_pith_chunk_moves), ("pith/check.sizes", laid_pith_check_sizes), ("pith/stream.Truncated", laid_pith_stream_Truncated), ("pith/stream.Format", laid_pith_stream_Format), ("pith/stream.Check", laid_pith_stream_Check), ("pith/stream.Unsupported", laid_pith_stream_Unsupported), ("pith/stream.MemLimit", laid_pith_stream_MemLimit), ("pith/stream.Config", laid_pith_stream_Config), ("pith/stream.Range", laid_pith_stream_Range), ("pith/stream.Name", laid_pith_stream_Name), ("pith/stream.Twice", laid_pith_stream_Twice)] }
def OneMeaningSaid : Prop := oneMeaningRow.holds Tryz.pinned (OpenSpec.ofChange oneMeaningSpec)

/-- ITS FALSE NEIGHBOUR: 'it returns false'. Refute it at one input. -/
def oneMeaningWrong : ChangeSpec := { name := "oneMeaning", fn := fun _ => fun
  | [d1, d2] => { results := [.lit (.bool false)], args := [d1, d2] }
  | _ => none }
def OneMeaningWrongFalsely : Prop := oneMeaningRow.holds Tryz.pinned (OpenSpec.ofChange oneMeaningWrong)

/-- 'pithtop.BurstTold': WHATEVER THE INPUT: true; the input reads as it did. -/
def burstToldSpec : ChangeSpec := { name := "burstTold", fn := fun _ => fun
  | [d1, d2, d3] => { results := [.lit (.bool true)], args := [d1, d2, d3] }
  | _ => none }
def burstToldRow : OpenClaim := { program := "ytcjehjdehdoaeaagreatdoor", sum := "4419fcd60b53cefc00874ca9475d350557c45c4c15f0dc7d182eca27864fbf33", func := "pith/pithtop.BurstTold", spec := "burstTold", inPlace := ["internal/reflectlite.TypeOf"], unfollowed := true, recurses := true, named := ["pith/stream.Format", "pith/stream.Truncated", "pith/stream.Check", "pith/stream.Unsupported", "pith/stream.MemLimit", "pith/stream.Config", "pith/stream.Range", "pith/stream.Name", "pith/stream.Twice", "pith/sha.first", "pith/crc.table32", "pith/varint.bounds", "pith/state.afterLit", "pith/state.afterShort", "pith/state.afterMatch", "pith/state.afterRep", "pith/chunk.moves", "pith/check.sizes"], plainKeys := false, apart := false, laid := [("pith/crc.table32", laid_pith_crc_table32), ("pith/sha.first", laid_pith_sha_first), ("pith/state.afterLit", laid_pith_state_afterLit), ("pith/state.afterMatch", laid_pith_state_afterMatch), ("pith/state.afterRep", laid_pith_state_afterRep), ("pith/state.afterShort", laid_pith_state_afterShort), ("pith/varint.bounds", laid_pith_varint_bounds), ("pith/chunk.moves", laid_pith_chunk_moves), ("pith/check.sizes", laid_pith_check_sizes), ("pith/stream.Truncated", laid_pith_stream_Truncated), ("pith/stream.Format", laid_pith_stream_Format), ("pith/stream.Check", laid_pith_stream_Check), ("pith/stream.Unsupported", laid_pith_stream_Unsupported), ("pith/stream.MemLimit", laid_pith_stream_MemLimit), ("pith/stream.Config", laid_pith_stream_Config), ("pith/stream.Range", laid_pith_stream_Range), ("pith/stream.Name", laid_pith_stream_Name), ("pith/stream.Twice", laid_pith_stream_Twice)] }
def BurstToldSaid : Prop := burstToldRow.holds Tryz.pinned (OpenSpec.ofChange burstToldSpec)

/-- ITS FALSE NEIGHBOUR: 'it returns false'. Refute it at one input. -/
def burstToldWrong : ChangeSpec := { name := "burstTold", fn := fun _ => fun
  | [d1, d2, d3] => { results := [.lit (.bool false)], args := [d1, d2, d3] }
  | _ => none }
def BurstToldWrongFalsely : Prop := burstToldRow.holds Tryz.pinned (OpenSpec.ofChange burstToldWrong)

/- THE SECOND FORM. 'bulk': how many values and letters a reading holds, each counted each time it is reached (what is shared counts as often as it is met; a slice's spare places count too). A statement '..UptoSaid' is the law's where the arguments, and the package variables that the reading takes, are together of bulk at most 1048576: NARROWER than '..Said'. Prove '..Said' where nothing that the law and all that it calls make is longer than what came in: it says more and counts as full. Else prove '..UptoSaid'. A law counts once. -/
mutual
def uptoBulk {H : Type} : DataW H → Nat
  | .lit (.string bytes) => bytes.length + 1
  | .lit _ => 1
  | .nil => 1
  | .ptr d => uptoBulk d + 1
  | .slice elems spare => uptoBulkAll elems + uptoBulkAll spare + 1
  | .agg parts => uptoBulkAll parts + 1
  | .iface _ d => uptoBulk d + 1
  | .map entries => uptoBulkEntries entries + 1
  | .held _ => 1
def uptoBulkAll {H : Type} : List (DataW H) → Nat
  | [] => 0
  | d :: r => uptoBulk d + uptoBulkAll r
def uptoBulkEntries {H : Type} : List (Lit × DataW H) → Nat
  | [] => 0
  | x :: r => uptoBulkEntry x + uptoBulkEntries r
def uptoBulkEntry {H : Type} : Lit × DataW H → Nat
  | (.string bytes, d) => bytes.length + uptoBulk d + 1
  | (_, d) => uptoBulk d + 1
 end
def uptoSmall : (H : Type) → List (DataW H) → Bool := fun _ ds => decide (uptoBulkAll ds ≤ 1048576)
def OpenSpec.upto (s : _root_.Go.ChangeSpec) : _root_.Go.OpenSpec := { _root_.Go.OpenSpec.ofChange s with cond := some uptoSmall }

/-- 'pithtop.RoundTrip', WHERE WHAT IT READS IS OF BULK AT MOST 1048576: true; the input reads as it did. -/
def roundTripUptoRow : OpenClaim := { program := "ytcjehjdehdoaeaagreatdoor", sum := "4419fcd60b53cefc00874ca9475d350557c45c4c15f0dc7d182eca27864fbf33", func := "pith/pithtop.RoundTrip", spec := "roundTrip", inPlace := ["internal/reflectlite.TypeOf"], unfollowed := true, recurses := true, named := ["pith/stream.Format", "pith/stream.Truncated", "pith/stream.Check", "pith/stream.Unsupported", "pith/stream.MemLimit", "pith/stream.Config", "pith/stream.Range", "pith/stream.Name", "pith/stream.Twice", "pith/sha.first", "pith/crc.table32", "pith/varint.bounds", "pith/state.afterLit", "pith/state.afterShort", "pith/state.afterMatch", "pith/state.afterRep", "pith/chunk.moves", "pith/check.sizes"], plainKeys := false, apart := false, laid := [("pith/crc.table32", laid_pith_crc_table32), ("pith/sha.first", laid_pith_sha_first), ("pith/state.afterLit", laid_pith_state_afterLit), ("pith/state.afterMatch", laid_pith_state_afterMatch), ("pith/state.afterRep", laid_pith_state_afterRep), ("pith/state.afterShort", laid_pith_state_afterShort), ("pith/varint.bounds", laid_pith_varint_bounds), ("pith/chunk.moves", laid_pith_chunk_moves), ("pith/check.sizes", laid_pith_check_sizes), ("pith/stream.Truncated", laid_pith_stream_Truncated), ("pith/stream.Format", laid_pith_stream_Format), ("pith/stream.Check", laid_pith_stream_Check), ("pith/stream.Unsupported", laid_pith_stream_Unsupported), ("pith/stream.MemLimit", laid_pith_stream_MemLimit), ("pith/stream.Config", laid_pith_stream_Config), ("pith/stream.Range", laid_pith_stream_Range), ("pith/stream.Name", laid_pith_stream_Name), ("pith/stream.Twice", laid_pith_stream_Twice)], narrowed := true }
def RoundTripUptoSaid : Prop := roundTripUptoRow.holds Tryz.pinned (OpenSpec.upto roundTripSpec)

/-- 'pithtop.OneMeaning', WHERE WHAT IT READS IS OF BULK AT MOST 1048576: true; the input reads as it did. -/
def oneMeaningUptoRow : OpenClaim := { program := "ytcjehjdehdoaeaagreatdoor", sum := "4419fcd60b53cefc00874ca9475d350557c45c4c15f0dc7d182eca27864fbf33", func := "pith/pithtop.OneMeaning", spec := "oneMeaning", inPlace := ["internal/reflectlite.TypeOf"], unfollowed := true, recurses := true, named := ["pith/stream.Format", "pith/stream.Truncated", "pith/stream.Check", "pith/stream.Unsupported", "pith/stream.MemLimit", "pith/stream.Config", "pith/stream.Range", "pith/stream.Name", "pith/stream.Twice", "pith/sha.first", "pith/crc.table32", "pith/varint.bounds", "pith/state.afterLit", "pith/state.afterShort", "pith/state.afterMatch", "pith/state.afterRep", "pith/chunk.moves", "pith/check.sizes"], plainKeys := false, apart := false, laid := [("pith/crc.table32", laid_pith_crc_table32), ("pith/sha.first", laid_pith_sha_first), ("pith/state.afterLit", laid_pith_state_afterLit), ("pith/state.afterMatch", laid_pith_state_afterMatch), ("pith/state.afterRep", laid_pith_state_afterRep), ("pith/state.afterShort", laid_pith_state_afterShort), ("pith/varint.bounds", laid_pith_varint_bounds), ("pith/chunk.moves", laid_pith_chunk_moves), ("pith/check.sizes", laid_pith_check_sizes), ("pith/stream.Truncated", laid_pith_stream_Truncated), ("pith/stream.Format", laid_pith_stream_Format), ("pith/stream.Check", laid_pith_stream_Check), ("pith/stream.Unsupported", laid_pith_stream_Unsupported), ("pith/stream.MemLimit", laid_pith_stream_MemLimit), ("pith/stream.Config", laid_pith_stream_Config), ("pith/stream.Range", laid_pith_stream_Range), ("pith/stream.Name", laid_pith_stream_Name), ("pith/stream.Twice", laid_pith_stream_Twice)], narrowed := true }
def OneMeaningUptoSaid : Prop := oneMeaningUptoRow.holds Tryz.pinned (OpenSpec.upto oneMeaningSpec)

/-- 'pithtop.BurstTold', WHERE WHAT IT READS IS OF BULK AT MOST 1048576: true; the input reads as it did. -/
def burstToldUptoRow : OpenClaim := { program := "ytcjehjdehdoaeaagreatdoor", sum := "4419fcd60b53cefc00874ca9475d350557c45c4c15f0dc7d182eca27864fbf33", func := "pith/pithtop.BurstTold", spec := "burstTold", inPlace := ["internal/reflectlite.TypeOf"], unfollowed := true, recurses := true, named := ["pith/stream.Format", "pith/stream.Truncated", "pith/stream.Check", "pith/stream.Unsupported", "pith/stream.MemLimit", "pith/stream.Config", "pith/stream.Range", "pith/stream.Name", "pith/stream.Twice", "pith/sha.first", "pith/crc.table32", "pith/varint.bounds", "pith/state.afterLit", "pith/state.afterShort", "pith/state.afterMatch", "pith/state.afterRep", "pith/chunk.moves", "pith/check.sizes"], plainKeys := false, apart := false, laid := [("pith/crc.table32", laid_pith_crc_table32), ("pith/sha.first", laid_pith_sha_first), ("pith/state.afterLit", laid_pith_state_afterLit), ("pith/state.afterMatch", laid_pith_state_afterMatch), ("pith/state.afterRep", laid_pith_state_afterRep), ("pith/state.afterShort", laid_pith_state_afterShort), ("pith/varint.bounds", laid_pith_varint_bounds), ("pith/chunk.moves", laid_pith_chunk_moves), ("pith/check.sizes", laid_pith_check_sizes), ("pith/stream.Truncated", laid_pith_stream_Truncated), ("pith/stream.Format", laid_pith_stream_Format), ("pith/stream.Check", laid_pith_stream_Check), ("pith/stream.Unsupported", laid_pith_stream_Unsupported), ("pith/stream.MemLimit", laid_pith_stream_MemLimit), ("pith/stream.Config", laid_pith_stream_Config), ("pith/stream.Range", laid_pith_stream_Range), ("pith/stream.Name", laid_pith_stream_Name), ("pith/stream.Twice", laid_pith_stream_Twice)], narrowed := true }
def BurstToldUptoSaid : Prop := burstToldUptoRow.holds Tryz.pinned (OpenSpec.upto burstToldSpec)

end Rows
end Go.Proofs.YtcjehjdehdoaeaaGreatDoor
