/-
  DERIVED. GIVEN WITH THE SEED: THE PROGRAM's TIES (one call each: nine closed facts by the kernel) AND EACH ROW's TIE, after the 31st guide's Derived/Test/Toyas{Tie, Card}.lean. No idea stands in it: it is a product of the set-up. Laid BY PROGRAM, IN A SANDBOX (cutbox-door.mjs). By AI agents, Wed Nov 11 2026. No macro, syntax, notation, axiom, sorry.
-/
import Derived.Test.YtcjehjdehdoaeaaGreatDoorRows
import Derived.LaidByTextLater
import Derived.SevenTiedAt
import Derived.LaidSub
import Derived.LaidOnce
namespace Go.Proofs.YtcjehjdehdoaeaaGreatDoor
open Go
set_option maxRecDepth 100000
theorem seatTie1 : Tryz.prog.laidByTextLater [("pith/crc.table32", Rows.laid_pith_crc_table32), ("pith/sha.first", Rows.laid_pith_sha_first), ("pith/state.afterLit", Rows.laid_pith_state_afterLit), ("pith/state.afterMatch", Rows.laid_pith_state_afterMatch), ("pith/state.afterRep", Rows.laid_pith_state_afterRep), ("pith/state.afterShort", Rows.laid_pith_state_afterShort), ("pith/varint.bounds", Rows.laid_pith_varint_bounds), ("pith/chunk.moves", Rows.laid_pith_chunk_moves), ("pith/check.sizes", Rows.laid_pith_check_sizes), ("pith/stream.Truncated", Rows.laid_pith_stream_Truncated), ("pith/stream.Format", Rows.laid_pith_stream_Format), ("pith/stream.Check", Rows.laid_pith_stream_Check), ("pith/stream.Unsupported", Rows.laid_pith_stream_Unsupported), ("pith/stream.MemLimit", Rows.laid_pith_stream_MemLimit), ("pith/stream.Config", Rows.laid_pith_stream_Config), ("pith/stream.Range", Rows.laid_pith_stream_Range), ("pith/stream.Name", Rows.laid_pith_stream_Name), ("pith/stream.Twice", Rows.laid_pith_stream_Twice)] [.widerDeep, .data, .data, .data, .data, .data, .data, .data, .data, .sentinel, .sentinel, .sentinel, .sentinel, .sentinel, .sentinel, .sentinel, .sentinel, .sentinel] true :=
  Program.laidByTextLater_by_one 239 8 65 (by kernel_rfl) (by kernel_rfl) (by kernel_rfl) (by kernel_rfl) (by kernel_rfl) (by kernel_rfl) (fun _ _ => by kernel_rfl)
theorem noOwnUnsafe : Tryz.pinned.checked.prog.headLifts.contains "ownunsafe" = false := by kernel_rfl
theorem tie : Tryz.prog.laidByTextLater [("pith/crc.table32", Rows.laid_pith_crc_table32), ("pith/sha.first", Rows.laid_pith_sha_first), ("pith/state.afterLit", Rows.laid_pith_state_afterLit), ("pith/state.afterMatch", Rows.laid_pith_state_afterMatch), ("pith/state.afterRep", Rows.laid_pith_state_afterRep), ("pith/state.afterShort", Rows.laid_pith_state_afterShort), ("pith/varint.bounds", Rows.laid_pith_varint_bounds), ("pith/chunk.moves", Rows.laid_pith_chunk_moves), ("pith/check.sizes", Rows.laid_pith_check_sizes), ("pith/stream.Truncated", Rows.laid_pith_stream_Truncated), ("pith/stream.Format", Rows.laid_pith_stream_Format), ("pith/stream.Check", Rows.laid_pith_stream_Check), ("pith/stream.Unsupported", Rows.laid_pith_stream_Unsupported), ("pith/stream.MemLimit", Rows.laid_pith_stream_MemLimit), ("pith/stream.Config", Rows.laid_pith_stream_Config), ("pith/stream.Range", Rows.laid_pith_stream_Range), ("pith/stream.Name", Rows.laid_pith_stream_Name), ("pith/stream.Twice", Rows.laid_pith_stream_Twice)] [.widerDeep, .data, .data, .data, .data, .data, .data, .data, .data, .sentinel, .sentinel, .sentinel, .sentinel, .sentinel, .sentinel, .sentinel, .sentinel, .sentinel] true :=
  Program.laidByTextLater.sub seatTie1 ["pith/crc.table32", "pith/sha.first", "pith/state.afterLit", "pith/state.afterMatch", "pith/state.afterRep", "pith/state.afterShort", "pith/varint.bounds", "pith/chunk.moves", "pith/check.sizes", "pith/stream.Truncated", "pith/stream.Format", "pith/stream.Check", "pith/stream.Unsupported", "pith/stream.MemLimit", "pith/stream.Config", "pith/stream.Range", "pith/stream.Name", "pith/stream.Twice"] (by kernel_rfl) (by kernel_rfl)
theorem roundTrip_row_tie : Rows.roundTripRow.laidByTextAt .later Tryz.pinned [.widerDeep, .data, .data, .data, .data, .data, .data, .data, .data, .sentinel, .sentinel, .sentinel, .sentinel, .sentinel, .sentinel, .sentinel, .sentinel, .sentinel] true :=
  OpenClaim.laidByTextAt_later rfl rfl tie noOwnUnsafe
theorem oneMeaning_row_tie : Rows.oneMeaningRow.laidByTextAt .later Tryz.pinned [.widerDeep, .data, .data, .data, .data, .data, .data, .data, .data, .sentinel, .sentinel, .sentinel, .sentinel, .sentinel, .sentinel, .sentinel, .sentinel, .sentinel] true :=
  OpenClaim.laidByTextAt_later rfl rfl tie noOwnUnsafe
theorem burstTold_row_tie : Rows.burstToldRow.laidByTextAt .later Tryz.pinned [.widerDeep, .data, .data, .data, .data, .data, .data, .data, .data, .sentinel, .sentinel, .sentinel, .sentinel, .sentinel, .sentinel, .sentinel, .sentinel, .sentinel] true :=
  OpenClaim.laidByTextAt_later rfl rfl tie noOwnUnsafe
theorem roundTripUpto_row_tie : Rows.roundTripUptoRow.laidByTextAt .later Tryz.pinned [.widerDeep, .data, .data, .data, .data, .data, .data, .data, .data, .sentinel, .sentinel, .sentinel, .sentinel, .sentinel, .sentinel, .sentinel, .sentinel, .sentinel] true :=
  OpenClaim.laidByTextAt_later rfl rfl tie noOwnUnsafe
theorem oneMeaningUpto_row_tie : Rows.oneMeaningUptoRow.laidByTextAt .later Tryz.pinned [.widerDeep, .data, .data, .data, .data, .data, .data, .data, .data, .sentinel, .sentinel, .sentinel, .sentinel, .sentinel, .sentinel, .sentinel, .sentinel, .sentinel] true :=
  OpenClaim.laidByTextAt_later rfl rfl tie noOwnUnsafe
theorem burstToldUpto_row_tie : Rows.burstToldUptoRow.laidByTextAt .later Tryz.pinned [.widerDeep, .data, .data, .data, .data, .data, .data, .data, .data, .sentinel, .sentinel, .sentinel, .sentinel, .sentinel, .sentinel, .sentinel, .sentinel, .sentinel] true :=
  OpenClaim.laidByTextAt_later rfl rfl tie noOwnUnsafe
end Go.Proofs.YtcjehjdehdoaeaaGreatDoor
