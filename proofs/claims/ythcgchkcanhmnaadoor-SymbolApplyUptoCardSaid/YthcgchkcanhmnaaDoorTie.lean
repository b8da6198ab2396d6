/-
  DERIVED. GIVEN WITH THE SEED: THE PROGRAM's TIES (one call each: nine closed facts by the kernel) AND EACH ROW's TIE, after the 31st guide's Derived/Test/Toyas{Tie, Card}.lean. No idea stands in it: it is a product of the set-up. Laid BY PROGRAM, IN A SANDBOX (cutbox-door.mjs). By AI agents, Wed Nov 11 2026. No macro, syntax, notation, axiom, sorry.
-/
import Derived.Test.YthcgchkcanhmnaaDoorRows
import Derived.LaidByTextLater
import Derived.SevenTiedAt
import Derived.LaidSub
import Derived.LaidOnce
namespace Go.Proofs.YthcgchkcanhmnaaDoor
open Go
set_option maxRecDepth 100000
theorem seatTie1 : Tryd.prog.laidByTextLater [("pith/state.afterLit", Rows.laid_pith_state_afterLit), ("pith/state.afterMatch", Rows.laid_pith_state_afterMatch), ("pith/state.afterRep", Rows.laid_pith_state_afterRep), ("pith/state.afterShort", Rows.laid_pith_state_afterShort)] [.data, .data, .data, .data] true :=
  Program.laidByTextLater_by_one 29 8 13 (by kernel_rfl) (by kernel_rfl) (by kernel_rfl) (by kernel_rfl) (by kernel_rfl) (by kernel_rfl) (fun _ _ => by kernel_rfl)
theorem noOwnUnsafe : Tryd.pinned.checked.prog.headLifts.contains "ownunsafe" = false := by kernel_rfl
theorem tie : Tryd.prog.laidByTextLater [("pith/state.afterLit", Rows.laid_pith_state_afterLit), ("pith/state.afterMatch", Rows.laid_pith_state_afterMatch), ("pith/state.afterRep", Rows.laid_pith_state_afterRep), ("pith/state.afterShort", Rows.laid_pith_state_afterShort)] [.data, .data, .data, .data] true :=
  Program.laidByTextLater.sub seatTie1 ["pith/state.afterLit", "pith/state.afterMatch", "pith/state.afterRep", "pith/state.afterShort"] (by kernel_rfl) (by kernel_rfl)
theorem symbolApply_row_tie : Rows.symbolApplyRow.laidByTextAt .later Tryd.pinned [.data, .data, .data, .data] true :=
  OpenClaim.laidByTextAt_later rfl rfl tie noOwnUnsafe
theorem symbolNames_row_tie : Rows.symbolNamesRow.laidByTextAt .later Tryd.pinned [.data, .data, .data, .data] true :=
  OpenClaim.laidByTextAt_later rfl rfl tie noOwnUnsafe
theorem symbolGreater_row_tie : Rows.symbolGreaterRow.laidByTextAt .later Tryd.pinned [.data, .data, .data, .data] true :=
  OpenClaim.laidByTextAt_later rfl rfl tie noOwnUnsafe
theorem symbolRows_row_tie : Rows.symbolRowsRow.laidByTextAt .later Tryd.pinned [.data, .data, .data, .data] true :=
  OpenClaim.laidByTextAt_later rfl rfl tie noOwnUnsafe
theorem symbolLiterals_row_tie : Rows.symbolLiteralsRow.laidByTextAt .later Tryd.pinned [.data, .data, .data, .data] true :=
  OpenClaim.laidByTextAt_later rfl rfl tie noOwnUnsafe
theorem symbolApplyUpto_row_tie : Rows.symbolApplyUptoRow.laidByTextAt .later Tryd.pinned [.data, .data, .data, .data] true :=
  OpenClaim.laidByTextAt_later rfl rfl tie noOwnUnsafe
theorem symbolNamesUpto_row_tie : Rows.symbolNamesUptoRow.laidByTextAt .later Tryd.pinned [.data, .data, .data, .data] true :=
  OpenClaim.laidByTextAt_later rfl rfl tie noOwnUnsafe
theorem symbolGreaterUpto_row_tie : Rows.symbolGreaterUptoRow.laidByTextAt .later Tryd.pinned [.data, .data, .data, .data] true :=
  OpenClaim.laidByTextAt_later rfl rfl tie noOwnUnsafe
theorem symbolRowsUpto_row_tie : Rows.symbolRowsUptoRow.laidByTextAt .later Tryd.pinned [.data, .data, .data, .data] true :=
  OpenClaim.laidByTextAt_later rfl rfl tie noOwnUnsafe
theorem symbolLiteralsUpto_row_tie : Rows.symbolLiteralsUptoRow.laidByTextAt .later Tryd.pinned [.data, .data, .data, .data] true :=
  OpenClaim.laidByTextAt_later rfl rfl tie noOwnUnsafe
end Go.Proofs.YthcgchkcanhmnaaDoor
