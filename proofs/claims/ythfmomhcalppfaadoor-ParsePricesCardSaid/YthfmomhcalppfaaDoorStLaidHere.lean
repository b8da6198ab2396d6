/-
  What the tables' premise gives the walks, and that the door's own heap meets it. Condition: the tables read as the rows say.
-/
import Derived.Test.YthfmomhcalppfaaDoorMem
import Derived.Test.YthfmomhcalppfaaDoorRows
import Derived.ProofKit
import Derived.LaidMore
import Derived.OpenShut
import Derived.Stop.Joined
import Derived.Lib.LaidTab
import Derived.Test.YthfmomhcalppfaaDoorStNext
import Derived.Test.YthfmomhcalppfaaDoorChecked
import Derived.WalkKit
import Derived.WalkSpells
import Derived.WalkLawsBesides
import Derived.Lib.Strings
import Derived.Lib.Slices
import Derived.Lib.Small
import Derived.Lib.Walk
import Derived.Lib.BitFns
import Derived.Lib.Hide
import Derived.Deep.Light
namespace Go.Proofs.YthfmomhcalppfaaDoor
open Go.RowKit


namespace laidHere
variable {W : World}
abbrev list : List (String × DataW Unit) := [("pith/state.afterLit", Rows.laid_pith_state_afterLit), ("pith/state.afterMatch", Rows.laid_pith_state_afterMatch), ("pith/state.afterRep", Rows.laid_pith_state_afterRep), ("pith/state.afterShort", Rows.laid_pith_state_afterShort)]
theorem g_afterLit : Tryd.prog.globalNamed "pith/state.afterLit" = some 0 := by kernel_rfl
theorem t_afterLit : (Tryd.prog.globals[0]?).map (·.type) = some 46 := by kernel_rfl
theorem g_afterMatch : Tryd.prog.globalNamed "pith/state.afterMatch" = some 2 := by kernel_rfl
theorem t_afterMatch : (Tryd.prog.globals[2]?).map (·.type) = some 46 := by kernel_rfl
theorem g_afterRep : Tryd.prog.globalNamed "pith/state.afterRep" = some 3 := by kernel_rfl
theorem t_afterRep : (Tryd.prog.globals[3]?).map (·.type) = some 46 := by kernel_rfl
theorem g_afterShort : Tryd.prog.globalNamed "pith/state.afterShort" = some 1 := by kernel_rfl
theorem t_afterShort : (Tryd.prog.globals[1]?).map (·.type) = some 46 := by kernel_rfl
theorem c61 : Tryd.prog.cellsOf 46 = 12 := by kernel_rfl
theorem c3 : Tryd.prog.cellsOf 3 = 1 := by kernel_rfl
theorem cell_of {cs : Array Value} {zs : List Int} {g : Nat} {name : String} {p : List MemPlace} {fuel : Nat} (hg : Tryd.prog.globalNamed name = some g) (hv : W.var? Tryd.prog name = some cs)
    (hd : DataW.trod (fun _ => ()) Tryd.prog W 0 (fun _ => true) false fuel 46 cs.toList = some (Lib.tabData .i64 zs, p)) (i : Nat) (hi : i < zs.length) : W.cell? ⟨g, i, none⟩ = some (.int .i64 (zs.getD i 0)) := by
  have e := Lib.cells_of_tab Tryd.underlying46 Tryd.underlying3 c3 c61 hd
  obtain rfl : cs = (zs.map fun z => Value.int .i64 z).toArray := by rw [← e]
  have := World.var?_cell hg hv i
  simpa [List.getD, hi] using this
theorem lit_at : ∀ i : Fin 12, [0, 0, 0, 0, 1, 2, 3, 4, 5, 6, 4, 5].getD i.val (0 : Int) = movedN i.val 1 := by decide +kernel
theorem match_at : ∀ i : Fin 12, [7, 7, 7, 7, 7, 7, 7, 10, 10, 10, 10, 10].getD i.val (0 : Int) = movedN i.val 2 := by decide +kernel
theorem rep_at : ∀ i : Fin 12, [8, 8, 8, 8, 8, 8, 8, 11, 11, 11, 11, 11].getD i.val (0 : Int) = movedN i.val 3 := by decide +kernel
theorem short_at : ∀ i : Fin 12, [9, 9, 9, 9, 9, 9, 9, 11, 11, 11, 11, 11].getD i.val (0 : Int) = movedN i.val 4 := by decide +kernel
theorem of_laid (h : laidMetH Tryd.prog list W) : Laid W := by
  rw [MakeChecks.laidMetH_plain _ _ _ (by kernel_rfl)] at h
  obtain ⟨ps, ⟨g0, t0, cs0, f0, p0, q0, hg0, ht0, hv0, hd0, ⟨g1, t1, cs1, f1, p1, q1, hg1, ht1, hv1, hd1, ⟨g2, t2, cs2, f2, p2, q2, hg2, ht2, hv2, hd2, ⟨g3, t3, cs3, f3, p3, q3, hg3, ht3, hv3, hd3, _, _⟩, _⟩, _⟩, _⟩, _, _⟩ := h
  obtain rfl := Option.some.inj (g_afterLit.symm.trans hg0)
  obtain rfl := Option.some.inj (g_afterMatch.symm.trans hg1)
  obtain rfl := Option.some.inj (g_afterRep.symm.trans hg2)
  obtain rfl := Option.some.inj (g_afterShort.symm.trans hg3)
  obtain rfl := Option.some.inj (t_afterLit.symm.trans ht0)
  obtain rfl := Option.some.inj (t_afterMatch.symm.trans ht1)
  obtain rfl := Option.some.inj (t_afterRep.symm.trans ht2)
  obtain rfl := Option.some.inj (t_afterShort.symm.trans ht3)
  have k0 := cell_of (zs := [0, 0, 0, 0, 1, 2, 3, 4, 5, 6, 4, 5]) g_afterLit hv0 hd0
  have k1 := cell_of (zs := [7, 7, 7, 7, 7, 7, 7, 10, 10, 10, 10, 10]) g_afterMatch hv1 hd1
  have k2 := cell_of (zs := [8, 8, 8, 8, 8, 8, 8, 11, 11, 11, 11, 11]) g_afterRep hv2 hd2
  have k3 := cell_of (zs := [9, 9, 9, 9, 9, 9, 9, 11, 11, 11, 11, 11]) g_afterShort hv3 hd3
  refine ⟨?_, fun i hi => ⟨?_, ?_, ?_, ?_⟩⟩
  · have : 3 < W.heap.size := World.block_lt_of_cell? W _ (k2 0 (by decide))
    omega
  · rw [← lit_at ⟨i, hi⟩]; exact k0 i hi
  · rw [← short_at ⟨i, hi⟩]; exact k3 i hi
  · rw [← match_at ⟨i, hi⟩]; exact k1 i hi
  · rw [← rep_at ⟨i, hi⟩]; exact k2 i hi
/-- the door's own heap meets the condition -/
theorem door_met (os : Os) (args : Array Value) : laidMetH Tryd.prog list ((World.doorLaid Tryd.prog 400 os).forCall (fun _ _ => 0) ⟨#[], args, []⟩).memory :=
  laidMetH_of_parts3 (fuel := 8) (laidMet_of_run' 8 (by kernel_rfl) (by kernel_rfl)) (by kernel_rfl) (by kernel_rfl)
theorem own : ownKnob Tryd.prog.godebug = none := by kernel_rfl
theorem laidOut : laidOutB Tryd.prog = true := by kernel_rfl
end laidHere
end Go.Proofs.YthfmomhcalppfaaDoor
