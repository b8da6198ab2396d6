/-
  Laws on the way to the claim (OwB OwC OwD OwE Bulk OxA). Conditions: those that each theorem states.
-/
import Derived.LaidMore
import Derived.Lib.LaidTab
import Derived.Test.YtcjehjdehdoaeaaGreatDoorOm50
import Derived.Shelf.Vars
import Derived.KernelRfl
import Derived.Test.YtcjehjdehdoaeaaGreatDoorRows
import Derived.MakeChecks
import Derived.Test.YtcjehjdehdoaeaaGreatDoorOm03
import Derived.WalkKit
import Derived.ProofKit
import Derived.OpenShut
import Derived.ChangeOld
import Derived.SizedLaws
import Derived.Deep.Slices
import Derived.Deep.Fields
import Derived.ChangeSame
import Derived.ChangeArms
set_option linter.unusedVariables false
set_option linter.unusedSimpArgs false
set_option maxRecDepth 1000000
set_option maxHeartbeats 16000000
namespace Go.Proofs.YtcjehjdehdoaeaaGreatDoor
open Go
theorem cells_of_tabs {H : Type} {enc : TypeId × Value → H} {P : Program} {w : World} {base : Nat} {sp : Nat → Bool} {held : Bool} {fuel : Nat} {t e u : TypeId} {n m : Nat} {k : IntKind} {cs : List Value} {zs : List (List Int)} {p : List MemPlace}
 (ht : P.underlying t = some (.array n e)) (he : P.underlying e = some (.array m u)) (hu : P.underlying u = some (.int k)) (hcu : P.cellsOf u = 1) (hce : P.cellsOf e = m) (hct : P.cellsOf t = n * m)
 (h : DataW.trod enc P w base sp held fuel t cs = some (.agg (zs.map (Lib.tabData k)), p)) (i j : Nat) (hi : i < n) (hj : j < m) : cs[i * m + j]? = some (.int k ((zs.getD i []).getD j 0)) := by
 cases fuel with
 | zero => simp [DataW.trod] at h
 | succ fuel =>
  simp only [DataW.trod, ht, hce, hct] at h;split at h
  · obtain ⟨xs, hm, hx⟩ := Option.map_eq_some_iff.1 h;have hxs : xs.map (·.1) = zs.map (Lib.tabData (H := H) k) := by simpa using congrArg Prod.fst hx
    obtain ⟨b, hb, hf⟩ := Lib.mapM_at hm i i (by simp [hi])
    have h2 : (xs.map (·.1))[i]? = some b.1 := by simp [hb]
    rw [hxs, List.getElem?_map, Option.map_eq_some_iff] at h2;obtain ⟨z, hz, hzb⟩ := h2;have hf' : DataW.trod enc P w base sp held fuel e ((cs.drop (i * m)).take m) = some (Lib.tabData k z, b.2) := by rw [hzb]; exact hf
    have hl := Lib.cells_of_tab he hu hcu hce hf';have h3 : ((cs.drop (i * m)).take m)[j]? = cs[i * m + j]? := by rw [List.getElem?_take, if_pos hj, List.getElem?_drop]
    have hzm : z.length = m := by
     cases fuel with
     | zero => simp [DataW.trod] at hf'
     | succ fuel =>
      simp only [DataW.trod, he, hcu, hce, Nat.mul_one] at hf';split at hf'
      · rename_i hlen;rw [hl] at hlen;simpa using hlen
      · cases hf'
    rw [← h3, hl, List.getD_eq_getElem?_getD, List.getD_eq_getElem?_getD, hz];have hj' : j < z.length := by omega
    simp [hj']
  · cases h
theorem tab_cells {P : Program} {W : World} {g : Nat} {name : String} {t e : TypeId} {n : Nat} {k : IntKind} {cs : Array Value} {zs : List Int} {fuel : Nat} {p : List MemPlace} (hg : P.globalNamed name = some g) (ht : P.underlying t = some (.array n e)) (he : P.underlying e = some (.int k)) (hce : P.cellsOf e = 1) (hct : P.cellsOf t = n) (hv : W.var? P name = some cs)
 (hd : DataW.trod (fun _ => ()) P W 0 (fun _ => true) false fuel t cs.toList = some (Lib.tabData k zs, p)) (i : Nat) (hi : i < zs.length) : W.cell? ⟨g, i, none⟩ = some (.int k (zs.getD i 0)) := by
 have e := Lib.cells_of_tab ht he hce hct hd;obtain rfl : cs = (zs.map fun z => Value.int k z).toArray := by rw [← e]
 have := World.var?_cell hg hv i;simpa [List.getD, hi] using this
theorem tabs_cells {P : Program} {W : World} {g : Nat} {name : String} {t e u : TypeId} {n m : Nat} {k : IntKind} {cs : Array Value} {zs : List (List Int)} {fuel : Nat} {p : List MemPlace} (hg : P.globalNamed name = some g) (ht : P.underlying t = some (.array n e)) (he : P.underlying e = some (.array m u)) (hu : P.underlying u = some (.int k)) (hcu : P.cellsOf u = 1) (hce : P.cellsOf e = m) (hct : P.cellsOf t = n * m) (hv : W.var? P name = some cs)
 (hd : DataW.trod (fun _ => ()) P W 0 (fun _ => true) false fuel t cs.toList = some (.agg (zs.map (Lib.tabData k)), p)) (i j : Nat) (hi : i < n) (hj : j < m) : W.cell? ⟨g, i * m + j, none⟩ = some (.int k ((zs.getD i []).getD j 0)) := by
 have e := cells_of_tabs ht he hu hcu hce hct hd i j hi hj;have hlt : i * m + j < cs.size := by
  rcases Nat.lt_or_ge (i * m + j) cs.size with h | h
  · exact h
  · rw [List.getElem?_eq_none (by simpa using h)] at e; cases e
 have := World.var?_cell hg hv (i * m + j);rw [this];simpa using e
theorem shaped_ints {P : Program} {w : World} {g n : Nat} {t e : TypeId} {zero : Array Value} {k : IntKind} (h : w.ShapedOpen P) (hg : g < P.globals.size)
 (h0 : ((begin P (fun _ _ => 0) default).world.heap[g]?).bind Obj.row? = some (zero, t)) (hz : zero.size = n)
 (hb : P.buildable t = true) (hc : P.cellTypes P.depth t = some (List.replicate n e)) (hu : P.underlying e = some (.int k)) :
 g < w.heap.size ∧ ∀ i, i < n → ∃ m, w.cell? ⟨g, i, none⟩ = some (.int k m) := by
 obtain ⟨cs, hh, hs, hr⟩ := h.1 g zero t hg h0;refine ⟨?_, fun i hi => ?_⟩
 · rcases Nat.lt_or_ge g w.heap.size with hl | hl
   · exact hl
   · rw [Array.getElem?_eq_none hl] at hh; cases hh
 obtain ⟨ts, hts, _, hall⟩ := hr hb;rw [hc] at hts;cases hts;have h1 : i < cs.size := by omega
 obtain ⟨u, hu', hok⟩ := hall i cs[i] (by simp [h1])
 have : u = e := by
  rw [List.getElem?_replicate, List.length_replicate, Nat.mod_eq_of_lt hi, if_pos hi] at hu';exact (Option.some.inj hu').symm
 subst this;have hcell : w.cell? ⟨g, i, none⟩ = some cs[i] := by simp [World.cell?, hh, h1]
 rw [hcell];unfold Cell.ok at hok;rw [hu] at hok;cases hv : cs[i] <;> rw [hv] at hok <;> simp at hok
 case int k' m => exact ⟨m, by rw [hok.1]⟩
theorem two_tables {W : World} (h : W.ShapedOpen Tryz.prog) : ∃ T Rr : Nat → Int, LaidC64 T W ∧ LaidR Rr W := by
 have h1 := shaped_ints (n := 16) (zero := Array.replicate 16 (.int .u64 0)) (g := 18) (t := 433) (e := 102) (k := .u64) h (by decide +kernel) (by kernel_rfl) rfl (by kernel_rfl) (by kernel_rfl) (by kernel_rfl)
 have h2 := shaped_ints (n := 64) (zero := Array.replicate 64 (.int .u32 0)) (g := 19) (t := 438) (e := 42) (k := .u32) h (by decide +kernel) (by kernel_rfl) rfl (by kernel_rfl) (by kernel_rfl) (by kernel_rfl)
 refine ⟨fun i => if hi : i < 16 then (h1.2 i hi).choose else 0, fun i => if hi : i < 64 then (h2.2 i hi).choose else 0, ⟨h1.1, fun i hi => ?_⟩, ⟨h2.1, fun i hi => ?_⟩⟩
 · dsimp only; rw [dif_pos hi]; exact (h1.2 i hi).choose_spec
 · dsimp only; rw [dif_pos hi]; exact (h2.2 i hi).choose_spec
end Go.Proofs.YtcjehjdehdoaeaaGreatDoor
namespace Go.Proofs.YtcjehjdehdoaeaaGreatDoor
open Go Go.RowKit
theorem laidE_of {W : World} {ps : List MemPlace} (l : List (String × List UInt8)) (hl : l.length = 9) (hn : ∀ (k : Nat) (x : String × List UInt8), l[k]? = some x → Tryz.prog.globalNamed x.1 = some (gE (k + 1)) ∧ (Tryz.prog.globals[gE (k + 1)]?).map (·.type) = some 30)
 (h : DataW.LaidVars Tryz.prog W (sentOf "*errors.errorString" l) ps) (hnd : ps.Nodup)
 (hr : ∀ b off, MemPlace.cell b off ∈ ps → (∃ c t, W.heap[b]? = some (.cells c t (0, 0))) ∧ ∀ u v, W.cell? ⟨b, off, none⟩ = some (.iface u v) → Value.okWide Tryz.prog W .any 0 u v)
 (hrow : ∀ u, Tryz.prog.typeName? 3 u = some "*errors.errorString" → u = 407) : ∃ E, LaidE E W := by
 obtain ⟨az, h1, h2, h3, h4⟩ := sentinels (ti := 30) (tp := 407) (te := 444) (ts := 9) Tryz.underlying30 hrow Tryz.underlying407 Tryz.underlying444 rfl rfl Tryz.underlying9 (by kernel_rfl) (by kernel_rfl) l ps (fun x hx g hg => by
  obtain ⟨k, hk⟩ := List.mem_iff_getElem?.1 hx;obtain ⟨e1, e2⟩ := hn k x hk;rw [e1] at hg;obtain rfl := Option.some.inj hg;exact e2) h hnd hr
 have key : ∀ k, 1 ≤ k → k ≤ 9 → ∃ x, l[k - 1]? = some x ∧ az[k - 1]? = some (az.getD (k - 1) ⟨0, 0, none⟩) := fun k k1 k9 => by
  refine ⟨l[k - 1]'(by omega), List.getElem?_eq_getElem (by omega), ?_⟩
  rw [List.getD_eq_getElem?_getD, List.getElem?_eq_getElem (by omega)]
  rfl
 refine ⟨fun k => az.getD (k - 1) ⟨0, 0, none⟩, fun k k1 k9 => ?_, fun k k1 k9 => ?_, fun i j i1 i9 j1 j9 hij => ?_⟩
 · obtain ⟨x, hx, ha⟩ := key k k1 k9;have hv := (h4 _ _ _ hx ha).1;have hg := (hn _ _ hx).1;rw [Nat.sub_add_cancel k1] at hg;have hcell := World.var?_cell hg hv 0;exact ⟨World.block_lt_of_cell? W _ (hcell.trans rfl), hcell⟩
 · obtain ⟨x, hx, ha⟩ := key k k1 k9;exact (h4 _ _ _ hx ha).2
 · obtain ⟨_, _, ha⟩ := key i i1 i9;obtain ⟨_, _, hb⟩ := key j j1 j9;have hij' : az.getD (i - 1) ⟨0, 0, none⟩ = az.getD (j - 1) ⟨0, 0, none⟩ := hij;rw [hij'] at ha;have e := (List.getElem?_inj (by omega) h2).1 (ha.trans hb.symm)
   omega
theorem laidA_of {W : World} (h : laidMetH Tryz.prog Rows.oneMeaningUptoRow.laid W) (hs : W.ShapedOpen Tryz.prog) : ∃ T Rr E, LaidA T Rr E W := by
 rw [MakeChecks.laidMetH_plain _ _ _ (by kernel_rfl)] at h
 obtain ⟨ps, hL, hnd, hrows⟩ := h;obtain ⟨g0, t0, cs0, f0, p0, q0, hg0, ht0, hv0, hd0, hL, rfl⟩ := hL;replace hnd := (List.nodup_append.1 hnd).2.1;replace hrows := fun (b off) (hb : MemPlace.cell b off ∈ q0) => hrows b off (List.mem_append_right _ hb)
 obtain ⟨g1, t1, cs1, f1, p1, q1, hg1, ht1, hv1, hd1, hL, rfl⟩ := hL;replace hnd := (List.nodup_append.1 hnd).2.1;replace hrows := fun (b off) (hb : MemPlace.cell b off ∈ q1) => hrows b off (List.mem_append_right _ hb)
 obtain ⟨g2, t2, cs2, f2, p2, q2, hg2, ht2, hv2, hd2, hL, rfl⟩ := hL;replace hnd := (List.nodup_append.1 hnd).2.1;replace hrows := fun (b off) (hb : MemPlace.cell b off ∈ q2) => hrows b off (List.mem_append_right _ hb)
 obtain ⟨g3, t3, cs3, f3, p3, q3, hg3, ht3, hv3, hd3, hL, rfl⟩ := hL;replace hnd := (List.nodup_append.1 hnd).2.1;replace hrows := fun (b off) (hb : MemPlace.cell b off ∈ q3) => hrows b off (List.mem_append_right _ hb)
 obtain ⟨g4, t4, cs4, f4, p4, q4, hg4, ht4, hv4, hd4, hL, rfl⟩ := hL;replace hnd := (List.nodup_append.1 hnd).2.1;replace hrows := fun (b off) (hb : MemPlace.cell b off ∈ q4) => hrows b off (List.mem_append_right _ hb)
 obtain ⟨g5, t5, cs5, f5, p5, q5, hg5, ht5, hv5, hd5, hL, rfl⟩ := hL;replace hnd := (List.nodup_append.1 hnd).2.1;replace hrows := fun (b off) (hb : MemPlace.cell b off ∈ q5) => hrows b off (List.mem_append_right _ hb)
 obtain ⟨g6, t6, cs6, f6, p6, q6, hg6, ht6, hv6, hd6, hL, rfl⟩ := hL;replace hnd := (List.nodup_append.1 hnd).2.1;replace hrows := fun (b off) (hb : MemPlace.cell b off ∈ q6) => hrows b off (List.mem_append_right _ hb)
 obtain ⟨g7, t7, cs7, f7, p7, q7, hg7, ht7, hv7, hd7, hL, rfl⟩ := hL;replace hnd := (List.nodup_append.1 hnd).2.1;replace hrows := fun (b off) (hb : MemPlace.cell b off ∈ q7) => hrows b off (List.mem_append_right _ hb)
 obtain ⟨g8, t8, cs8, f8, p8, q8, hg8, ht8, hv8, hd8, hL, rfl⟩ := hL;replace hnd := (List.nodup_append.1 hnd).2.1;replace hrows := fun (b off) (hb : MemPlace.cell b off ∈ q8) => hrows b off (List.mem_append_right _ hb)
 obtain rfl := Option.some.inj ((show Tryz.prog.globalNamed "pith/crc.table32" = some 9 by kernel_rfl).symm.trans hg0)
 obtain rfl := Option.some.inj ((show (Tryz.prog.globals[9]?).map (·.type) = some 134 by kernel_rfl).symm.trans ht0)
 obtain rfl := Option.some.inj ((show Tryz.prog.globalNamed "pith/sha.first" = some 12 by kernel_rfl).symm.trans hg1)
 obtain rfl := Option.some.inj ((show (Tryz.prog.globals[12]?).map (·.type) = some 239 by kernel_rfl).symm.trans ht1)
 obtain rfl := Option.some.inj ((show Tryz.prog.globalNamed "pith/state.afterLit" = some 13 by kernel_rfl).symm.trans hg2)
 obtain rfl := Option.some.inj ((show (Tryz.prog.globals[13]?).map (·.type) = some 307 by kernel_rfl).symm.trans ht2)
 obtain rfl := Option.some.inj ((show Tryz.prog.globalNamed "pith/state.afterMatch" = some 15 by kernel_rfl).symm.trans hg3)
 obtain rfl := Option.some.inj ((show (Tryz.prog.globals[15]?).map (·.type) = some 307 by kernel_rfl).symm.trans ht3)
 obtain rfl := Option.some.inj ((show Tryz.prog.globalNamed "pith/state.afterRep" = some 16 by kernel_rfl).symm.trans hg4)
 obtain rfl := Option.some.inj ((show (Tryz.prog.globals[16]?).map (·.type) = some 307 by kernel_rfl).symm.trans ht4)
 obtain rfl := Option.some.inj ((show Tryz.prog.globalNamed "pith/state.afterShort" = some 14 by kernel_rfl).symm.trans hg5)
 obtain rfl := Option.some.inj ((show (Tryz.prog.globals[14]?).map (·.type) = some 307 by kernel_rfl).symm.trans ht5)
 obtain rfl := Option.some.inj ((show Tryz.prog.globalNamed "pith/varint.bounds" = some 10 by kernel_rfl).symm.trans hg6)
 obtain rfl := Option.some.inj ((show (Tryz.prog.globals[10]?).map (·.type) = some 167 by kernel_rfl).symm.trans ht6)
 obtain rfl := Option.some.inj ((show Tryz.prog.globalNamed "pith/chunk.moves" = some 17 by kernel_rfl).symm.trans hg7)
 obtain rfl := Option.some.inj ((show (Tryz.prog.globals[17]?).map (·.type) = some 377 by kernel_rfl).symm.trans ht7)
 obtain rfl := Option.some.inj ((show Tryz.prog.globalNamed "pith/check.sizes" = some 11 by kernel_rfl).symm.trans hg8)
 obtain rfl := Option.some.inj ((show (Tryz.prog.globals[11]?).map (·.type) = some 238 by kernel_rfl).symm.trans ht8)
 have k0 := tab_cells (n := 16) (k := .u32) (e := 42) (zs := t32.map Int.ofNat) hg0 (by kernel_rfl) (by kernel_rfl) (by kernel_rfl) (by kernel_rfl) hv0 hd0
 have k1 := tab_cells (n := 8) (k := .u32) (e := 42) (zs := shaFirst.map Int.ofNat) hg1 (by kernel_rfl) (by kernel_rfl) (by kernel_rfl) (by kernel_rfl) hv1 hd1
 have k2 := tab_cells (n := 12) (k := .i64) (e := 3) (zs := [0, 0, 0, 0, 1, 2, 3, 4, 5, 6, 4, 5]) hg2 (by kernel_rfl) (by kernel_rfl) (by kernel_rfl) (by kernel_rfl) hv2 hd2
 have k3 := tab_cells (n := 12) (k := .i64) (e := 3) (zs := [7, 7, 7, 7, 7, 7, 7, 10, 10, 10, 10, 10]) hg3 (by kernel_rfl) (by kernel_rfl) (by kernel_rfl) (by kernel_rfl) hv3 hd3
 have k4 := tab_cells (n := 12) (k := .i64) (e := 3) (zs := [8, 8, 8, 8, 8, 8, 8, 11, 11, 11, 11, 11]) hg4 (by kernel_rfl) (by kernel_rfl) (by kernel_rfl) (by kernel_rfl) hv4 hd4
 have k5 := tab_cells (n := 12) (k := .i64) (e := 3) (zs := [9, 9, 9, 9, 9, 9, 9, 11, 11, 11, 11, 11]) hg5 (by kernel_rfl) (by kernel_rfl) (by kernel_rfl) (by kernel_rfl) hv5 hd5
 have k6 := tab_cells (n := 9) (k := .u64) (e := 102) (zs := (List.range 9).map fun i => (bndN i : Int)) hg6 (by kernel_rfl) (by kernel_rfl) (by kernel_rfl) (by kernel_rfl) hv6 hd6
 have k7 := tabs_cells (n := 4) (m := 7) (k := .i64) (e := 376) (u := 3) (zs := [[3, 1, 4, 4, 4, 4, 2], [3, 1, 1, 4, 4, 2, 2], [3, 1, 2, 2, 2, 2, 2], [4, 4, 4, 4, 4, 4, 4]]) hg7 (by kernel_rfl) (by kernel_rfl) (by kernel_rfl) (by kernel_rfl) (by kernel_rfl) (by kernel_rfl) hv7 hd7
 have k8 := tab_cells (n := 16) (k := .i64) (e := 3) (zs := [0, 4, 4, 4, 8, 8, 8, 16, 16, 16, 32, 32, 32, 64, 64, 64]) hg8 (by kernel_rfl) (by kernel_rfl) (by kernel_rfl) (by kernel_rfl) hv8 hd8
 obtain ⟨T, Rr, hT, hR⟩ := two_tables hs;obtain ⟨E, hE⟩ := laidE_of [("pith/stream.Truncated", _), ("pith/stream.Format", _), ("pith/stream.Check", _), ("pith/stream.Unsupported", _), ("pith/stream.MemLimit", _), ("pith/stream.Config", _), ("pith/stream.Range", _), ("pith/stream.Name", _), ("pith/stream.Twice", _)] rfl (fun k x hk => by
  have hk9 : k < 9 := by rcases Nat.lt_or_ge k 9 with h | h; exact h; rw [List.getElem?_eq_none h] at hk; cases hk
  obtain rfl | rfl | rfl | rfl | rfl | rfl | rfl | rfl | rfl : k = 0 ∨ k = 1 ∨ k = 2 ∨ k = 3 ∨ k = 4 ∨ k = 5 ∨ k = 6 ∨ k = 7 ∨ k = 8 := by omega
  all_goals cases hk; exact ⟨by kernel_rfl, by kernel_rfl⟩) hL hnd hrows (fun u h => by
  have star : "*errors.errorString" = "*" ++ "errors.errorString" := by decide +kernel
  exact typeName_ptr_named (nm := "errors.errorString") (by rw [← star]; kernel_rfl) (by kernel_rfl) (by decide) u (by rw [← star]; exact h))
 refine ⟨T, Rr, E, ⟨⟨⟨World.block_lt_of_cell? W _ (k0 0 (by decide)), fun i hi => ?_⟩, hT, hR, ⟨World.block_lt_of_cell? W _ (k1 0 (by decide)), fun i hi => ?_⟩, ⟨World.block_lt_of_cell? W _ (k8 0 (by decide)), fun k hk => ?_⟩⟩, ⟨?_, fun i hi => ⟨?_, ?_, ?_, ?_⟩⟩, ⟨World.block_lt_of_cell? W _ (k7 0 0 (by decide) (by decide)), fun s k h1 h2 => ?_⟩, hE, ⟨World.block_lt_of_cell? W _ (k6 0 (by decide)), fun i hi => ?_⟩⟩⟩
 · exact (k0 i hi).trans (by rw [(by decide : ∀ j : Fin 16, (t32.map Int.ofNat).getD j.val 0 = ((t32.getD j.val 0 : Nat) : Int)) ⟨i, hi⟩])
 · exact (k1 i hi).trans (by rw [(by decide : ∀ j : Fin 8, (shaFirst.map Int.ofNat).getD j.val 0 = ((shaFirst.getD j.val 0 : Nat) : Int)) ⟨i, hi⟩])
 · rcases hk with rfl | rfl | rfl | rfl
   all_goals exact k8 _ (by decide)
 · have : 16 < W.heap.size := World.block_lt_of_cell? W _ (k4 0 (by decide))
   omega
 · exact (k2 i hi).trans (by rw [(by decide : ∀ j : Fin 12, [0, 0, 0, 0, 1, 2, 3, 4, 5, 6, 4, 5].getD j.val (0 : Int) = movedN j.val 1) ⟨i, hi⟩])
 · exact (k5 i hi).trans (by rw [(by decide : ∀ j : Fin 12, [9, 9, 9, 9, 9, 9, 9, 11, 11, 11, 11, 11].getD j.val (0 : Int) = movedN j.val 4) ⟨i, hi⟩])
 · exact (k3 i hi).trans (by rw [(by decide : ∀ j : Fin 12, [7, 7, 7, 7, 7, 7, 7, 10, 10, 10, 10, 10].getD j.val (0 : Int) = movedN j.val 2) ⟨i, hi⟩])
 · exact (k4 i hi).trans (by rw [(by decide : ∀ j : Fin 12, [8, 8, 8, 8, 8, 8, 8, 11, 11, 11, 11, 11].getD j.val (0 : Int) = movedN j.val 3) ⟨i, hi⟩])
 · exact (k7 s k h1 h2).trans (by rw [(by decide : ∀ (a : Fin 4) (b : Fin 7), (([[3, 1, 4, 4, 4, 4, 2], [3, 1, 1, 4, 4, 2, 2], [3, 1, 2, 2, 2, 2, 2], [4, 4, 4, 4, 4, 4, 4]] : List (List Int)).getD a.val []).getD b.val 0 = (moveN a.val b.val : Int)) ⟨s, h1⟩ ⟨k, h2⟩])
 · refine (k6 i hi).trans ?_;obtain rfl | rfl | rfl | rfl | rfl | rfl | rfl | rfl | rfl : i = 0 ∨ i = 1 ∨ i = 2 ∨ i = 3 ∨ i = 4 ∨ i = 5 ∨ i = 6 ∨ i = 7 ∨ i = 8 := by omega
   all_goals rfl
end Go.Proofs.YtcjehjdehdoaeaaGreatDoor
namespace Go.Proofs.YtcjehjdehdoaeaaGreatDoor.bulks
theorem one_le {H : Type} (d : DataW H) : 1 ≤ Rows.uptoBulk d := by
 rcases d with l | _ | d | ⟨e, s⟩ | p | ⟨t, d⟩ | m | h
 · cases l <;> simp [Rows.uptoBulk]
 all_goals simp [Rows.uptoBulk]
theorem part_le {H : Type} {d : DataW H} {l : List (DataW H)} (h : d ∈ l) : Rows.uptoBulk d ≤ Rows.uptoBulkAll l := by
 induction l with
 | nil => cases h
 | cons x r ih =>
  rw [Rows.uptoBulkAll];rcases List.mem_cons.1 h with rfl | h
  · exact Nat.le_add_right _ _
  · exact Nat.le_trans (ih h) (Nat.le_add_left _ _)
theorem length_le {H : Type} (l : List (DataW H)) : l.length ≤ Rows.uptoBulkAll l := by
 induction l with
 | nil => exact Nat.zero_le _
 | cons x r ih =>
  have := one_le x;rw [Rows.uptoBulkAll, List.length_cons];omega
theorem slice_le {H : Type} (es sp : List (DataW H)) : es.length + sp.length + 1 ≤ Rows.uptoBulk (.slice es sp) := by
 have h1 := length_le es;have h2 := length_le sp;rw [Rows.uptoBulk];omega
theorem bound {H : Type} {l : List (DataW H)} (hk : Rows.uptoSmall H l = true) : Rows.uptoBulkAll l ≤ 1048576 := of_decide_eq_true hk
end Go.Proofs.YtcjehjdehdoaeaaGreatDoor.bulks
namespace Go.Proofs.YtcjehjdehdoaeaaGreatDoor.opn
open Go.ChangeShapes Go.WideShapes Go.ChangeAt Go.RowKit Go.Deep
theorem own_ : ownKnob Tryz.prog.godebug = none := by kernel_rfl
theorem laidOut_ : laidOutB Tryz.prog = true := by kernel_rfl
theorem cellsU8 : Tryz.prog.cellsOf 5 = 1 := by kernel_rfl
section
variable {H : Type} {enc : TypeId × Value → H} {P : Program} {w : World} {base : Nat} {spare : Nat → Bool} {held : Bool}
end
section
variable {H : Type} {enc : TypeId × Value → H} {w : World} {base b0 : Nat} {held : Bool} {r : Reach}
theorem bytes_trod {fuel : Nat} {cs : List Value} {x : DataW H × List MemPlace} (hf : DataW.trod enc Tryz.prog w 0 (fun _ => true) held fuel 22 cs = some x) :
 ∃ A n c l, cs = [.slice A n c] ∧ n ≤ c ∧ Rd w 1 A n (bys l) ∧ (0 < n → ∀ ad, A = some ad → ad.block < w.heap.size) ∧ (n = 0 ∨ ∃ es sp, x.1 = .slice es sp ∧ es.length = n) := by
 rcases open_slice Tryz.underlying22 hf with ⟨hcs, _⟩ | ⟨a, n, m, cap, n', D, Pl, hcs, _, hl, hm, hmm, hx, hi⟩
 · subst hcs;exact ⟨none, 0, 0, [], rfl, Nat.le_refl _, ⟨rfl, fun h => absurd h (by omega)⟩, (fun _ _ h => by cases h), .inl rfl⟩
 · subst hcs;have hl' := hl;simp only [if_true] at hmm;subst hmm;rw [cellsU8] at hi;have cell : ∀ i, i < n → ∃ x : UInt8, w.cell? (a.add i) = some (.int .u8 (x.toNat : Int)) := by
    intro i hin;obtain ⟨cs', hc, ht⟩ := hi i (by omega)
    obtain ⟨x, e, _, hw⟩ := DataW.trod_int Tryz.underlying5 ht;subst e;obtain ⟨_, _, hat⟩ := World.cells?_some hc;have h0 := hat 0 (by omega)
    have hw := bounds_u8 hw;refine ⟨UInt8.ofNat x.toNat, ?_⟩;have hx : ((UInt8.ofNat x.toNat).toNat : Int) = x := by
     rw [UInt8.toNat_ofNat']; omega
    rw [hx];rw [add_add', Nat.mul_one, Nat.add_zero] at h0;simpa using h0
   have hall : ∃ l : List UInt8, l.length = n ∧ ∀ i x, l[i]? = some x → w.cell? (a.add i) = some (.int .u8 (x.toNat : Int)) := by
    clear hi hf hx
    revert cell
    clear hl;intro cell;refine ⟨(List.range n).attach.map fun i => Classical.choose (cell i.1 (List.mem_range.1 i.2)), by simp, fun i x hx => ?_⟩
    have hin : i < n := by
     have := (List.getElem?_eq_some_iff.1 hx).1;simpa using this
    have := Classical.choose_spec (cell i hin);simp [hin] at hx;rw [← hx];exact this
   obtain ⟨l, hll, hlc⟩ := hall;refine ⟨some a, n, _, l, rfl, hl', ⟨by rw [bys_length]; omega, fun _ => ⟨a, rfl, fun j u hu => ?_⟩⟩, fun h0 ad had => ?_, .inr ⟨_, _, by rw [hx], by simp⟩⟩
   · have hj : j < l.length := by have := (List.getElem?_eq_some_iff.1 hu).1; rwa [bys_length] at this
     rw [bys_get (List.getElem?_eq_getElem hj)] at hu;cases hu;exact hlc j _ (List.getElem?_eq_getElem hj)
   · cases had;obtain ⟨x, hx⟩ := cell 0 h0;have := World.block_lt_of_cell? w _ hx
     rwa [block_add] at this
theorem open_bytes {v : Value} {d : DataW H} {p : List MemPlace} (hv : Value.okWide Tryz.prog w r b0 22 v) (h : DataW.Trod enc Tryz.prog w 0 (fun _ => true) held 22 v d p) :
 ∃ A n c l, v = .slice A n c ∧ n ≤ c ∧ Rd w 1 A n (bys l) ∧ (0 < n → ∀ ad, A = some ad → ad.block < w.heap.size) ∧ (n = 0 ∨ ∃ es sp, d = .slice es sp ∧ es.length = n) := by
 obtain ⟨A, n, c, rfl⟩ := okWide_slice Tryz.underlying22 hv;obtain ⟨fuel, hf⟩ := h;obtain ⟨A', n', c', l, hcs, h1⟩ := bytes_trod hf;simp [Value.cells] at hcs;obtain ⟨rfl, rfl, rfl⟩ := hcs;exact ⟨A, n, c, l, rfl, h1⟩
theorem open_agg {t : TypeId} {fs : Array Field} {v : Value} {d : DataW H} {p : List MemPlace} {spare : Nat → Bool} (hu : Tryz.prog.underlying t = some (.struct fs)) (hv : Value.okWide Tryz.prog w r b0 t v) (h : DataW.Trod enc Tryz.prog w base spare held t v d p) :
 ∃ cs : Array Value, v = .agg cs ∧ ∃ n, DataW.trod enc Tryz.prog w base spare held n t cs.toList = some (d, p) := by
 obtain ⟨cs, rfl, _⟩ := okWide_struct hu hv;obtain ⟨n, hn⟩ := h;exact ⟨cs, rfl, n, hn⟩
theorem cellsI1 : Tryz.prog.cellsOf 3 = 1 := by kernel_rfl
theorem int_at {n : Nat} {cs : List Value} {i : Nat} {y : Option (DataW H × List MemPlace)} {spare : Nat → Bool} (h : DataW.trod enc Tryz.prog w base spare held n 3 ((cs.drop i).take (Tryz.prog.cellsOf 3)) = y) (hy : y.isSome = true) (hi : i < cs.length) : ∃ x, cs[i]? = some (.int .i64 x) ∧ -9223372036854775808 ≤ x ∧ x ≤ 9223372036854775807 := by
 rw [cellsI1] at h;obtain ⟨y, rfl⟩ := Option.isSome_iff_exists.1 hy;obtain ⟨x, e, _, hw⟩ := DataW.trod_int Tryz.underlying3 h;rw [List.drop_eq_getElem_cons hi, List.take_succ_cons, List.take_zero] at e;injection e with e;exact ⟨x, by rw [List.getElem?_eq_getElem hi, e], bounds_i64 hw⟩
theorem cellsLim : Tryz.prog.cellsOf 40 = 3 := by kernel_rfl
theorem open_limits {v : Value} {d : DataW H} {p : List MemPlace} (hv : Value.okWide Tryz.prog w r b0 40 v) (h : DataW.Trod enc Tryz.prog w 0 (fun _ => true) held 40 v d p) :
 ∃ a b c : Int, v = .agg #[.int .i64 a, .int .i64 b, .int .i64 c] := by
 obtain ⟨cs, rfl, n, hf⟩ := open_agg Tryz.underlying40 hv h;obtain ⟨xs, n', _, hx, hlen, hxl, hat⟩ := DataW.trod_struct Tryz.underlying40 hf;rw [cellsLim] at hlen;have hxl' : xs.length = 3 := hxl;obtain ⟨x0, e0, _⟩ := int_at (i := 0) (hat 0 _ rfl) (by simp; omega) (by omega)
 obtain ⟨x1, e1, _⟩ := int_at (i := 1) (hat 1 _ rfl) (by simp; omega) (by omega)
 obtain ⟨x2, e2, _⟩ := int_at (i := 2) (hat 2 _ rfl) (by simp; omega) (by omega)
 refine ⟨x0, x1, x2, ?_⟩;have e : cs.toList = (#[.int .i64 x0, .int .i64 x1, .int .i64 x2] : Array Value).toList := by
  match hcs : cs.toList, hlen with
  | [v0, v1, v2], _ =>
   rw [hcs] at e0 e1 e2;simp at e0 e1 e2;rw [e0, e1, e2]
 rw [← Array.toList_inj.1 e]
end
end Go.Proofs.YtcjehjdehdoaeaaGreatDoor.opn
