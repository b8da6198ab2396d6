/-
  Laws on the way to the claim (OrH OrM). Conditions: those that each theorem states.
-/
import Derived.Test.YtcjehjdehdoaeaaGreatDoorOm21
import Derived.ChangeKeysEq
import Derived.Test.YtcjehjdehdoaeaaGreatDoorOm22
set_option linter.unusedVariables false
set_option linter.unusedSimpArgs false
set_option maxRecDepth 1000000
set_option maxHeartbeats 16000000
namespace Go.Proofs.YtcjehjdehdoaeaaGreatDoor
open Go.RowKit
theorem add_none (b o j : Nat) : (⟨b, o, none⟩ : Addr).add j = ⟨b, o + j, none⟩ := by unfold Addr.add; split <;> simp_all
theorem copy_arr {w : World} {g n c dc : Nat} {t : TypeId} {cur : Array Value} (hb : Blk w g t cur) (hcur : cur.size = n) {A : Option Addr} {l : List UInt8} {m : Nat} (hr : In w A m l) (hm : n ≤ m) (hn : 0 < n) :
 ∃ w2, (Builtin.copy_ #[22, 22] 3 #[.slice (some ⟨g, 0, none⟩) n dc, .slice A m c]).run Tryz.prog w = .ok (.int .i64 n) w2 ∧ Blk w2 g t (bys (l.take n)).toArray ∧ Fr (fun k => k = g) w w2 := by
 obtain ⟨ab, ao, rfl, hcell⟩ := hr.1.cells_at (by omega)
 have hl := hr.len;have hlen : (bys (l.take n)).length = n := by rw [bys_length, List.length_take]; omega
 have h := run_copy_row Tryz.prog w 22 22 3 5 g 0 n dc ⟨ab, ao, none⟩ m c cur t (bys (l.take n)) Tryz.underlying22 (by kernel_rfl) hb (by rw [hlen]; exact (Nat.min_eq_right hm).symm)
  (fun j v hj => by
   have hjl : j < n := by have := (List.getElem?_eq_some_iff.1 hj).1; omega
   obtain ⟨z, hz⟩ : ∃ z, l[j]? = some z := ⟨_, List.getElem?_eq_getElem (by omega)⟩
   have := hcell j z hz;rw [bys_get (b := z) (by rw [List.getElem?_take, if_pos hjl]; exact hz)] at hj
   injection hj with hj;rw [← hj, ← this, add_none])
  (by rw [hlen]; omega) (bys_one _)
 refine ⟨_, by rw [h, hlen]; rfl, ?_, ?_⟩
 · have e : cur.toList.take 0 ++ bys (l.take n) ++ cur.toList.drop (0 + n) = bys (l.take n) := by
    rw [List.take_zero, List.nil_append, List.drop_eq_nil_of_le (by simp; omega), List.append_nil]
   rw [e];exact setRow_heap _ _ _ _ _ _ hb
 · exact ⟨rfl, rfl, rfl, by simp [World.setRow], fun k _ hk => setRow_other w g k _ (by omega)⟩
theorem u8s_inj {a b : UInt8} : ((a.toNat : Int) = (b.toNat : Int)) ↔ a = b := by
 constructor
 · intro h; exact UInt8.toNat_inj.1 (by omega)
 · intro h; rw [h]
theorem eqItems_u8 (xs ys : List UInt8) (w : World) : ∀ is : List Nat, (∀ i ∈ is, i < xs.length ∧ i < ys.length) → (Op.eqItems 9999 5 1 (bys xs).toArray (bys ys).toArray is).run Tryz.prog w = .ok (is.all fun i => xs.getD i 0 == ys.getD i 0) w := by
 intro is;induction is with
 | nil => intro _; simp [Op.eqItems]
 | cons i is ih =>
  intro h;obtain ⟨h1, h2⟩ := h i (by simp)
  have ih := ih fun j hj => h j (by simp [hj])
  have e1 : (bys xs)[i]? = some (.int .u8 ((xs.getD i 0).toNat : Int)) := bys_get (by simp [List.getD, List.getElem?_eq_getElem h1])
  have e2 : (bys ys)[i]? = some (.int .u8 ((ys.getD i 0).toNat : Int)) := bys_get (by simp [List.getD, List.getElem?_eq_getElem h2])
  obtain ⟨a, ha⟩ : ∃ a, xs.getD i 0 = a := ⟨_, rfl⟩;obtain ⟨b, hb⟩ : ∃ b, ys.getD i 0 = b := ⟨_, rfl⟩;rw [ha] at e1;rw [hb] at e2;rw [List.all_cons, ha, hb];by_cases hab : a = b
  · subst hab;simp [Op.eqItems, part, isAgg, e1, e2, run_underlying Tryz.underlying5, run_equalIn_int _ _ _ _ _ _ _ Tryz.underlying5, ih]
  · simp [Op.eqItems, part, isAgg, e1, e2, run_underlying Tryz.underlying5, run_equalIn_int _ _ _ _ _ _ _ Tryz.underlying5, u8s_inj, hab]
theorem all_eq (xs ys : List UInt8) (n : Nat) (h1 : xs.length = n) (h2 : ys.length = n) : ((List.range n).all fun i => xs.getD i 0 == ys.getD i 0) = decide (xs = ys) := by
 rw [Bool.eq_iff_iff, List.all_eq_true, decide_eq_true_iff];constructor
 · intro h;apply List.ext_getElem (by omega)
   intro i hi hj;have := h i (by rw [List.mem_range]; omega)
   simpa [List.getD, List.getElem?_eq_getElem hi, List.getElem?_eq_getElem hj] using this
 · intro h i _;rw [h];simp
theorem eqA4 (xs ys : List UInt8) (h1 : xs.length = 4) (h2 : ys.length = 4) (w : World) : (Op.equalIn 10000 234 (.agg (bys xs).toArray) (.agg (bys ys).toArray)).run Tryz.prog w = .ok (decide (xs = ys)) w := by
 obtain ⟨i0, hi0, hz0, hz1, hz2⟩ := info_parts infou8;have hc : Tryz.prog.cellsOf 5 = 1 := by kernel_rfl
 rw [run_equalIn_array w 9999 (n := 4) (e := 5) (i := i0) _ _ Tryz.underlying234 hi0, hc, eqItems_u8 _ _ _ _ (fun i hi => by rw [List.mem_range] at hi; omega), all_eq xs ys 4 h1 h2]
theorem eqA2 (xs ys : List UInt8) (h1 : xs.length = 2) (h2 : ys.length = 2) (w : World) : (Op.equalIn 10000 110 (.agg (bys xs).toArray) (.agg (bys ys).toArray)).run Tryz.prog w = .ok (decide (xs = ys)) w := by
 obtain ⟨i0, hi0, hz0, hz1, hz2⟩ := info_parts infou8;have hc : Tryz.prog.cellsOf 5 = 1 := by kernel_rfl
 rw [run_equalIn_array w 9999 (n := 2) (e := 5) (i := i0) _ _ Tryz.underlying110 hi0, hc, eqItems_u8 _ _ _ _ (fun i hi => by rw [List.mem_range] at hi; omega), all_eq xs ys 2 h1 h2]
theorem eqA6 (xs ys : List UInt8) (h1 : xs.length = 6) (h2 : ys.length = 6) (w : World) : (Op.equalIn 10000 85 (.agg (bys xs).toArray) (.agg (bys ys).toArray)).run Tryz.prog w = .ok (decide (xs = ys)) w := by
 obtain ⟨i0, hi0, hz0, hz1, hz2⟩ := info_parts infou8;have hc : Tryz.prog.cellsOf 5 = 1 := by kernel_rfl
 rw [run_equalIn_array w 9999 (n := 6) (e := 5) (i := i0) _ _ Tryz.underlying85 hi0, hc, eqItems_u8 _ _ _ _ (fun i hi => by rw [List.mem_range] at hi; omega), all_eq xs ys 6 h1 h2]
theorem four_bytes {l : List UInt8} (h : l.length = 4) : ∃ a b c d, l = [a, b, c, d] := by
 match l, h with
 | [a, b, c, d], _ => exact ⟨a, b, c, d, rfl⟩
theorem isSum_any (A1 A2 : Option Addr) (n c1 c2 : Nat) (s l : List UInt8) (w : World) (h1 : In w A1 4 s) (h2 : In w A2 n l) (hl : LaidC w) :
 Calls Tryz.prog 85 #[.slice A1 4 c1, .slice A2 n c2] w fun e w' => e = .returned (.bool (decide (s = leN 4 (crc32 l)))) ∧ Below w.heap.size w w' := by
 obtain ⟨W, hW⟩ : ∃ W, w.heap.size = W := ⟨_, rfl⟩;obtain ⟨w1, hw1⟩ : ∃ w1, (w.alloc (.cells #[.int .u8 0, .int .u8 0, .int .u8 0, .int .u8 0] 234)).alloc (.cells #[.int .u8 0, .int .u8 0, .int .u8 0, .int .u8 0] 234) = w1 := ⟨_, rfl⟩;have hb1 : Below w.heap.size w w1 := by rw [← hw1]; exact ((Below.refl _ _).alloc (Nat.le_refl _) _).alloc (by simp) _
 have hx1 : Blk w1 W 234 #[.int .u8 0, .int .u8 0, .int .u8 0, .int .u8 0] := by rw [← hw1, ← hW]; exact (Blk.new _ _ _).alloc _
 have hy1 : Blk w1 (W + 1) 234 #[.int .u8 0, .int .u8 0, .int .u8 0, .int .u8 0] := by rw [← hw1, ← hW]; exact Blk.new_at (by simp)
 obtain ⟨w2, hrun, hx2, hf2⟩ := copy_arr (n := 4) (dc := 4) (c := c1) hx1 rfl (h1.below hb1) (Nat.le_refl 4) (by decide)
 have hl4 := h1.len;rw [List.take_of_length_le (by omega)] at hx2
 have hy2 := hy1.fr hf2 (by omega)
 have hF2 : Fr (fun _ => False) w w2 := (Fr.of_below hb1).trans' hf2 (fun i hi e => by have e : i = W := e; omega)
 have HB2 := Lib.hid (hF2.below (Nat.le_refl _) (fun _ h => h.elim))
 have HS := Lib.hid (fun W (hb : Below w2.heap.size w2 W) => fsum_any A2 n c2 l W ((h2.fr hF2 (fun _ _ _ h => h)).below hb) ((hl.below HB2.out).below hb))
 have HX2 := Lib.hid hx2;have HY2 := Lib.hid hy2;obtain ⟨a, b, c, d, rfl⟩ := four_bytes hl4;have hk := leN_length 4 (crc32 l);obtain ⟨k, hkk⟩ : ∃ k, leN 4 (crc32 l) = k := ⟨_, rfl⟩;rw [hkk] at HS hk ⊢;obtain ⟨a', b', c', d', rfl⟩ := four_bytes hk;have HE := Lib.hid (fun w => show (Op.equalIn 10000 234 (.agg #[.int .u8 (a.toNat : Int), .int .u8 (b.toNat : Int), .int .u8 (c.toNat : Int), .int .u8 (d.toNat : Int)]) (.agg #[.int .u8 (a'.toNat : Int), .int .u8 (b'.toNat : Int), .int .u8 (c'.toNat : Int), .int .u8 (d'.toNat : Int)])).run Tryz.prog w = .ok (decide ([a, b, c, d] = [a', b', c', d'])) w from eqA4 [a, b, c, d] [a', b', c', d'] rfl rfl w)
 obtain ⟨r, hr⟩ : ∃ r, decide ([a, b, c, d] = [a', b', c', d']) = r := ⟨_, rfl⟩;rw [hr] at HE ⊢;have HW := Lib.hid (And.intro hW hw1);have HRn := Lib.hid hrun;clear hb1 hx1 hy1 h1 h2 hl hl4 hF2 hf2 hx2 hy2 hk hkk hr hW hw1 hrun;go_enter Tryz.func85, Tryz.ntmps85;go_upto_region 2 with (fail);rw [HW.out.2, HW.out.1];have hrun := HRn.out;go_wp2_with fail;clear hrun HRn;go_region_with (first | (go_at_call 29; refine (HS.out _ (Below.refl _ _).drew).mono ?_; rintro e w3 ⟨R, rfl, ho, hb3⟩; have HX3 := Lib.hid (HX2.out.drew.below hb3); obtain ⟨w4, hrun, hy4, hf4⟩ := copy_arr (n := 4) (dc := 4) (c := 4) (HY2.out.drew.below hb3) rfl (in_own ho (by decide)) (Nat.le_refl 4) (by decide); have HY4 := Lib.hid hy4; have HF4 := Lib.hid hf4; have HB3 := Lib.hid hb3; clear hy4 hf4 hb3 ho))
 have hx := HX3.out.fr HF4.out (by omega)
 have hy := HY4.out;have x0 := hx.cell 0;have x1 := hx.cell 1;have x2 := hx.cell 2;have x3 := hx.cell 3;have y0 := hy.cell 0;have y1 := hy.cell 1;have y2 := hy.cell 2;have y3 := hy.cell 3;simp [bys] at x0 x1 x2 x3 y0 y1 y2 y3;have he := HE.out;clear hx hy hrun;go_wp2_with fail;go_ret;exact ⟨rfl, HB2.out.trans (((Below.refl _ _).drew.trans HB3.out).mono HB2.out.size |>.trans (HF4.out.below (by have hs : w2.heap.size ≤ w3.heap.size := HB3.out.size; have := HB2.out.size; have := HW.out.1; omega) (fun k hk => by have hk : k = W + 1 := hk; have := HW.out.1; omega)))⟩
def padZ (n : Nat) : Nat := (119 - n % 64) % 64
def padL (n : Nat) : Nat → List UInt8
 | 0 => 128 :: List.replicate (padZ n + 8) 0
 | k + 1 => (padL n k).set (1 + padZ n + k) (UInt8.ofNat (n * 8 / 2 ^ (56 - 8 * k)))
theorem padL_len (n k : Nat) : (padL n k).length = padZ n + 9 := by
 induction k with
 | zero => simp [padL]
 | succ k ih => rw [padL, List.length_set, ih]
theorem padZ_lt (n : Nat) : padZ n < 64 := by unfold padZ; omega
theorem Pad_sha (n : Nat) (w : World) (hn : n ≤ 1152921504606846976) :
 Calls Tryz.prog 295 #[.int .i64 n] w fun e w' => e = .returned (.slice (some ⟨w.heap.size, 0, none⟩) (padZ n + 9) (padZ n + 9)) ∧ Blk w' w.heap.size 5 (bys (padL n 8)).toArray ∧ Below w.heap.size w w' := by
 obtain ⟨i0, hi0, hz0, hz1, hz2⟩ := info_parts infou8;have h0 : ¬ (n : Int) < 0 := by omega
 have hz : (119 - (n : Int) % 64) % 64 = (padZ n : Int) := by unfold padZ; omega
 have hz64 := padZ_lt n;have HP0 := Lib.hid (show padL n 0 = 128 :: List.replicate (padZ n + 8) 0 from rfl)
 have HPS := Lib.hid (fun k => show padL n (k + 1) = (padL n k).set (1 + padZ n + k) (UInt8.ofNat (n * 8 / 2 ^ (56 - 8 * k))) from rfl)
 have HPL := Lib.hid (padL_len n);obtain ⟨z, hzz⟩ : ∃ z, padZ n = z := ⟨_, rfl⟩;rw [hzz] at hz hz64 HP0 HPS HPL ⊢;clear hzz;obtain ⟨m, hm⟩ : ∃ m, z + 9 = m := ⟨_, rfl⟩;have h9 : (1 + (z : Int) + 8) = (m : Int) := by omega
 have hm72 : m ≤ 72 := by omega
 have hmz : z + 8 < m := by omega
 rw [hm] at HPL ⊢;have HM := Lib.hid hm;obtain ⟨R, hR⟩ : ∃ R, w.heap.size = R := ⟨_, rfl⟩;have HR := Lib.hid hR;clear hm hR;go_enter Tryz.func295, Tryz.ntmps295;go_upto_region 5 with (at_make; refine wpList_make_full w rfl (.tmp 14) (.tmp 14) 22 rfl w.heap.size 5 i0 _ 1 Tryz.underlying22 hi0 hz0 hz1 .i64 .i64 m m m rfl rfl rfl rfl (by rw [hz2]; omega) (by unfold maxLen; omega) (Nat.le_refl _) ?_; intro w1 hown1 hg1)
 rw [made_zeros'] at hown1;have hb1 : Below w.heap.size w w1 := (Below.refl _ w).grown hg1 (Nat.le_refl _) (fun g hg => by cases hg)
 have hk1 := (blk_of_own hown1).1;rw [HR.out] at hk1 ⊢;have HB1 := Lib.hid hb1;have f0 := hk1.frozen 0;have c0 := hk1.cell 0;rw [show ((bys (List.replicate m 0)).toArray[0]? : Option Value) = some (.int .u8 0) by rw [bys_at (i := 0) (l := List.replicate m 0) (by simp; omega), List.getD, List.getElem?_replicate, if_pos (by omega)]; rfl] at c0
 have HK1 := Lib.hid hk1;clear hown1 hg1 hb1 hk1;go_wp2_with fail;have H0 : Hid (Blk (w1.setCell ⟨R, 0, none⟩ (.int .u8 128)) R 5 (bys (padL n 0)).toArray ∧ Below w.heap.size w (w1.setCell ⟨R, 0, none⟩ (.int .u8 128))) := by
  refine ⟨?_, HB1.out.setCell (by have := HR.out; show _ ≤ R; omega) _⟩
  have := HK1.out.set_ 0 (.int .u8 128);have e : (bys (List.replicate m 0)).toArray.setIfInBounds 0 (.int .u8 128) = (bys (padL n 0)).toArray := by
   rw [HP0.out, ← HM.out, show z + 9 = (z + 8) + 1 from rfl, List.replicate_succ]
   simp [bys]
  rw [e] at this;exact this
 clear c0 f0 HB1 HK1
 go_loopw [18] (fun s18 wr => ∃ k : Nat, s18 = .int .i64 (k : Int) ∧ k ≤ 8 ∧ Hid (Blk wr R 5 (bys (padL n k)).toArray ∧ Below w.heap.size w wr)) (fun s18 _ => 8 - (intOf s18).toNat)
 case atStart => exact ⟨0, rfl, by omega, H0⟩
 case round =>
  clear H0;obtain ⟨k, rfl, hk, H⟩ := hrel;by_cases hlt : k < 8
  · have hlt' : (k : Int) < 8 := by omega
    have hd : (56 - 8 * (k : Int)).toNat = 56 - 8 * k := by omega
    have hi : (1 + (z : Int) + (k : Int)).toNat = 1 + z + k := by omega
    have hb1 : 1 + (z : Int) + (k : Int) < (m : Int) := by omega
    have hb0 : 0 ≤ 1 + (z : Int) + (k : Int) := by omega
    have c0 := (H.out.1.cell (1 + z + k)).trans (bys_at (by rw [HPL.out]; omega))
    have f0 := H.out.1.frozen (1 + z + k);go_wp2_with fail
    go_roundw
    case rel =>
     refine ⟨k + 1, by go_num, by omega, ?_, H.out.2.setCell (by have := HR.out; show _ ≤ R; omega) _⟩
     have := H.out.1.set_ (1 + z + k) (.int .u8 ((UInt8.ofNat (n * 8 / 2 ^ (56 - 8 * k))).toNat : Int));have e : (bys (padL n k)).toArray.setIfInBounds (1 + z + k) (.int .u8 ((UInt8.ofNat (n * 8 / 2 ^ (56 - 8 * k))).toNat : Int)) = (bys (padL n (k + 1))).toArray := by
      rw [HPS.out]; simp [bys, List.map_set]
     rw [e] at this;have e2 : ((UInt8.ofNat (n * 8 / 2 ^ (56 - 8 * k))).toNat : Int) = (n : Int) * 8 / 2 ^ (56 - 8 * k) % 256 := by rw [UInt8.toNat_ofNat']; simp
     rw [e2] at this;exact this
    case measure => simp [intOf]; omega
  · obtain rfl : k = 8 := by omega
    have hlt' : ¬ ((8 : Nat) : Int) < 8 := by decide
    go_wp2_with fail;go_ret;exact ⟨by rw [HR.out]; rfl, by rw [HR.out]; exact H.out.1, H.out.2⟩
theorem run_load_at {w : World} {g off : Nat} {ty : TypeId} {cs : Array Value} {d : TypeDesc} (hc : ∀ j v, cs.toList[j]? = some v → w.cell? ⟨g, off + j, none⟩ = some v)
 (hu : Tryz.prog.underlying ty = some d) (hd : (match d with | .struct _ | .array _ _ => true | _ => false) = true) (hi : (Tryz.prog.info? ty).map (·.size) = some cs.size) :
 (loadVar ty ⟨g, off, none⟩).run Tryz.prog w = .ok (.agg cs) w := by
 have hl : (loadCells ⟨g, off, none⟩ cs.toList.length).run Tryz.prog w = .ok cs.toList.toArray w :=
  run_loadCells_list (P := Tryz.prog) w ⟨g, off, none⟩ cs.toList (fun j v hv => by rw [add_none]; exact hc j v hv)
 cases hq : Tryz.prog.info? ty with
 | none => simp [hq] at hi
 | some i =>
  have hs : i.size = cs.size := by simpa [hq] using hi
  have hagg : (isAgg ty).run Tryz.prog w = .ok true w := by
   unfold isAgg;rw [Sem.run_bind, run_underlying hu w];cases d <;> simp_all
  simp only [Array.length_toList, Array.toArray_toList] at hl;simp [loadVar, Sem.run_bind, hagg, sizeOf, typeInfo, hq, hs, hl]
theorem step_load_at {ops : Array Oper} {o : Oper} {a : Act} {w : World} {K : Act → World → Prop} {Q : Exit → Act → World → Prop} {E : Prop} (hgd : o.guard = none) (ty : TypeId) (x : Operand) (ho : o.op = .load ty x)
 (g off : Nat) (hx : a.eval x = .pointer (some ⟨g, off, none⟩)) (cs : Array Value) (hrun : (loadVar ty ⟨g, off, none⟩).run Tryz.prog w = .ok (.agg cs) w)
 (h : K (a.put o.dst (.agg cs)) w) {D : Decidable (Region.wanted o (yielded ops a.tmps) = true)} : @ite _ (Region.wanted o (yielded ops a.tmps) = true) D (Oper.wp Tryz.prog o a w K Q) E := by
 have hw : Region.wanted o (yielded ops a.tmps) = true := by simp [Region.wanted, hgd]
 rw [if_pos hw];unfold Oper.wp execOp;simp only [ho, hx, Instr.loadAt, Instr.sureAddr, Sem.run_bind, Sem.run_pure, Result.andThen_ok, hrun];exact h
theorem LaidR.fr {R : Nat → Int} {w w' : World} {S : Nat → Prop} (h : LaidR R w) (hf : Fr S w w') (hn : ¬ S 19) : LaidR R w' :=
 ⟨Nat.lt_of_lt_of_le h.1 hf.size, fun i hi => (hf.cell (p := ⟨19, i, none⟩) h.1 hn).trans (h.2 i hi)⟩
structure ShS where
 s : List Nat
 d : List UInt8
 n : Nat
def shB (R : Nat → Int) (x : ShS) (c : UInt8) : ShS := ⟨if x.n % 64 = 63 then stepN R x.s (x.d.set (x.n % 64) c) else x.s, x.d.set (x.n % 64) c, x.n + 1⟩
def shW (R : Nat → Int) (x : ShS) (l : List UInt8) : ShS := l.foldl (shB R) x
theorem shW_snoc (R : Nat → Int) (x : ShS) (l : List UInt8) (c : UInt8) : shW R x (l ++ [c]) = shB R (shW R x l) c := by simp [shW]
theorem shW_n (R : Nat → Int) (x : ShS) (l : List UInt8) : (shW R x l).n = x.n + l.length := by
 induction l generalizing x with
 | nil => rfl
 | cons c t ih => show (shW R (shB R x c) t).n = _; rw [ih]; show x.n + 1 + t.length = _; simp; omega
def ShX (h : Nat) (x : ShS) (w : World) : Prop := Sh h x.s x.d x.n w
theorem Sh.cs {h : Nat} {s : List Nat} {d : List UInt8} {n : Nat} {w : World} (k : Sh h s d n w) : (∀ j, j < 8 → w.cell? ⟨h, j, none⟩ = some (.int .u32 (s.getD j 0 : Nat))) ∧ (∀ j, j < 64 → w.cell? ⟨h, 8 + j, none⟩ = some (.int .u8 ((d.getD j 0).toNat : Int))) ∧ w.cell? ⟨h, 72, none⟩ = some (.int .i64 n) := by
 have hs := k.s;have hl := k.l;refine ⟨fun j hj => ?_, fun j hj => ?_, ?_⟩
 · rw [k.b.cell j];simp [u32s, bys, List.getElem?_append, hs, hl, hj, List.getD]
 · rw [k.b.cell (8 + j)];simp [u32s, bys, List.getElem?_append, hs, hl, hj, List.getD]
 · rw [k.b.cell 72];simp [u32s, bys, List.getElem?_append, hs, hl]
theorem Sh.setD {h : Nat} {s : List Nat} {d : List UInt8} {n : Nat} {w : World} (k : Sh h s d n w) {j : Nat} (hj : j < 64) (z : UInt8) : Sh h s (d.set j z) n (w.setCell ⟨h, 8 + j, none⟩ (.int .u8 (z.toNat : Int))) := by
 have hs := k.s;have hl := k.l;refine ⟨?_, hs, by rw [List.length_set]; exact hl⟩
 have := k.b.set_ (8 + j) (.int .u8 (z.toNat : Int));have e : (u32s s ++ bys d ++ [Value.int .i64 (n : Int)]).toArray.setIfInBounds (8 + j) (.int .u8 (z.toNat : Int)) = (u32s s ++ bys (d.set j z) ++ [Value.int .i64 (n : Int)]).toArray := by
  rw [List.setIfInBounds_toArray, List.append_assoc, List.append_assoc, List.set_append_right _ _ (by simp [u32s, hs]), List.set_append_left _ _ (by simp [u32s, hs, bys, hl]; omega)]
  simp [u32s, hs, bys, List.map_set]
 rw [e] at this;exact this
theorem Sh.setN {h : Nat} {s : List Nat} {d : List UInt8} {n : Nat} {w : World} (k : Sh h s d n w) (m : Nat) : Sh h s d m (w.setCell ⟨h, 72, none⟩ (.int .i64 (m : Int))) := by
 have hs := k.s;have hl := k.l;refine ⟨?_, hs, hl⟩;have := k.b.set_ 72 (.int .i64 (m : Int));have e : (u32s s ++ bys d ++ [Value.int .i64 (n : Int)]).toArray.setIfInBounds 72 (.int .i64 (m : Int)) = (u32s s ++ bys d ++ [Value.int .i64 (m : Int)]).toArray := by
  rw [List.setIfInBounds_toArray, List.set_append_right _ _ (by simp [u32s, hs, bys, hl])]
  simp [u32s, hs, bys, hl]
 rw [e] at this;exact this
theorem Sh.setS {h : Nat} {s : List Nat} {d : List UInt8} {n : Nat} {w : World} (k : Sh h s d n w) (a b c e f g i j : Nat) :
 Sh h [a, b, c, e, f, g, i, j] d n ((((((((w.setCell ⟨h, 0, none⟩ (.int .u32 (a : Int))).setCell ⟨h, 1, none⟩ (.int .u32 (b : Int))).setCell ⟨h, 2, none⟩ (.int .u32 (c : Int))).setCell ⟨h, 3, none⟩ (.int .u32 (e : Int))).setCell ⟨h, 4, none⟩ (.int .u32 (f : Int))).setCell ⟨h, 5, none⟩ (.int .u32 (g : Int))).setCell ⟨h, 6, none⟩ (.int .u32 (i : Int))).setCell ⟨h, 7, none⟩ (.int .u32 (j : Int))) := by
 have hl := k.l;refine ⟨?_, rfl, hl⟩;have := (((((((k.b.set_ 0 (.int .u32 (a : Int))).set_ 1 (.int .u32 (b : Int))).set_ 2 (.int .u32 (c : Int))).set_ 3 (.int .u32 (e : Int))).set_ 4 (.int .u32 (f : Int))).set_ 5 (.int .u32 (g : Int))).set_ 6 (.int .u32 (i : Int))).set_ 7 (.int .u32 (j : Int));obtain ⟨s0, s1, s2, s3, s4, s5, s6, s7, rfl⟩ := eight k.s;simpa [u32s] using this
end Go.Proofs.YtcjehjdehdoaeaaGreatDoor
