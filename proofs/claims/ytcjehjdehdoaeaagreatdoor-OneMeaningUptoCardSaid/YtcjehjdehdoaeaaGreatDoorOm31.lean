/-
  Laws on the way to the claim (OsC OrV OrS). Conditions: those that each theorem states.
-/
import Derived.Test.YtcjehjdehdoaeaaGreatDoorOm30
import Derived.Test.YtcjehjdehdoaeaaGreatDoorOm26
import Derived.Test.YtcjehjdehdoaeaaGreatDoorOm05
set_option linter.unusedVariables false
set_option linter.unusedSimpArgs false
set_option maxRecDepth 1000000
set_option maxHeartbeats 16000000
namespace Go.Proofs.YtcjehjdehdoaeaaGreatDoor
open Go.RowKit
def UkPost (B O : Nat) (R : RowR) (w : World) (e : Ending) (w' : World) : Prop :=
 Below B w w' ∧ e = .returned (.tuple #[.int .i64 R.n, .int .i64 R.e]) ∧ (R.e = 0 → ∃ A' c', Ou B O A' c' R.out w')
theorem unpack_any (B O dict : Nat) (A : Option Addr) (m c : Nat) (l : List UInt8) (packed size : Int) (w : World) (ho : Ou B O none 0 [] w) (hO : B ≤ O) (hBw : B ≤ w.heap.size)
 (hI : In w A m l) (hc : m ≤ c) (hA : ∀ ad, A = some ad → ad.block < B) (hl : Laid w) (hM : LaidM w) (hR : 16 < B) (hMB : 17 < B) (hm : m ≤ 1048576) (hd1 : 1 ≤ dict) (hd2 : dict ≤ 4294967295) (hp : -1 ≤ packed) (hs : -1 ≤ size) :
 Calls Tryz.prog 142 #[.slice A m c, .int .i64 dict, .int .i64 packed, .int .i64 size, .func (.func 143) #[] #[.pointer (some ⟨O, 0, none⟩)]] w (UkPost B O (rowF l dict packed size) w) := by
 obtain ⟨RR, hRR⟩ : ∃ z, rowF l dict packed size = z := ⟨_, rfl⟩;rw [hRR];have HRR := Lib.hid hRR;clear hRR;obtain ⟨rn, re, ro⟩ := RR;obtain ⟨F, hF⟩ : ∃ z, w.heap.size = z := ⟨_, rfl⟩;obtain ⟨w1, hw1⟩ : ∃ z, w.alloc (.cells #[.func (.func 143) #[] #[.pointer (some ⟨O, 0, none⟩)]] 293) = z := ⟨_, rfl⟩;have hb1 : Below w.heap.size w w1 := by rw [← hw1]; exact (Below.refl _ _).alloc (Nat.le_refl _) _
 have hF1 : Blk w1 F 293 #[.func (.func 143) #[] #[.pointer (some ⟨O, 0, none⟩)]] := by rw [← hw1]; exact Blk.new_at hF.symm
 have HF1 := Lib.hid hF1;have HB1 := Lib.hid hb1;have HW1 := Lib.hid hw1;have HX := Lib.hid (And.intro ho (And.intro hO (And.intro hBw (And.intro hI (And.intro hc (And.intro hA (And.intro hl (And.intro hM (And.intro hR (And.intro hMB (And.intro hm hF)))))))))));have q1 : ¬ packed < -1 := by omega
 have q2 : ¬ size < -1 := by omega
 clear hF1 hb1 hw1 ho hO hBw hI hc hA hl hM hR hMB hm hp hs hF;go_enter Tryz.func142, Tryz.ntmps142;go_wp2_with fail;rw [HW1.out];refine (DNew_any 0 0 0 dict w1 (by omega) (by omega) hd1 hd2).mono ?_
 rintro e w2 ⟨x, rfl, hz, hb2, hxB, hxr, hxs, hxa⟩;have HZ := Lib.hid (And.intro hz (And.intro hb2 (And.intro hxB (And.intro hxr (And.intro hxs hxa)))));clear hz hb2 hxB hxr hxs hxa hd1 hd2;obtain ⟨Dp, hDp⟩ : ∃ z, w2.heap.size = z := ⟨_, rfl⟩;obtain ⟨w4, hw4⟩ : ∃ z, (w2.alloc (.cells #[.pointer (some ⟨x.d, 0, none⟩)] 326)).alloc (.cells #[.int .i64 0, .int .i64 0, .int .i64 0] 24) = z := ⟨_, rfl⟩;have HL : Hid (Lx B O F Dp (Dp + 1) dict none 0 x .start w4 ∧ Below w.heap.size w w4) := by
  obtain ⟨ho, hO, hBw, hI, hc, hA, hl, hM, hR, hMB, hm, hF⟩ := HX.out;obtain ⟨hz, hb2, hxB, hxr, hxs, hxa⟩ := HZ.out;have hb1 := HB1.out;have hF1 := HF1.out;have s1 : w1.heap.size = F + 1 := by rw [← HW1.out, ← hF]; simp
  have hb4 : Below w2.heap.size w2 w4 := by rw [← hw4]; exact ((Below.refl _ _).alloc (Nat.le_refl _) _).alloc (by simp) _
  have s2 := hb2.size;have s4 := hb4.size;have h14 : Below w1.heap.size w1 w4 := hb2.trans (hb4.mono s2);have h04 : Below w.heap.size w w4 := hb1.trans (h14.mono hb1.size);refine Lib.hid ⟨⟨⟨ho.b.below h04, own_below ho.r h04⟩, fun g hg => by rw [hxr] at hg; simp at hg, hF1.below h14, ?_, ?_, hz.below hb4, hxs, hxa, ⟨by omega, by omega⟩, ⟨hO, by omega, by omega, by omega⟩, ⟨by decide, by decide⟩, Nat.zero_le _⟩, h04⟩
  · rw [← hw4]; exact (Blk.new_at hDp.symm).alloc _
  · rw [← hw4]; exact Blk.new_at (by simp; omega)
 have HW4 := Lib.hid hw4;have HDp := Lib.hid hDp;clear hw4 hDp;go_upto_region 5 with (fail);rw [HW4.out, HDp.out];have HRD : Hid (Calls Tryz.prog 172 #[.slice A m c, .int .i64 packed, .int .i64 size, .func (.func 173) #[] #[.pointer (some ⟨Dp, 0, none⟩), .pointer (some ⟨Dp + 1, 0, none⟩), .pointer (some ⟨F, 0, none⟩)]] w4 (RdPost B O F Dp (Dp + 1) dict ⟨rn, re, ro⟩ w4)) := by
  rw [← HRR.out];obtain ⟨ho, hO, hBw, hI, hc, hA, hl, hM, hR, hMB, hm, hF⟩ := HX.out;exact Lib.hid (read_any B O F Dp (Dp + 1) dict none 0 x A m c l packed size w4 HL.out.1 (hI.below HL.out.2) hc hA (hl.low (HL.out.2.mono hBw) hR) (hM.low (HL.out.2.mono hBw) hMB) hR hMB hm)
 rw [HX.out.2.2.2.2.2.2.2.2.2.2.2];go_wp2_with fail;refine HRD.out.mono ?_;rintro e w5 ⟨hb5, rfl, hx5⟩;have H5 := Lib.hid (And.intro hb5 hx5);clear hb5 hx5;simp only [] at H5 ⊢;go_wp2_with fail;refine bodyPost_ret (v := .tuple #[.int .i64 rn, .int .i64 re]) (by simp [results, Tryz.results142, go_sem]) rfl ?_
 refine ⟨(HL.out.2.mono HX.out.2.2.1).trans H5.out.1, rfl, fun h => ?_⟩
 obtain ⟨Ao, co, x, st, hx, hst⟩ := H5.out.2 h;refine ⟨Ao, co, ?_⟩;show Ou B O Ao co ro w5;rw [← show st.out = ro from hst]
 exact hx.ou
def DePost (R : RowR) (w : World) (e : Ending) (w' : World) : Prop :=
 Below w.heap.size w w' ∧ if R.e = 0 then ∃ A' c', e = .returned (.tuple #[.slice A' R.out.length c', .int .i64 R.n, .int .i64 0]) ∧ w'.ownsRow w.heap.size 5 1 (.slice A' R.out.length c') R.out.length (bys R.out)
  else e = .returned (.tuple #[.slice none 0 0, .int .i64 R.n, .int .i64 R.e])
theorem Decode_any (dict : Nat) (A : Option Addr) (m c : Nat) (l : List UInt8) (packed size : Int) (w : World)
 (hI : In w A m l) (hc : m ≤ c) (hA : ∀ ad, A = some ad → ad.block < w.heap.size) (hl : Laid w) (hM : LaidM w) (hm : m ≤ 1048576) (hd1 : 1 ≤ dict) (hd2 : dict ≤ 4294967295) (hp : -1 ≤ packed) (hs : -1 ≤ size) :
 Calls Tryz.prog 114 #[.slice A m c, .int .i64 dict, .int .i64 packed, .int .i64 size] w (DePost (rowF l dict packed size) w) := by
 obtain ⟨RR, hRR⟩ : ∃ z, rowF l dict packed size = z := ⟨_, rfl⟩;rw [hRR];obtain ⟨rn, re, ro⟩ := RR;obtain ⟨F, hF⟩ : ∃ z, w.heap.size = z := ⟨_, rfl⟩;obtain ⟨w1, hw1⟩ : ∃ z, w.alloc (.cells #[.slice none 0 0] 22) = z := ⟨_, rfl⟩;have hb1 : Below w.heap.size w w1 := by rw [← hw1]; exact (Below.refl _ _).alloc (Nat.le_refl _) _
 have HU : Hid (Calls Tryz.prog 142 #[.slice A m c, .int .i64 dict, .int .i64 packed, .int .i64 size, .func (.func 143) #[] #[.pointer (some ⟨F, 0, none⟩)]] w1 (UkPost F F ⟨rn, re, ro⟩ w1)) := by
  rw [← hRR];have s1 := hb1.size;refine Lib.hid (unpack_any F F dict A m c l packed size w1 ⟨by rw [← hw1]; exact Blk.new_at hF.symm, ?_⟩ (Nat.le_refl _) (by omega) (hI.below hb1) hc (fun ad e => by have := hA ad e; omega) (hl.low hb1 hl.1) (hM.low hb1 hM.1) (by have := hl.1; omega) (by have := hM.1; omega) hm hd1 hd2 hp hs)
  exact World.ownsRow_nil _ _ _ _
 have HB := Lib.hid (And.intro hb1 hF);have HW := Lib.hid hw1;clear hI hc hA hl hM hm hd1 hd2 hp hs hRR hb1 hw1;go_enter Tryz.func114, Tryz.ntmps114;go_wp2_with fail;rw [HW.out];refine HU.out.mono ?_;rintro e w2 ⟨hb2, rfl, hx⟩;simp only [] at hx ⊢;have HB2 := Lib.hid hb2;have HX := Lib.hid hx;clear hx hb2;by_cases he : re = 0
 · subst he;obtain ⟨A', c', hou⟩ := HX.out rfl;have c0 := hou.b.one;have HOU := Lib.hid hou;clear hou;obtain ⟨n, hn⟩ : ∃ z, ro.length = z := ⟨_, rfl⟩;have HN := Lib.hid hn;rw [hn] at c0;clear hn;go_wp2_with fail;refine bodyPost_ret (v := .tuple #[.slice A' n c', .int .i64 rn, .int .i64 0]) (by simp [results, Tryz.results114, go_sem]) rfl ?_
   refine ⟨HB.out.1.trans (by rw [HB.out.2]; exact HB2.out), ?_⟩
   rw [if_pos rfl, HB.out.2, ← HN.out];exact ⟨A', c', rfl, HOU.out.r⟩
 · have hne : ((re : Int) != 0) = true := by rw [bne_iff_ne]; omega
   have HE := Lib.hid he;clear he;go_wp2_with fail;refine bodyPost_ret (v := .tuple #[.slice none 0 0, .int .i64 rn, .int .i64 re]) (by simp [results, Tryz.results114, go_sem]) rfl ?_
   refine ⟨HB.out.1.trans (by rw [HB.out.2]; exact HB2.out), ?_⟩
   rw [if_neg HE.out]
theorem viGo_bd : ∀ (l : List UInt8) (i v : Nat), i ≤ 8 → v < 2 ^ (7 * i) → (viGo l i v).v < 9223372036854775808 := by
 intro l;induction l with
 | nil => intro i v _ _; simp [viGo]
 | cons c t ih =>
  intro i v hi hv;have h8 : 2 ^ (7 * (i + 1)) ≤ 2 ^ 63 := Nat.pow_le_pow_right (by decide) (by omega)
  have h63 : (2 : Nat) ^ 63 = 9223372036854775808 := by decide
  unfold viGo;by_cases c0 : c.toNat < 128
  · rw [if_pos c0];split
    · decide
    · have := (vi_or hv c0 hi).1;show v + c.toNat * 2 ^ (7 * i) < _;omega
  · rw [if_neg c0];by_cases c1 : i = 8
    · rw [if_pos c1]; decide
    · rw [if_neg c1];exact ih _ _ (by omega) (vi_or hv (Nat.mod_lt _ (by decide)) hi).1
theorem viF_bd (l : List UInt8) : (viF l).v < 9223372036854775808 := viGo_bd l 0 0 (by decide) (by decide)
def FiPost (r : FR) (w : World) (e : Ending) (w' : World) : Prop :=
 ∃ A c, e = .returned (.tuple #[.agg #[.int .u64 r.id, .slice A r.ps.length c], .int .i64 r.n, .int .i64 r.e]) ∧ w'.ownsRow w.heap.size 5 1 (.slice A r.ps.length c) r.ps.length (bys r.ps) ∧ Below w.heap.size w w'
theorem fi_fin {r : FR} {w wz : World} {W : Nat} {A : Option Addr} {c : Nat} {a : Act} (hB : Blk wz W 116 #[.int .u64 r.id, .slice A r.ps.length c]) (hI : wz.ownsRow w.heap.size 5 1 (.slice A r.ps.length c) r.ps.length (bys r.ps)) (hb : Below w.heap.size w wz)
 (ht : a.tmps[2]? = some (.pointer (some ⟨W, 0, none⟩)) ∧ a.tmps[3]? = some (.int .i64 r.n) ∧ a.tmps[4]? = some (.int .i64 r.e)) (hd : a.defers = []) : bodyPost Tryz.prog Tryz.f167 (FiPost r w) .ret a wz := by
 have p0 := hB.cell 0;have p1 := hB.cell 1;simp at p0 p1;exact bodyPost_ret (v := .tuple #[.agg #[.int .u64 r.id, .slice A r.ps.length c], .int .i64 r.n, .int .i64 r.e]) (by simp [results, Tryz.results167, go_sem, ht.1, ht.2.1, ht.2.2, p0, p1]) hd ⟨A, c, rfl, hI, hb⟩
theorem fGet_any (A : Option Addr) (n c : Nat) (l : List UInt8) (w : World) (hI : In w A n l) (hc : n ≤ c) (hc63 : c ≤ 9223372036854775807) :
 Calls Tryz.prog 167 #[.slice A n c] w (FiPost (fiF l) w) := by
 have hn := hI.2.2;have hln := hI.len;obtain ⟨r, hr⟩ : ∃ r, fiF l = r := ⟨_, rfl⟩;rw [hr];unfold fiF at hr;rw [hln] at hr;obtain ⟨W, hW⟩ : ∃ W, w.heap.size = W := ⟨_, rfl⟩;obtain ⟨w1, hw1⟩ : ∃ w1, w.alloc (.cells #[.int .u64 0, .slice none 0 0] 116) = w1 := ⟨_, rfl⟩;have hb1 : Below w.heap.size w w1 := by rw [← hw1]; exact (Below.refl _ _).alloc (Nat.le_refl _) _
 have hk1 : Blk w1 W 116 #[.int .u64 0, .slice none 0 0] := by rw [← hw1]; exact Blk.new_at hW.symm
 have HI1 := Lib.hid (hI.below hb1);have HG := Lib.hid (vGet_any A n c l w1 HI1.out);have hv1 := viF_bd l;have ht1 := fun h => viF_take l 0 h
 obtain ⟨⟨v1, n1, e1⟩, hq1⟩ : ∃ q, viF l = q := ⟨_, rfl⟩;rw [hq1] at HG hr hv1 ht1;simp only [] at HG hr hv1 ht1;rw [hln] at ht1;have HW := Lib.hid (And.intro hw1 hW);have HR := Lib.hid hr;have HB1 := Lib.hid hb1;have HK1 := Lib.hid hk1;have HV1 := Lib.hid hv1;have HT1 := Lib.hid ht1;have HLN := Lib.hid hln;have g0 := hk1.two.1;have g1 := hk1.two.2;have f0 := hk1.frozen 0;have f1 := hk1.frozen 1;clear hI hln hr hW hw1 hb1 hk1 hv1 ht1 hq1
 go_enter Tryz.func167, Tryz.ntmps167;go_upto_region 1 with (fail);rw [HW.out.1, HW.out.2];go_wp2_with fail;refine HG.out.mono ?_;rintro e wx ⟨rfl, rfl⟩;by_cases he1 : e1 = 0
 · subst he1;have HR2 := Lib.hid (by have := HR.out; rw [if_neg (by decide)] at this; exact this)
   have ht := HT1.out rfl;have hn1 : n1 ≤ n := ht.2.1;have hn1' : (n1 : Int) ≤ (n : Int) := by omega
   have hnc : n1 ≤ c := by omega
   obtain ⟨A2, hA2⟩ : ∃ z, (if c = n1 then A else A.map (·.add n1)) = z := ⟨_, rfl⟩
   have hi2 := HI1.out.cut hn1 hc;rw [hA2] at hi2;have HI2 := Lib.hid hi2;have HG2 := Lib.hid (vGet_any A2 (n - n1) (c - n1) (l.drop n1) wx hi2);have hv2 := viF_bd (l.drop n1);have ht2 := fun h => viF_take (l.drop n1) 0 h
   rw [List.length_drop, HLN.out] at ht2;obtain ⟨⟨v2, n2, e2⟩, hq2⟩ : ∃ q, viF (l.drop n1) = q := ⟨_, rfl⟩;have HR3 := Lib.hid (by have := HR2.out; rw [hq2] at this; exact this)
   rw [hq2] at HG2 hv2 ht2;simp only [] at HR3 HG2 hv2 ht2;have HV2 := Lib.hid hv2;have HT2 := Lib.hid ht2;clear ht hi2 hq2 hv2 ht2 HR HR2 HG HT1;go_wp2_with fail;refine HG2.out.mono ?_;rintro e w2 ⟨rfl, rfl⟩;by_cases he2 : e2 = 0
   · subst he2;have HR4 := Lib.hid (by have := HR3.out; rw [if_neg (by decide)] at this; exact this)
     have ht := HT2.out rfl;have hn2 : n1 + n2 ≤ n := by omega
     have w1_ : IntKind.i64.wrap ((n1 : Int) + (n2 : Int)) = (n1 : Int) + (n2 : Int) := IntWalk.i64_in _ (by omega)
     have w2_ : IntKind.u64.wrap ((n : Int) - ((n1 : Int) + (n2 : Int))) = (n : Int) - ((n1 : Int) + (n2 : Int)) := by rw [IntKind.wrap_u64]; omega
     clear ht HR3 HG2 HT2;by_cases hlt : n - (n1 + n2) < v2
     · have HRr := Lib.hid (by have := HR4.out; rw [if_pos hlt] at this; exact this)
       have k1 : (n : Int) - ((n1 : Int) + (n2 : Int)) < (v2 : Int) := by omega
       have k2 : decide ((n : Int) - ((n1 : Int) + (n2 : Int)) < (v2 : Int)) = true := decide_eq_true k1;clear hlt HR4;go_wp2_with fail;have hb9 := (HK1.out.set_ 0 (.int .u64 0)).set_ 1 (.slice none 0 0);have hl9 := (HB1.out.setCell (p := ⟨W, 0, none⟩) (by have := HW.out.2; show _ ≤ W; omega) (.int .u64 0)).setCell (p := ⟨W, 1, none⟩) (by have := HW.out.2; show _ ≤ W; omega) (.slice none 0 0)
       have hr := HRr.out;subst hr;exact fi_fin (A := none) (c := 0) hb9 (World.ownsRow_nil _ _ _ _) hl9 ⟨rfl, rfl, rfl⟩ rfl
     · have HR5 := Lib.hid (by have := HR4.out; rw [if_neg hlt] at this; exact this)
       have k1 : ¬ (n : Int) - ((n1 : Int) + (n2 : Int)) < (v2 : Int) := by omega
       have k2 : decide ((n : Int) - ((n1 : Int) + (n2 : Int)) < (v2 : Int)) = false := decide_eq_false k1;have hle : n1 + n2 + v2 ≤ n := by omega
       have w3_ : IntKind.i64.wrap (v2 : Int) = (v2 : Int) := IntWalk.i64_in _ (by omega)
       have w4_ : IntKind.i64.wrap ((n1 : Int) + (n2 : Int) + (v2 : Int)) = (n1 : Int) + (n2 : Int) + (v2 : Int) := IntWalk.i64_in _ (by omega)
       obtain ⟨A3, hA3⟩ : ∃ z, (if c = n1 + n2 then A else A.map (·.add (n1 + n2))) = z := ⟨_, rfl⟩
       have hi3 := (HI1.out.cut (k := n1 + n2) (by omega) hc).take (k := v2) (by omega)
       rw [hA3] at hi3;have HI3 := Lib.hid hi3;have y1 : (0 : Int) ≤ (n1 : Int) + (n2 : Int) := by omega
       have y2 : (n1 : Int) + (n2 : Int) ≤ (n1 : Int) + (n2 : Int) + (v2 : Int) := by omega
       have y3 : (n1 : Int) + (n2 : Int) + (v2 : Int) ≤ (c : Int) := by omega
       have y4 : ((n1 : Int) + (n2 : Int)).toNat = n1 + n2 := by omega
       have y5 : ((n1 : Int) + (n2 : Int) + (v2 : Int)).toNat = n1 + n2 + v2 := by omega
       have y6 : n1 + n2 + v2 - (n1 + n2) = v2 := by omega
       have hl3 := hi3.len;have HL3 := Lib.hid hl3;clear hlt HR4 hi3 hl3;go_wp2_with (with_reducible refine wpList_dup rfl _ _ rfl rfl A3 v2 (c - (n1 + n2)) _ rfl HI3.out ?_);intro A4 c4 w4 hF;have HF := Lib.hid hF;have hb4 := hF.2;have hk4 := HK1.out.below hb4;have g0 := hk4.two.1;have g1 := hk4.two.2;have f0 := hk4.frozen 0;have f1 := hk4.frozen 1;have HK4 := Lib.hid hk4;have HB4 := Lib.hid (HB1.out.trans (hb4.mono HB1.out.size))
       clear hF hb4 hk4;go_wp2_with fail;have hb9 := (HK4.out.set_ 0 (.int .u64 (v1 : Int))).set_ 1 (.slice A4 v2 c4);have hl9 := (HB4.out.setCell (p := ⟨W, 0, none⟩) (by have := HW.out.2; show _ ≤ W; omega) (.int .u64 (v1 : Int))).setCell (p := ⟨W, 1, none⟩) (by have := HW.out.2; show _ ≤ W; omega) (.slice A4 v2 c4)
       have hr := HR5.out;subst hr;have hf9 : Fr (fun k => k = W) w4 ((w4.setCell ⟨W, 0, none⟩ (.int .u64 (v1 : Int))).setCell ⟨W, 1, none⟩ (.slice A4 v2 c4)) := Fr.set1 (Fr.set1 (Fr.refl _ _) 0 _) 1 _
       have hi9 := own_fr (own_mono HF.out.1 HB1.out.size) hf9 (fun g hg e => own_ne HF.out.1 HK4.out (by decide) (by rw [hg]; exact congrArg some e.symm))
       exact fi_fin (A := A4) (c := c4) (by rw [HL3.out]; exact hb9) (by rw [HL3.out]; exact hi9) hl9 ⟨rfl, by simp, rfl⟩ rfl
   · have HRr := Lib.hid (by have := HR3.out; rw [if_pos he2] at this; exact this)
     have q1 : ((e2 : Int) != 0) = true := by rw [bne_iff_ne]; omega
     have q2 : (e2 != 0) = true := by rw [bne_iff_ne]; exact he2
     have q3 : ((e2 : Int) == 0) = false := beq_eq_false_iff_ne.2 (by omega)
     have q4 : (e2 == 0) = false := beq_eq_false_iff_ne.2 he2;clear he2 HR3;go_wp2_with fail;have hb9 := (HK1.out.set_ 0 (.int .u64 0)).set_ 1 (.slice none 0 0);have hl9 := (HB1.out.setCell (p := ⟨W, 0, none⟩) (by have := HW.out.2; show _ ≤ W; omega) (.int .u64 0)).setCell (p := ⟨W, 1, none⟩) (by have := HW.out.2; show _ ≤ W; omega) (.slice none 0 0)
     have hr := HRr.out;subst hr;exact fi_fin (A := none) (c := 0) hb9 (World.ownsRow_nil _ _ _ _) hl9 ⟨rfl, rfl, rfl⟩ rfl
 · have HRr := Lib.hid (by have := HR.out; rw [if_pos he1] at this; exact this)
   have q1 : ((e1 : Int) != 0) = true := by rw [bne_iff_ne]; omega
   have q2 : (e1 != 0) = true := by rw [bne_iff_ne]; exact he1
   have q3 : ((e1 : Int) == 0) = false := beq_eq_false_iff_ne.2 (by omega)
   have q4 : (e1 == 0) = false := beq_eq_false_iff_ne.2 he1;clear he1 HR;go_wp2_with fail;have hb9 := (HK1.out.set_ 0 (.int .u64 0)).set_ 1 (.slice none 0 0);have hl9 := (HB1.out.setCell (p := ⟨W, 0, none⟩) (by have := HW.out.2; show _ ≤ W; omega) (.int .u64 0)).setCell (p := ⟨W, 1, none⟩) (by have := HW.out.2; show _ ≤ W; omega) (.slice none 0 0)
   have hr := HRr.out;subst hr;exact fi_fin (A := none) (c := 0) hb9 (World.ownsRow_nil _ _ _ _) hl9 ⟨rfl, rfl, rfl⟩ rfl
theorem six_bytes {l : List UInt8} (h : l.length = 6) : ∃ a b c d x y, l = [a, b, c, d, x, y] := by
 match l, h with
 | [a, b, c, d, x, y], _ => exact ⟨a, b, c, d, x, y, rfl⟩
theorem In.mid {w : World} {ab ao n lo hi : Nat} {l : List UInt8} (h : In w (some ⟨ab, ao, none⟩) n l) (h1 : lo ≤ hi) (h2 : hi ≤ n) : In w (some ⟨ab, ao + lo, none⟩) (hi - lo) ((l.drop lo).take (hi - lo)) := by
 have hl := h.len;refine ⟨⟨by rw [bys_length, List.length_take, List.length_drop]; omega, fun h0 => ⟨_, rfl, fun j u hu => ?_⟩⟩, fun h0 ad had => by injection had with had; rw [← had]; show ab < _; exact h.2.1 (by omega) ⟨ab, ao, none⟩ rfl, by have := h.2.2; omega⟩
 obtain ⟨ab', ao', he, hcell⟩ := h.1.cells_at (by omega)
 obtain ⟨rfl, rfl⟩ : ab' = ab ∧ ao' = ao := by injection he with he; injection he with e1 e2; exact ⟨e1.symm, e2.symm⟩
 have hj : j < hi - lo := by have := (List.getElem?_eq_some_iff.1 hu).1; rw [bys_length, List.length_take] at this; omega
 obtain ⟨z, hz⟩ : ∃ z, l[lo + j]? = some z := ⟨_, List.getElem?_eq_getElem (by omega)⟩
 have := hcell (lo + j) z hz;rw [bys_get (b := z) (by rw [List.getElem?_take, if_pos hj, List.getElem?_drop]; exact hz)] at hu
 injection hu with hu;rw [← hu, ← this, add_none, Nat.add_assoc]
theorem ReadHeader_any (S : Sums) (hS : S.c32 = crc32) (A : Option Addr) (c : Nat) (l : List UInt8) (w : World) (hI : In w A 12 l) (hc : 12 ≤ c) (hl : LaidC w) (hf : LaidF w) :
 Calls Tryz.prog 68 #[.slice A 12 c] w fun e w' => e = .returned (.tuple #[.int .i64 (frontF S l).kind, .int .i64 (frontF S l).e]) ∧ Below w.heap.size w w' := by
 have hl12 := hI.len;obtain ⟨r, hr⟩ : ∃ r, frontF S l = r := ⟨_, rfl⟩;rw [hr];unfold frontF at hr;rw [hS] at hr;obtain ⟨W, hW⟩ : ∃ W, w.heap.size = W := ⟨_, rfl⟩;obtain ⟨w1, hw1⟩ : ∃ w1, w.alloc (.cells #[.int .u8 0, .int .u8 0, .int .u8 0, .int .u8 0, .int .u8 0, .int .u8 0] 85) = w1 := ⟨_, rfl⟩;have hb1 : Below w.heap.size w w1 := by rw [← hw1]; exact (Below.refl _ _).alloc (Nat.le_refl _) _
 have hx1 : Blk w1 W 85 #[.int .u8 0, .int .u8 0, .int .u8 0, .int .u8 0, .int .u8 0, .int .u8 0] := by rw [← hw1]; exact Blk.new_at hW.symm
 obtain ⟨w2, hrun, hx2, hf2⟩ := copy_arr (n := 6) (dc := 6) (c := c) hx1 rfl (hI.below hb1) (by decide) (by decide)
 have hF2 : Below w.heap.size w w2 := ((Fr.of_below (S := fun _ => False) hb1).trans' hf2 (fun i hi e => by have e : i = W := e; omega)).below (Nat.le_refl _) (fun _ h => h.elim)
 obtain ⟨a, b, c', d, x, y, h6⟩ := six_bytes (l := l.take 6) (by rw [List.length_take]; omega)
 rw [h6] at hx2 hr;have m0 := hx2.cell 0;have m1 := hx2.cell 1;have m2 := hx2.cell 2;have m3 := hx2.cell 3;have m4 := hx2.cell 4;have m5 := hx2.cell 5;simp [bys] at m0 m1 m2 m3 m4 m5;have he := fun w => eqA6 [a, b, c', d, x, y] [253, 55, 122, 88, 90, 0] rfl rfl w
 have he : ∀ w, (Op.equalIn 10000 85 (.agg #[.int .u8 (a.toNat : Int), .int .u8 (b.toNat : Int), .int .u8 (c'.toNat : Int), .int .u8 (d.toNat : Int), .int .u8 (x.toNat : Int), .int .u8 (y.toNat : Int)]) (.agg #[.int .u8 253, .int .u8 55, .int .u8 122, .int .u8 88, .int .u8 90, .int .u8 0])).run Tryz.prog w = .ok (decide ([a, b, c', d, x, y] = magic)) w := he;obtain ⟨ab, ao, rfl, hcell⟩ := hI.1.cells_at (by decide)
 have HI := Lib.hid hI;have HI2 := Lib.hid (hI.below hF2);have HB2 := Lib.hid hF2;have HLC := Lib.hid (hl.below hF2);have HLF := Lib.hid (hf.below hF2);have HW := Lib.hid (And.intro hW hw1);have HR := Lib.hid hr;have HL12 := Lib.hid hl12;obtain ⟨mg, hmg⟩ : ∃ z, decide ([a, b, c', d, x, y] = magic) = z := ⟨_, rfl⟩;rw [hmg] at he;have HMG := Lib.hid hmg;have hc8 : ¬ c = 8 := by omega
 have hc6 : ¬ c = 6 := by omega
 clear hr hW hw1 hb1 hx1 hx2 hf2 hF2 h6 hI hl hf hl12 hmg hcell;go_enter Tryz.func68, Tryz.ntmps68;go_upto_region 4 with (fail);rw [HW.out.2, HW.out.1];cases mg
 · have hmm := of_decide_eq_false HMG.out;have HR2 := Lib.hid (by have := HR.out; rw [if_pos hmm] at this; exact this)
   go_wp2_with fail
   go_ret2
   exact ⟨by rw [← HR2.out]; rfl, HB2.out⟩
 · have hmm := of_decide_eq_true HMG.out;have HR2 := Lib.hid (by have := HR.out; rw [if_neg (by simpa using hmm)] at this; exact this)
   clear HR HMG hmm;have HIS := Lib.hid (fun W (hb : Below w2.heap.size w2 W) => isSum_any (some ⟨ab, ao + 8, none⟩) (some ⟨ab, ao + 6, none⟩) 2 (c - 8) (c - 6) _ _ W ((HI2.out.mid (lo := 8) (hi := 12) (by decide) (by decide)).below hb) ((HI2.out.mid (lo := 6) (hi := 8) (by decide) (by decide)).below hb) (HLC.out.below hb))
   obtain ⟨sm, hsm⟩ : ∃ z, decide ((l.drop 8).take (12 - 8) = leN 4 (crc32 ((l.drop 6).take (8 - 6)))) = z := ⟨_, rfl⟩;rw [hsm] at HIS;have HSM := Lib.hid hsm;clear hsm;go_upto_region 7 with (fail);go_cut [15] (fun s15 wx => s15 = .bool (!sm) ∧ Below w2.heap.size w2 wx)
   case first =>
    go_region_with (first | (go_at_call 85; refine (HIS.out _ (Below.refl _ _).drew).mono ?_; rintro e w3 ⟨rfl, hb3⟩; have HB3 := Lib.hid hb3; clear hb3))
    all_goals
     go_wp2_with fail
     go_meet
     exact ⟨rfl, (Below.refl _ _).drew.trans HB3.out⟩
   case rest =>
    obtain ⟨rfl, hb3⟩ := hcut;have HB3 := Lib.hid (bup HB2.out hb3);have HI3 := Lib.hid (HI2.out.below hb3);have HLF3 := Lib.hid (HLF.out.below hb3);obtain ⟨w3, hw3⟩ : ∃ w3, wc = w3 := ⟨_, rfl⟩;rw [hw3] at HB3 HI3 HLF3 ⊢;clear hw3 hb3;cases sm
    · have hmm := of_decide_eq_false HSM.out;have HR3 := Lib.hid (by have := HR2.out; rw [if_pos hmm] at this; exact this)
      go_wp2_with fail
      go_ret2
      exact ⟨by rw [← HR3.out]; rfl, HB3.out⟩
    · have hmm := of_decide_eq_true HSM.out;have HR3 := Lib.hid (by have := HR2.out; rw [if_neg (by simpa using hmm)] at this; exact this)
      clear HSM hmm HR2;obtain ⟨z6, hz6⟩ : ∃ z, l[6]? = some z := ⟨_, List.getElem?_eq_getElem (by have := HL12.out; omega)⟩
      obtain ⟨z7, hz7⟩ : ∃ z, l[7]? = some z := ⟨_, List.getElem?_eq_getElem (by have := HL12.out; omega)⟩
      have g6 : l.getD 6 0 = z6 := by simp [List.getD, hz6]
      have g7 : l.getD 7 0 = z7 := by simp [List.getD, hz7]
      obtain ⟨ab', ao', he', hcell⟩ := HI3.out.1.cells_at (by decide)
      obtain ⟨rfl, rfl⟩ : ab = ab' ∧ ao = ao' := by injection he' with he'; injection he' with e1 e2; exact ⟨e1, e2⟩
      have b6 := hcell 6 z6 hz6;have b7 := hcell 7 z7 hz7;have HR4 := Lib.hid (by have := HR3.out; rw [g6, g7] at this; exact this)
      have l7 := z7.toNat_lt;obtain ⟨n6, hn6⟩ : ∃ z, z6.toNat = z := ⟨_, rfl⟩;obtain ⟨n7, hn7⟩ : ∃ z, z7.toNat = z := ⟨_, rfl⟩;rw [hn6] at b6 HR4;rw [hn7] at b7 HR4 l7;clear hz6 hz7 g6 g7 he' hcell hn6 hn7 HR3;by_cases h60 : n6 = 0
      · subst h60;have HK := Lib.hid (fun W (hb : Below w3.heap.size w3 W) => isKind_any n7 W (HLF3.out.below hb))
        obtain ⟨kk, hkk⟩ : ∃ z, decide (kindOk n7) = z := ⟨_, rfl⟩;rw [hkk] at HK;have HKK := Lib.hid hkk;clear hkk;go_upto_region 9 with (fail);go_cut [22] (fun s22 wx => s22 = .bool (!kk) ∧ Below w3.heap.size w3 wx)
        case first =>
         go_wp2_with fail;refine (HK.out _ (Below.refl _ _)).mono ?_;rintro e w4 ⟨rfl, hb4⟩;have HB4 := Lib.hid hb4;clear hb4;go_wp2_with fail
         go_meet
         exact ⟨rfl, HB4.out⟩
        case rest =>
         obtain ⟨rfl, hb4⟩ := hcut;have HB4 := Lib.hid (bup HB3.out hb4);have b7 := (hb4.cell (p := ⟨ab, ao + 7, none⟩) (block_lt_of_cell b7)).trans b7;obtain ⟨w4, hw4⟩ : ∃ w4, wc = w4 := ⟨_, rfl⟩;rw [hw4] at HB4 b7 ⊢;clear hw4 hb4 b6 HK;cases kk
         · have hmm := of_decide_eq_false HKK.out;have HR5 := Lib.hid (by have := HR4.out; rw [if_pos (.inr hmm)] at this; exact this)
           go_wp2_with fail
           go_ret2
           exact ⟨by rw [← HR5.out]; rfl, HB4.out⟩
         · have hmm := of_decide_eq_true HKK.out;have HR5 := Lib.hid (by have := HR4.out; rw [if_neg (by rintro (h | h); exact h rfl; exact h hmm)] at this; exact this)
           clear hmm;go_wp2_with fail
           go_ret2
           exact ⟨by rw [← HR5.out]; rfl, HB4.out⟩
      · have HR5 := Lib.hid (by have := HR4.out; rw [if_pos (.inl h60)] at this; exact this)
        have q1 : ((n6 : Int) != 0) = true := by rw [bne_iff_ne]; omega
        have q2 : (n6 != 0) = true := by rw [bne_iff_ne]; exact h60
        have q3 : ((n6 : Int) == 0) = false := beq_eq_false_iff_ne.2 (by omega)
        have q4 : (n6 == 0) = false := beq_eq_false_iff_ne.2 h60;clear h60 HR4;go_wp2_with fail
        go_ret2
        exact ⟨by rw [← HR5.out]; rfl, HB3.out⟩
end Go.Proofs.YtcjehjdehdoaeaaGreatDoor
