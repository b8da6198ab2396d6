/-
  Laws on the way to the claim (OpO OpP). Conditions: those that each theorem states.
-/
import Derived.Test.YtcjehjdehdoaeaaGreatDoorOm11
set_option linter.unusedVariables false
set_option linter.unusedSimpArgs false
set_option maxRecDepth 1000000
set_option maxHeartbeats 16000000
namespace Go.Proofs.YtcjehjdehdoaeaaGreatDoor
open Go.RowKit
theorem Rs.tk {x : RsX} {q : Q} {w : World} (h : Rs x q w) : w.cell? ⟨x.tb.tb, 23, none⟩ = some (.pointer (some ⟨x.tb.sb 15, 0, none⟩)) ∧ w.cell? ⟨x.tb.tb, 24, none⟩ = some (.pointer (some ⟨x.tb.sb 16, 0, none⟩)) ∧ w.cell? ⟨x.tb.tb, 25, none⟩ = some (.pointer (some ⟨x.tb.sb 17, 0, none⟩)) :=
 ⟨h.t.b.cell 23, h.t.b.cell 24, h.t.b.cell 25⟩
def rangeI (s : Int) : Int × Int := if 0 ≤ s ∧ s < 64 then ((leastN s.toNat : Int), (bitsN s.toNat : Int)) else (0, 0)
def slotAt (n : Int) : Int := 64 * max 0 (min (wrap64 (n - 2)) 3)
def distQ (l : List UInt8) (q : Q) (n : Int) : Int × Q :=
 let a := treeQ false l q 15 (slotAt n) 6
 if (rangeI a.1).2 = 0 then ((rangeI a.1).1, a.2)
 else if a.1 < 14 then (IntKind.i64.wrap ((rangeI a.1).1 + (treeQ true l a.2 16 (restN a.1.toNat) (rangeI a.1).2).1), (treeQ true l a.2 16 (restN a.1.toNat) (rangeI a.1).2).2)
 else (wrap64 (wrap64 ((rangeI a.1).1 + wrap64 ((directQ l a.2 (wrap64 ((rangeI a.1).2 - 4))).1 * 16)) + (treeQ true l (directQ l a.2 (wrap64 ((rangeI a.1).2 - 4))).2 17 0 4).1), (treeQ true l (directQ l a.2 (wrap64 ((rangeI a.1).2 - 4))).2 17 0 4).2)
theorem rdist_any (x : RsX) (q : Q) (n : Int) (w : World) (h : Rs x q w) :
 Calls Tryz.prog 223 #[.pointer (some ⟨x.rd, 0, none⟩), .int .i64 n] w (QPost x w (distQ x.rc.l q n)) := by
 obtain ⟨r0, d0, d1⟩ := h.three;obtain ⟨t15, t16, t17⟩ := h.tk;have ht := tree_any x q 15 (by decide) (slotAt n) 6 w h
 obtain ⟨r, hr⟩ : ∃ r, distQ x.rc.l q n = r := ⟨_, rfl⟩;rw [hr];unfold distQ at hr;simp only [] at hr;obtain ⟨⟨s1, q1⟩, hq1⟩ : ∃ z, treeQ false x.rc.l q 15 (slotAt n) 6 = z := ⟨_, rfl⟩;rw [hq1] at ht hr;simp only [] at hr;have HR := Lib.hid hr;have HT := Lib.hid ht;clear h hr ht hq1;go_enter Tryz.func223, Tryz.ntmps223;go_wp2_with fail;refine HT.out.mono ?_;rintro e w1 ⟨rfl, h1, hf1⟩;simp only [] at h1 ⊢
 have H1 := Lib.hid h1;have F1 := Lib.hid hf1;clear r0 d0 d1 t15 t16 t17;obtain ⟨r0, d0, d1⟩ := h1.three;obtain ⟨t15, t16, t17⟩ := h1.tk;clear h1 hf1 HT;by_cases hs : 0 ≤ s1 ∧ s1 < 64
 · obtain ⟨s, rfl⟩ : ∃ s : Nat, s1 = s := ⟨s1.toNat, by omega⟩
   have hri : rangeI (s : Int) = ((leastN s : Int), (bitsN s : Int)) := by rw [rangeI, if_pos hs, Int.toNat_natCast]
   have hf := least_fits ⟨s, by omega⟩
   simp only [] at hf;obtain ⟨hf1, hf2, hf3⟩ := hf;have hR := HR.out;rw [hri] at hR;simp only [Int.toNat_natCast] at hR;have h4 : bitsN s ≠ 0 → 4 ≤ s := fun h => by
    rcases Nat.lt_or_ge s 4 with h' | h'
    · exact absurd (by unfold bitsN; rw [if_pos (by omega)]) h
    · exact h'
   have HX := Lib.hid (Range_yes s (by omega) w1)
   obtain ⟨le, hle⟩ : ∃ z, leastN s = z := ⟨_, rfl⟩;obtain ⟨bt, hbt⟩ : ∃ z, bitsN s = z := ⟨_, rfl⟩;rw [hle] at HX hR hf1;rw [hbt] at HX hR hf2 hf3 h4;have HR2 := Lib.hid hR;clear hR hri HR hle hbt hf3;go_wp2_with fail;refine HX.out.mono ?_;rintro e w2 ⟨rfl, rfl⟩;by_cases hb0 : bt = 0
   · have hb0' : ((bt : Int) == 0) = true := beq_iff_eq.2 (by omega)
     have hb0'' : (bt == 0) = true := beq_iff_eq.2 hb0;have HR3 := Lib.hid (by have := HR2.out; rw [if_pos (by omega)] at this; exact this)
     clear HR2 h4 hb0;go_wp2_with fail;go_ret;rw [← HR3.out];exact ⟨rfl, H1.out, F1.out⟩
   · have hb0' : ((bt : Int) == 0) = false := beq_eq_false_iff_ne.2 (by omega)
     have hb0'' : (bt == 0) = false := beq_eq_false_iff_ne.2 hb0;have hs4 := h4 hb0;have HR3 := Lib.hid (by have := HR2.out; rw [if_neg (by omega)] at this; exact this)
     clear HR2 h4 hb0;by_cases h14 : s < 14
     · have HR4 := Lib.hid (by have := HR3.out; rw [if_pos (by omega)] at this; exact this)
       have hl : decide ((14 : Int) ≤ s) = false := decide_eq_false (by omega)
       have HL := Lib.hid (Late_any s w1);rw [hl] at HL;have HRA := Lib.hid (fun n => RestAt_any s (w1.drewN n) hs4 h14)
       have HBK := Lib.hid (fun n => back_any x q1 16 (by decide) (restN s) bt (w1.drewN n) (H1.out.drewN n))
       obtain ⟨rn, hrn⟩ : ∃ z, restN s = z := ⟨_, rfl⟩;rw [hrn] at HRA HBK HR4;clear HR3 hl hrn;go_wp2_with fail;refine HL.out.mono ?_;rintro e w2 ⟨rfl, rfl⟩;go_upto_region 6 with (fail);have HC : Hid (∀ n, (w2.drewN n).cell? ⟨x.rd, 0, none⟩ = some (.pointer (some ⟨x.d, 0, none⟩)) ∧ (w2.drewN n).cell? ⟨x.d, 0, none⟩ = some (.pointer (some ⟨x.tb.tb, 0, none⟩)) ∧ (w2.drewN n).cell? ⟨x.tb.tb, 24, none⟩ = some (.pointer (some ⟨x.tb.sb 16, 0, none⟩))) := fun n => ⟨(H1.out.drewN n).three.1, (H1.out.drewN n).three.2.1, (H1.out.drewN n).tk.2.1⟩
       go_region_with (first
        | (go_at_call 191; refine (HRA.out 1).mono ?_; rintro e w7 ⟨rfl, rfl⟩)
        | (go_at_call 227; refine (HBK.out 1).mono ?_; rintro e w7 ⟨rfl, h7, hf7⟩; simp only [] at h7 ⊢))
       all_goals
        go_wp2_with fail;go_ret;rw [← HR4.out];exact ⟨rfl, h7, (F1.out.drewN 1).trans hf7⟩
     · have HR4 := Lib.hid (by have := HR3.out; rw [if_neg (by omega)] at this; exact this)
       have hl : decide ((14 : Int) ≤ s) = true := decide_eq_true (by omega)
       have HL := Lib.hid (Late_any s w1);rw [hl] at HL;have HD := Lib.hid (direct_any x q1 ((bt : Int) - 4) w1 H1.out);have hw4 : wrap64 ((bt : Int) - 4) = (bt : Int) - 4 := IntWalk.wrap64_in _ (by omega)
       rw [hw4] at HR4;obtain ⟨⟨hi, q2⟩, hq2⟩ : ∃ z, directQ x.rc.l q1 ((bt : Int) - 4) = z := ⟨_, rfl⟩;rw [hq2] at HD HR4;simp only [] at HR4;clear HR3 hl hw4 hq2;go_wp2_with fail;refine HL.out.mono ?_;rintro e w2 ⟨rfl, rfl⟩;go_wp2_with fail;refine HD.out.mono ?_;rintro e w3 ⟨rfl, h3, hf3⟩;simp only [] at h3 ⊢;have H3 := Lib.hid h3;have F3 := Lib.hid (F1.out.trans hf3);clear r0 d0 d1 t15 t16 t17 HD HL
       obtain ⟨r0, d0, d1⟩ := h3.three;obtain ⟨t15, t16, t17⟩ := h3.tk;clear h3 hf3;go_wp2_with fail;refine (back_any x q2 17 (by decide) 0 4 w3 H3.out).mono ?_
       rintro e w4 ⟨rfl, h4, hf4⟩;go_wp2_with fail;go_ret;rw [← HR4.out];exact ⟨rfl, h4, F3.out.trans hf4⟩
 · have hri : rangeI s1 = (0, 0) := by rw [rangeI, if_neg hs]
   have hR := HR.out;rw [hri] at hR;simp only [] at hR;have HR3 := Lib.hid (by have := hR; rw [if_pos trivial] at this; exact this)
   have HX := Lib.hid (Range_no s1 hs w1);clear hR HR hri hs;go_wp2_with fail;refine HX.out.mono ?_;rintro e w2 ⟨rfl, rfl⟩;go_wp2_with fail;go_ret;rw [← HR3.out];exact ⟨rfl, H1.out, F1.out⟩
def lastB (size : Nat) (all : List UInt8) (d : Int) : UInt8 := if 1 ≤ d ∧ d ≤ (win.full size all : Int) then all.getD (all.length - d.toNat) 0 else 0
def lastE (size : Nat) (all : List UInt8) (d : Int) : Int := if 1 ≤ d ∧ d ≤ (win.full size all : Int) then 0 else 7
theorem wlast_any {x : RsX} {q : Q} {w : World} (h : Rs x q w) (d : Int) : Calls Tryz.prog 158 #[.pointer (some ⟨x.wb, 0, none⟩), .int .i64 d] w fun e w' => e = .returned (.tuple #[.int .u8 ((lastB x.size x.all d).toNat : Int), .int .i64 (lastE x.size x.all d)]) ∧ w' = w := by
 by_cases hd : 1 ≤ d ∧ d ≤ (win.full x.size x.all : Int)
 · obtain ⟨k, rfl⟩ : ∃ k : Nat, d = k := ⟨d.toNat, by omega⟩
   have hle : k ≤ x.all.length := by have := @win.full_len x.size x.all; omega
   obtain ⟨c, hc⟩ : ∃ c, x.all[x.all.length - k]? = some c := ⟨_, List.getElem?_eq_getElem (by omega)⟩
   refine (win.Last_yes x.B x.wb x.size x.r x.all k c w h.v (by omega) (by omega) hc).mono ?_
   rintro e w' ⟨rfl, rfl⟩;rw [lastB, lastE, if_pos hd, if_pos hd, Int.toNat_natCast];simp [List.getD, hc]
 · refine (win.Last_no x.B x.wb x.size x.r x.all d w h.v (fun h => hd (by omega))).mono ?_
   rintro e w' ⟨rfl, rfl⟩;rw [lastB, lastE, if_neg hd, if_neg hd];exact ⟨rfl, rfl⟩
def litB (s : St) : Bool := decide (0 ≤ s.n ∧ s.n < 7)
theorem SLit_any (s : St) (w : World) : Calls Tryz.prog 187 #[.agg #[.int .i64 s.n, .int .i64 s.a, .int .i64 s.b, .int .i64 s.c, .int .i64 s.d]] w fun e w' => e = .returned (.bool (litB s)) ∧ Below w.heap.size w w' := Literal_any s.n s.a s.b s.c s.d w
def litU (last : UInt8) (j : Nat) : Int := bits .and .i64 (wrap64 (last.toNat : Int) / 2 ^ j) 1
def litAt (from_ m : Int) (same : Bool) (u : Int) : Int := if same then wrap64 (wrap64 (from_ + m) + 256 * (1 + u)) else wrap64 (from_ + m)
def litGo (l : List UInt8) (from_ : Int) (last : UInt8) : Nat → Int → Bool → Q → Int × Q
 | 0, m, _, q => (m, q)
 | j + 1, m, same, q =>
  litGo l from_ last j (2 * m + (bitQ l q 6 (litAt from_ m same (litU last j))).1) (same && decide ((bitQ l q 6 (litAt from_ m same (litU last j))).1 = litU last j)) (bitQ l q 6 (litAt from_ m same (litU last j))).2
def litF (x : RsX) (q : Q) : Int := ctxI q.t.lc q.t.lp x.all.length (lastB x.size x.all 1)
def literalQ (x : RsX) (q : Q) : Int × Q :=
 if litB q.t.s then treeQ false x.rc.l q 6 (litF x q) 8
 else ((litGo x.rc.l (litF x q) (lastB x.size x.all q.t.s.a) 8 1 true q).1 - 256, (litGo x.rc.l (litF x q) (lastB x.size x.all q.t.s.a) 8 1 true q).2)
theorem bitQ_bit (l : List UInt8) (q : Q) (k : Nat) (i : Int) : (bitQ l q k i).1 = 0 ∨ (bitQ l q k i).1 = 1 := by
 unfold bitQ;split
 · exact .inl rfl
 · unfold gotQ;split
   · exact bitT_bit _ _ _ _
   · exact .inl rfl
theorem and1_bd (a : Int) : bits .and .i64 a 1 = 0 ∨ bits .and .i64 a 1 = 1 := by
 show IntKind.i64.wrap ((BitVec.ofInt 64 a &&& BitVec.ofInt 64 1).toNat : Int) = 0 ∨ IntKind.i64.wrap ((BitVec.ofInt 64 a &&& BitVec.ofInt 64 1).toNat : Int) = 1;have h : (BitVec.ofInt 64 a &&& BitVec.ofInt 64 1).toNat = 0 ∨ (BitVec.ofInt 64 a &&& BitVec.ofInt 64 1).toNat = 1 := by
  rw [BitVec.toNat_and, show (BitVec.ofInt 64 1).toNat = 1 from rfl, Nat.and_one_is_mod]
  omega
 rcases h with h | h <;> rw [h]
 · exact .inl rfl
 · exact .inr rfl
theorem Rs.st {x : RsX} {q : Q} {w : World} (h : Rs x q w) : w.cell? ⟨x.tb.tb, 3, none⟩ = some (.int .i64 q.t.s.n) ∧ w.cell? ⟨x.tb.tb, 4, none⟩ = some (.int .i64 q.t.s.a) ∧ w.cell? ⟨x.tb.tb, 5, none⟩ = some (.int .i64 q.t.s.b) ∧ w.cell? ⟨x.tb.tb, 6, none⟩ = some (.int .i64 q.t.s.c) ∧ w.cell? ⟨x.tb.tb, 7, none⟩ = some (.int .i64 q.t.s.d) ∧ w.cell? ⟨x.tb.tb, 14, none⟩ = some (.pointer (some ⟨x.tb.sb 6, 0, none⟩)) :=
 ⟨h.t.b.cell 3, h.t.b.cell 4, h.t.b.cell 5, h.t.b.cell 6, h.t.b.cell 7, h.t.b.cell 14⟩
theorem rlit_any (x : RsX) (q : Q) (w : World) (h : Rs x q w) : Calls Tryz.prog 221 #[.pointer (some ⟨x.rd, 0, none⟩)] w (QPost x w (literalQ x q)) := by
 obtain ⟨r0, d0, d1⟩ := h.three;obtain ⟨s0, s1, s2, s3, s4, t6⟩ := h.st;have H := Lib.hid h;obtain ⟨r, hr⟩ : ∃ r, literalQ x q = r := ⟨_, rfl⟩;rw [hr];have HR := Lib.hid hr;have HL1 := Lib.hid (wlast_any h 1);obtain ⟨b1, hb1⟩ : ∃ z, lastB x.size x.all 1 = z := ⟨_, rfl⟩;obtain ⟨e1, he1⟩ : ∃ z, lastE x.size x.all 1 = z := ⟨_, rfl⟩;rw [hb1, he1] at HL1;have HPos := Lib.hid (fun n => wpos_any (h.drewN n))
 have HCt := Lib.hid (fun n => Context_any x.B x.tb q.t x.all.length b1 (w.drewN n) (h.drewN n).t)
 obtain ⟨fr, hfr⟩ : ∃ z, ctxI q.t.lc q.t.lp x.all.length b1 = z := ⟨_, rfl⟩;rw [hfr] at HCt;have HF : Hid (litF x q = fr) := by show _ = _; unfold litF; rw [hb1, hfr]
 clear h hr hb1 he1 hfr;go_enter Tryz.func221, Tryz.ntmps221;go_wp2_with fail;refine HL1.out.mono ?_;rintro e w1 ⟨rfl, rfl⟩;go_wp2_with fail
 go_quiet ((first | (go_at_call 160; exact Calls.quiet_of_same (HPos.out _)) | (go_at_call 186; exact Calls.quiet_of (HCt.out _))))
 have H1 := Lib.hid (H.out.drewN nq);have F1 := Lib.hid ((Fr.refl x.foot w1).drewN nq);obtain ⟨w2, hw2⟩ : ∃ w2, w1.drewN nq = w2 := ⟨_, rfl⟩;rw [hw2] at H1 F1 ⊢;clear hw2 r0 d0 d1 s0 s1 s2 s3 s4 t6 HL1 HPos HCt;obtain ⟨r0, d0, d1⟩ := H1.out.three;obtain ⟨s0, s1, s2, s3, s4, t6⟩ := H1.out.st;have HSL := Lib.hid (SLit_any q.t.s w2);obtain ⟨⟨n_, a_, b_, c_, d_⟩, hst⟩ : ∃ z, q.t.s = z := ⟨_, rfl⟩;have HST := Lib.hid hst
 rw [hst] at HSL s0 s1 s2 s3 s4;simp only [] at HSL s0 s1 s2 s3 s4;obtain ⟨lb, hlb⟩ : ∃ z, litB ⟨n_, a_, b_, c_, d_⟩ = z := ⟨_, rfl⟩;rw [hlb] at HSL;have HLB : Hid (litB q.t.s = lb) := by show _ = _; rw [HST.out]; exact hlb
 clear hlb hst;go_wp2_with fail;refine HSL.out.mono ?_;rintro e w3 ⟨rfl, hb3⟩;have H3 := Lib.hid (H1.out.below hb3);have F3 := Lib.hid (F1.out.of_below' hb3);clear r0 d0 d1 s0 s1 s2 s3 s4 t6 HSL hb3 F1 H1;obtain ⟨r0, d0, d1⟩ := H3.out.three;obtain ⟨s0, s1, s2, s3, s4, t6⟩ := H3.out.st;rw [HST.out] at s1;simp only [] at s1;cases lb
 · have HR2 : Hid (r = ((litGo x.rc.l fr (lastB x.size x.all a_) 8 1 true q).1 - 256, (litGo x.rc.l fr (lastB x.size x.all a_) 8 1 true q).2)) := by
    show _ = _;rw [← HR.out, literalQ, HLB.out, HF.out, HST.out];rfl
   have HL2 := Lib.hid (fun n => wlast_any (H3.out.drewN n) a_)
   obtain ⟨la, hla⟩ : ∃ z, lastB x.size x.all a_ = z := ⟨_, rfl⟩;obtain ⟨e2, he2⟩ : ∃ z, lastE x.size x.all a_ = z := ⟨_, rfl⟩;rw [hla, he2] at HL2;rw [hla] at HR2;clear hla he2 HR HLB HST HF;go_wp2_with fail
   go_quiet ((go_at_call 158; exact Calls.quiet_of_same (HL2.out _)))
   have H4 := Lib.hid (H3.out.drewN nq);have F4 := Lib.hid (F3.out.drewN nq);obtain ⟨w4, hw4⟩ : ∃ w4, w3.drewN nq = w4 := ⟨_, rfl⟩;rw [hw4] at H4 F4 ⊢;clear hw4 r0 d0 d1 s0 s1 s2 s3 s4 t6 HL2 H3 F3;obtain ⟨g, hg⟩ : ∃ g, litGo x.rc.l fr la 8 1 true q = g := ⟨_, rfl⟩;rw [hg] at HR2;have HG := Lib.hid hg;clear hg;go_wp2_with fail
   go_loopw [8, 9, 10] (fun s8 s9 s10 wr => ∃ (j : Nat) (m : Int) (same : Bool) (q' : Q), s10 = .int .i64 ((j : Int) - 1) ∧ s8 = .int .i64 m ∧ s9 = .bool same ∧ j ≤ 8 ∧ 1 ≤ m ∧ m + 1 ≤ 2 ^ (9 - j) ∧ Hid (Rs x q' wr ∧ Fr x.foot w1 wr ∧ litGo x.rc.l fr la j m same q' = g)) (fun _ _ s10 _ => (intOf s10 + 1).toNat)
   case atStart => exact ⟨8, 1, true, q, rfl, rfl, rfl, by omega, by omega, by decide, H4.out, F4.out, HG.out⟩
   case round =>
    clear HG H4 F4;obtain ⟨j, m, same, q', rfl, rfl, rfl, hj, hm1, hm2, HJ⟩ := hrel;cases j with
    | zero =>
     have hm3 : m ≤ 511 := by have : (2 : Int) ^ (9 - 0) = 512 := rfl; omega
     have hn : ¬ (0 : Int) ≤ ((0 : Nat) : Int) - 1 := by decide
     clear hm2;go_wp2_with fail;go_ret;rw [HR2.out, ← HJ.out.2.2];exact ⟨rfl, HJ.out.1, HJ.out.2.1⟩
    | succ j =>
     have hc : ((j + 1 : Nat) : Int) - 1 = (j : Int) := by omega
     rw [hc];have hj7 : j ≤ 7 := by omega
     have hu := and1_bd (wrap64 (la.toNat : Int) / 2 ^ j);have HU : Hid (litU la j = bits .and .i64 (wrap64 (la.toNat : Int) / 2 ^ j) 1) := rfl;obtain ⟨u, hu'⟩ : ∃ u, litU la j = u := ⟨_, rfl⟩;have hpw : m + 1 ≤ 256 := by
      have : (2 : Nat) ^ (9 - (j + 1)) ≤ 2 ^ 8 := Nat.pow_le_pow_right (by decide) (by omega)
      have h2 : ((2 ^ (9 - (j + 1)) : Nat) : Int) ≤ ((2 ^ 8 : Nat) : Int) := by exact_mod_cast this
      have h3 : (2 : Int) ^ (9 - (j + 1)) ≤ 256 := by simpa using h2
      omega
     have hst := HJ.out.2.2;rw [litGo, hu'] at hst;have HST := Lib.hid hst;have HM := Lib.hid (show ∀ b : Int, b = 0 ∨ b = 1 → 1 ≤ 2 * m + b ∧ 2 * m + b + 1 ≤ 2 ^ (9 - j) from fun b hb => by
      have : (2 : Int) ^ (9 - j) = 2 * 2 ^ (9 - (j + 1)) := by rw [show 9 - j = (9 - (j + 1)) + 1 by omega, Int.pow_succ]; omega
      omega)
     clear hst hm2;obtain ⟨r0, d0, d1⟩ := HJ.out.1.three;obtain ⟨_, _, _, _, _, t6⟩ := HJ.out.1.st;have HQ := Lib.hid (fun (n : Nat) (i : Int) => bit_any x q' 6 (by decide) i (wr.drewN n) (HJ.out.1.drewN n))
     go_upto_region 10 with (fail)
     go_quiet (fail)
     have hu3 : bits .and .i64 (wrap64 (la.toNat : Int) / 2 ^ j) 1 = u := hu';rw [hu3] at hu ⊢;have hu0 : 0 ≤ u := by omega
     have hu1 : u ≤ 1 := by omega
     have HJ2 := Lib.hid (And.intro (HJ.out.1.drewN nq) (HJ.out.2.1.drewN nq));have HQ2 := Lib.hid (fun i => HQ.out nq i)
     obtain ⟨w5, hw5⟩ : ∃ w5, wr.drewN nq = w5 := ⟨_, rfl⟩;rw [hw5] at HJ2 HQ2 ⊢;obtain ⟨at_, hat⟩ : ∃ z, litAt fr m same u = z := ⟨_, rfl⟩;rw [hat] at HST;have HB := Lib.hid (HQ2.out at_);have hb := bitQ_bit x.rc.l q' 6 at_;obtain ⟨⟨b, q2⟩, hq2⟩ : ∃ z, bitQ x.rc.l q' 6 at_ = z := ⟨_, rfl⟩;rw [hq2] at HB HST hb;simp only [] at HST hb;have hb0 : 0 ≤ b := by omega
     have hb1 : b ≤ 1 := by omega
     have HM2 := Lib.hid (HM.out b hb);have HAT := Lib.hid hat;clear r0 d0 d1 t6 hu' HU hu3 hu HQ HQ2 hw5 hc hq2 hb HM hat;obtain ⟨r0, d0, d1⟩ := HJ2.out.1.three;obtain ⟨_, _, _, _, _, t6⟩ := HJ2.out.1.st;cases same
     · have HA2 : Hid (wrap64 (fr + m) = at_) := HAT.out;have ha := HA2.out;go_wp2_with fail;refine HB.out.mono ?_;rintro e w6 ⟨rfl, h6, hf6⟩;simp only [] at h6 ⊢;have H6 := Lib.hid h6;have F6 := Lib.hid (HJ2.out.2.trans hf6);clear h6 hf6;go_wp2_with fail
       go_roundw
       case rel => exact ⟨j, 2 * m + b, false, q2, rfl, rfl, rfl, by omega, HM2.out.1, HM2.out.2, H6.out, F6.out, HST.out⟩
       case measure => simp [intOf]
     · have HA2 : Hid (wrap64 (wrap64 (fr + m) + 256 * (1 + u)) = at_) := HAT.out;have ha := HA2.out;go_wp2_with fail;refine HB.out.mono ?_;rintro e w6 ⟨rfl, h6, hf6⟩;simp only [] at h6 ⊢;have H6 := Lib.hid h6;have F6 := Lib.hid (HJ2.out.2.trans hf6);clear h6 hf6;obtain ⟨bu, hbu⟩ : ∃ z, (b == u) = z := ⟨_, rfl⟩;have HST2 : Hid (litGo x.rc.l fr la j (2 * m + b) bu q2 = g) := by
        show _ = _;rw [← HST.out, Bool.true_and, ← hbu];rfl
       go_wp2_with fail
       go_roundw
       case rel => exact ⟨j, 2 * m + b, bu, q2, rfl, rfl, rfl, by omega, HM2.out.1, HM2.out.2, H6.out, F6.out, HST2.out⟩
       case measure => simp [intOf]
 · have HR2 : Hid (r = treeQ false x.rc.l q 6 fr 8) := by
    show _ = _;rw [← HR.out, literalQ, HLB.out, HF.out];rfl
   clear HR HLB HST HF;go_wp2_with fail;refine (tree_any x q 6 (by decide) fr 8 w3 H3.out).mono ?_
   rintro e wz ⟨rfl, h4, hf4⟩;go_wp2_with fail;go_ret;rw [HR2.out];exact ⟨rfl, h4, F3.out.trans hf4⟩
end Go.Proofs.YtcjehjdehdoaeaaGreatDoor
