/-
  Laws on the way to the claim (OsA OsB). Conditions: those that each theorem states.
-/
import Derived.Test.YtcjehjdehdoaeaaGreatDoorOm29
set_option linter.unusedVariables false
set_option linter.unusedSimpArgs false
set_option maxRecDepth 1000000
set_option maxHeartbeats 16000000
namespace Go.Proofs.YtcjehjdehdoaeaaGreatDoor
open Go.RowKit
theorem fr_low {B : Nat} {w w' : World} (h : Below B w w') : Fr (fun k => B ≤ k) w w' := ⟨h.os, h.tape, h.output, h.size, fun i _ hn => h.block i (by omega)⟩
theorem In.low {B : Nat} {w w' : World} {A : Option Addr} {n : Nat} {l : List UInt8} (h : In w A n l) (hb : Below B w w') (hA : ∀ ad, A = some ad → ad.block < B) : In w' A n l := h.fr (fr_low hb) fun _ ad e k => by have := hA ad e; omega
def Keep1 (B : Nat) (w w' : World) : Prop := Below B w w' ∧ KeepR w w' ∧ ∀ g cs, Blk w g 223 cs → Blk w' g 223 cs
theorem Keep1.trans {B : Nat} {w w1 w2 : World} (h : Keep1 B w w1) (k : Keep1 B w1 w2) : Keep1 B w w2 := ⟨h.1.trans k.1, h.2.1.trans k.2.1, fun g cs hb => k.2.2 g cs (h.2.2 g cs hb)⟩
theorem Keep1.of_fr {B : Nat} {w w' : World} {S : Nat → Prop} (h : Fr S w w') (hB : B ≤ w.heap.size) (hS : ∀ g, S g → B ≤ g) (h1 : ∀ g t, BT w g t → t = 353 ∨ t = 363 ∨ t = 223 → ¬ S g) : Keep1 B w w' :=
 ⟨h.below hB hS, KeepR.of_fr h (fun g hg => h1 g _ hg (.inl rfl)) (fun g hg => h1 g _ hg (.inr (.inl rfl))), fun g cs hb => hb.fr h (h1 g _ ⟨cs, hb⟩ (.inr (.inr rfl)))⟩
section
variable {B O Fo Dp Pp dict : Nat} {Ao : Option Addr} {co : Nat} {x x' : RsX} {st : Lst} {t' : Tb} {w w1 : World}
theorem lx_to (h : Lx B O Fo Dp Pp dict Ao co x st w) (hz : Lz x' t' w1) (hf : Fr (fun k => k = x.d ∨ k = x.wb) w w1) (hx : x'.d = x.d ∧ x'.B = x.B ∧ x'.size = x.size) (hr : x'.r = x.r ∨ x'.r = none) (st' : Lst) (hs : x'.all = st'.all ∧ st'.t = t' ∧ st'.lc = st.lc ∧ st'.lp = st.lp ∧ st'.pb = st.pb ∧ st'.out = st.out ∧ st'.all.length ≤ st'.out.length) :
 Lx B O Fo Dp Pp dict Ao co x' st' w1 ∧ Keep1 B w w1 := by
 obtain ⟨s1, s2, s3, s4, s5, s6, s7⟩ := hs;have hS : ∀ {g : Nat} {t : TypeId}, BT w g t → t ≠ 348 → t ≠ 247 → ¬ (g = x.d ∨ g = x.wb) := fun hg h1 h2 e => by
  rcases e with e | e
  · exact BT.ne hg ⟨_, h.z.d⟩ h1 e
  · exact BT.ne hg h.z.v.bt.1 h2 e
 refine ⟨⟨?_, ?_, ?_, ?_, ?_, ?_, hx.2.2.trans h.s, s1, ?_, h.g, ?_, s7⟩, ?_⟩
 · rw [s6]; exact h.ou.fr hf (hS ⟨_, h.ou.b⟩ (by decide) (by decide)) (fun g hg => hS (own_bt h.ou.r hg) (by decide) (by decide))
 · intro g hg;rw [s6];rcases hr with hr | hr
   · exact h.nr g (hr.symm.trans hg)
   · rw [hr] at hg; exact absurd hg (by simp)
 · exact h.f.fr hf (hS ⟨_, h.f⟩ (by decide) (by decide))
 · rw [hx.1]; exact h.d.fr hf (hS ⟨_, h.d⟩ (by decide) (by decide))
 · rw [s3, s4, s5]; exact h.p.fr hf (hS ⟨_, h.p⟩ (by decide) (by decide))
 · rw [s2]; exact hz
 · rw [hx.2.1]; exact ⟨h.b.1, Nat.le_trans h.b.2 hf.size⟩
 · rw [s3, s4, s5]; exact h.pl
 · refine Keep1.of_fr hf (Nat.le_trans h.b.1 h.b.2) (fun g e => ?_) (fun g t hg e => ?_)
   · have := h.b.1;rcases e with e | e
     · have := h.z.o; omega
     · have := h.z.v.base; omega
   · rcases e with e | e | e <;> exact hS hg (by rw [e]; decide) (by rw [e]; decide)
theorem lx_prop (h : Lx B O Fo Dp Pp dict Ao co x st w) (c : Ck) (hc : c.lc + c.lp ≤ 4 ∧ c.pb ≤ 4) (hf : Fr (fun k => k = Pp) w w1) (hp : Blk w1 Pp 24 #[.int .i64 c.lc, .int .i64 c.lp, .int .i64 c.pb]) :
 Lx B O Fo Dp Pp dict Ao co x (st.prop c) w1 ∧ Keep1 B w w1 := by
 have hS : ∀ {g : Nat} {t : TypeId}, BT w g t → t ≠ 24 → ¬ (g = Pp) := fun hg h1 => BT.ne hg ⟨_, h.p⟩ h1
 refine ⟨⟨?_, h.nr, ?_, ?_, hp, ?_, h.s, h.a, ⟨h.b.1, Nat.le_trans h.b.2 hf.size⟩, h.g, hc, h.al⟩, ?_⟩
 · exact h.ou.fr hf (hS ⟨_, h.ou.b⟩ (by decide)) (fun g hg => hS (own_bt h.ou.r hg) (by decide))
 · exact h.f.fr hf (hS ⟨_, h.f⟩ (by decide))
 · exact h.d.fr hf (hS ⟨_, h.d⟩ (by decide))
 · exact h.z.fr hf (fun g hg => hS hg (by decide)) (fun g hg => hS hg (by decide)) (fun g hg => hS hg (by decide)) (fun g hg => hS hg (by decide)) (fun g hg => hS hg (by decide)) (fun g hg => hS (h.z.v.bt.2 g hg) (by decide))
 · refine Keep1.of_fr hf (Nat.le_trans h.b.1 h.b.2) (fun g e => by rw [e]; exact h.g.2.2.2) (fun g t hg e => ?_)
   rcases e with e | e | e <;> exact hS hg (by rw [e]; decide)
theorem lx_below (h : Lx B O Fo Dp Pp dict Ao co x st w) (hb : Below w.heap.size w w1) : Lx B O Fo Dp Pp dict Ao co x st w1 :=
 ⟨⟨h.ou.b.below hb, own_below h.ou.r hb⟩, h.nr, h.f.below hb, h.d.below hb, h.p.below hb, h.z.below hb, h.s, h.a, ⟨h.b.1, Nat.le_trans h.b.2 hb.size⟩, h.g, h.pl, h.al⟩
end
theorem un1_any (B O Fo Dp Pp dict : Nat) (Ao : Option Addr) (co : Nat) (x : RsX) (st : Lst) (k n p lc lp pb : Nat) (A : Option Addr) (m c : Nat) (ys : List UInt8) (w : World) (h : Lx B O Fo Dp Pp dict Ao co x st w)
 (hI : In w A m ys) (hc : m ≤ c) (hA : ∀ ad, A = some ad → ad.block < B) (hl : Laid w) (hR : 16 < B) (hk6 : k ≤ 6) (hpr : 5 ≤ k → lc + lp ≤ 4 ∧ pb ≤ 4)
 (hn : k < 3 ∨ (1 ≤ n ∧ n ≤ 2097152)) (hlen : st.out.length + 2097152 ≤ 4398046511104) (hm : m ≤ 65536) :
 Calls Tryz.prog 173 #[.agg #[.int .i64 k, .int .i64 n, .int .i64 p, .int .i64 lc, .int .i64 lp, .int .i64 pb], .slice A m c, .pointer (some ⟨Dp, 0, none⟩), .pointer (some ⟨Pp, 0, none⟩), .pointer (some ⟨Fo, 0, none⟩)] w (UnPost B O Fo Dp Pp dict (chunkF dict ⟨k, n, p, lc, lp, pb⟩ ys st) w) := by
 obtain ⟨C, hC⟩ : ∃ C, w.heap.size = C := ⟨_, rfl⟩;obtain ⟨w1, hw1⟩ : ∃ w1, w.alloc (.cells #[.int .i64 k, .int .i64 n, .int .i64 p, .int .i64 lc, .int .i64 lp, .int .i64 pb] 223) = w1 := ⟨_, rfl⟩;have hb : Below w.heap.size w w1 := by rw [← hw1]; exact (Below.refl _ _).alloc (Nat.le_refl _) _
 have hbk : Blk w1 C 223 #[.int .i64 k, .int .i64 n, .int .i64 p, .int .i64 lc, .int .i64 lp, .int .i64 pb] := by rw [← hw1]; exact Blk.new_at hC.symm
 have hBw : B ≤ w.heap.size := Nat.le_trans h.b.1 h.b.2;have HW := Lib.hid hw1;have H := Lib.hid (lx_below h hb);have K0 := Lib.hid (And.intro (hb.mono hBw) (KeepR.of_below hb));have HC := Lib.hid hbk;have HX := Lib.hid (And.intro hI (And.intro hc (And.intro hA (And.intro hl (And.intro hR (And.intro hBw (And.intro hn (And.intro hlen (And.intro hm hpr)))))))));have HZ := Lib.hid hC;clear h hI hc hA hl hR hn hlen hm hpr hb hBw
 have cd := H.out.d.one;have c0 := hbk.cell 0;clear hbk hw1 hC;go_enter Tryz.func173, Tryz.ntmps173;go_upto_region 1 with (fail);rw [HZ.out];rw [HW.out];by_cases k1 : k = 1
 · have g1 : k = 1 ∨ k = 6 := .inl k1;have g5 : ¬ 5 ≤ k := by omega
   have g4 : ¬ 4 ≤ k := by omega
   have i1 : ((k : Int) == 1) = true := by simp; omega
   have i6 : ((k : Int) == 6) = false := by simp; omega
   have i5 : ¬ 5 ≤ (k : Int) := by omega
   have i4 : ¬ 4 ≤ (k : Int) := by omega
   clear k1;go_upto_region 2 with (fail);go_wp2_with fail;refine (DClear_any x (st).t w1 H.out.z H.out.b.2).mono ?_;rintro e w2 ⟨rfl, tbw2, hz, hf⟩;obtain ⟨hx, hk⟩ := lx_to H.out hz hf ⟨rfl, rfl, rfl⟩ (.inr rfl) ((st).clr) ⟨rfl, rfl, rfl, rfl, rfl, rfl, Nat.zero_le _⟩;clear hz hf;have Ha := Lib.hid hx;have HCa := Lib.hid (hk.2.2 _ _ HC.out);have Kw2 := Lib.hid hk;clear hx hk cd c0;have cd := Ha.out.d.one
   have c0 := HCa.out.cell 0;go_upto_if 28 with (fail)
   go_step;go_step;go_step;go_step;obtain ⟨hI, hc, hA, hl, hR, hBw, hn, hlen, hm, _⟩ := HX.out;have hF : chunkF dict ⟨k, n, p, lc, lp, pb⟩ ys st = chunkR dict ⟨k, n, p, lc, lp, pb⟩ ys ((st).clr) := by simp [chunkF, lst1, lst2, lst3, g1, g5, g4]
   rw [hF];exact tail7 B O Fo Dp Pp dict C Ao co _ ((st).clr) k n p lc lp pb A m c ys w w2 Ha.out HCa.out (hI.low (K0.out.1.trans Kw2.out.1) hA) hc hA (hl.low (K0.out.1.trans Kw2.out.1) hR) hR hBw (K0.out.1.trans Kw2.out.1) (K0.out.2.trans Kw2.out.2.1) hn hlen hm _ _ _ _ _ _ _ _ _ _ _ _ _ _ _ _ _ _ _ _ _ _ _ _ _ _ _ _ _ _ _ _ _ _ _ _ _ _ _ _ _ _ _ _ _ _ _ _ _ _ _ _
 by_cases k6 : k = 6
 · have g1 : k = 1 ∨ k = 6 := .inr k6;have g5 : 5 ≤ k := by omega
   have g4 : 4 ≤ k := by omega
   have i1 : ((k : Int) == 1) = false := by simp; omega
   have i6 : ((k : Int) == 6) = true := by simp; omega
   have i5 : 5 ≤ (k : Int) := by omega
   have i4 : 4 ≤ (k : Int) := by omega
   clear k1 k6;go_upto_region 2 with (fail);go_wp2_with fail;refine (DClear_any x (st).t w1 H.out.z H.out.b.2).mono ?_;rintro e w2 ⟨rfl, tbw2, hz, hf⟩;obtain ⟨hx, hk⟩ := lx_to H.out hz hf ⟨rfl, rfl, rfl⟩ (.inr rfl) ((st).clr) ⟨rfl, rfl, rfl, rfl, rfl, rfl, Nat.zero_le _⟩;clear hz hf;have Ha := Lib.hid hx;have HCa := Lib.hid (hk.2.2 _ _ HC.out);have Kw2 := Lib.hid hk;clear hx hk cd c0;have cd := Ha.out.d.one
   have c0 := HCa.out.cell 0;have c3 := HCa.out.cell 3;have c4 := HCa.out.cell 4;have c5 := HCa.out.cell 5;obtain ⟨p0, p1, p2⟩ := Ha.out.p.three;have f0 := Ha.out.p.frozen 0;have f1 := Ha.out.p.frozen 1;have f2 := Ha.out.p.frozen 2;obtain ⟨w3, hw3⟩ : ∃ z, ((w2.setCell ⟨Pp, 0, none⟩ (.int .i64 lc)).setCell ⟨Pp, 1, none⟩ (.int .i64 lp)).setCell ⟨Pp, 2, none⟩ (.int .i64 pb) = z := ⟨_, rfl⟩;have hf : Fr (fun k => k = Pp) w2 w3 := by rw [← hw3]; exact Fr.set1 (Fr.set1 (Fr.set1 (Fr.refl _ _) 0 _) 1 _) 2 _
   have hp : Blk w3 Pp 24 #[.int .i64 lc, .int .i64 lp, .int .i64 pb] := by rw [← hw3]; exact ((Ha.out.p.set_ 0 _).set_ 1 _).set_ 2 _
   obtain ⟨hx, hk⟩ := lx_prop Ha.out ⟨k, n, p, lc, lp, pb⟩ (HX.out.2.2.2.2.2.2.2.2.2 (by omega)) hf hp
   have HQ := Lib.hid hw3;clear hf hp hw3;go_upto_region 5 with (fail);rw [HQ.out];clear c3 c4 c5 p0 p1 p2 f0 f1 f2;have Haa := Lib.hid hx;have HCaa := Lib.hid (hk.2.2 _ _ HCa.out);have Kw3 := Lib.hid (Kw2.out.trans hk);clear hx hk cd c0;have cd := Haa.out.d.one;have c0 := HCaa.out.cell 0;go_upto_region 6 with (fail);have hP : Blk w3 Pp 24 #[.int .i64 lc, .int .i64 lp, .int .i64 pb] := Haa.out.p;obtain ⟨p0, p1, p2⟩ := hP.three
   clear hP;go_wp2_with fail;refine (DReset_any (x.clr tbw2) (((st).clr).prop ⟨k, n, p, lc, lp, pb⟩).t lc lp pb w3 Haa.out.z Haa.out.pl.1 Haa.out.pl.2 Haa.out.b.2).mono ?_;rintro e w4 ⟨rfl, tbw4, hz, hf⟩;obtain ⟨hx, hk⟩ := lx_to Haa.out hz (hf.mono fun _ _ e => .inl e) ⟨rfl, rfl, rfl⟩ (.inl rfl) ((((st).clr).prop ⟨k, n, p, lc, lp, pb⟩).rst) ⟨Haa.out.a, rfl, rfl, rfl, rfl, rfl, Haa.out.al⟩
   clear hz hf p0 p1 p2;have Haaa := Lib.hid hx;have HCaaa := Lib.hid (hk.2.2 _ _ HCaa.out);have Kw4 := Lib.hid (Kw3.out.trans hk);clear hx hk cd c0;have cd := Haaa.out.d.one;have c0 := HCaaa.out.cell 0;go_simp;go_step;go_step;go_step;go_step;obtain ⟨hI, hc, hA, hl, hR, hBw, hn, hlen, hm, _⟩ := HX.out;have hF : chunkF dict ⟨k, n, p, lc, lp, pb⟩ ys st = chunkR dict ⟨k, n, p, lc, lp, pb⟩ ys ((((st).clr).prop ⟨k, n, p, lc, lp, pb⟩).rst) := by simp [chunkF, lst1, lst2, lst3, g1, g5, g4]
   rw [hF];exact tail7 B O Fo Dp Pp dict C Ao co _ ((((st).clr).prop ⟨k, n, p, lc, lp, pb⟩).rst) k n p lc lp pb A m c ys w w4 Haaa.out HCaaa.out (hI.low (K0.out.1.trans Kw4.out.1) hA) hc hA (hl.low (K0.out.1.trans Kw4.out.1) hR) hR hBw (K0.out.1.trans Kw4.out.1) (K0.out.2.trans Kw4.out.2.1) hn hlen hm _ _ _ _ _ _ _ _ _ _ _ _ _ _ _ _ _ _ _ _ _ _ _ _ _ _ _ _ _ _ _ _ _ _ _ _ _ _ _ _ _ _ _ _ _ _ _ _ _ _ _ _
 have g1 : ¬ (k = 1 ∨ k = 6) := by omega
 have i1 : ((k : Int) == 1) = false := by simp; omega
 have i6 : ((k : Int) == 6) = false := by simp; omega
 clear k1 k6;by_cases g5 : 5 ≤ k
 · have g4 : 4 ≤ k := by omega
   have i5 : 5 ≤ (k : Int) := by omega
   have i4 : 4 ≤ (k : Int) := by omega
   have c3 := HC.out.cell 3;have c4 := HC.out.cell 4;have c5 := HC.out.cell 5;obtain ⟨p0, p1, p2⟩ := H.out.p.three;have f0 := H.out.p.frozen 0;have f1 := H.out.p.frozen 1;have f2 := H.out.p.frozen 2;obtain ⟨w2, hw2⟩ : ∃ z, ((w1.setCell ⟨Pp, 0, none⟩ (.int .i64 lc)).setCell ⟨Pp, 1, none⟩ (.int .i64 lp)).setCell ⟨Pp, 2, none⟩ (.int .i64 pb) = z := ⟨_, rfl⟩;have hf : Fr (fun k => k = Pp) w1 w2 := by rw [← hw2]; exact Fr.set1 (Fr.set1 (Fr.set1 (Fr.refl _ _) 0 _) 1 _) 2 _
   have hp : Blk w2 Pp 24 #[.int .i64 lc, .int .i64 lp, .int .i64 pb] := by rw [← hw2]; exact ((H.out.p.set_ 0 _).set_ 1 _).set_ 2 _
   obtain ⟨hx, hk⟩ := lx_prop H.out ⟨k, n, p, lc, lp, pb⟩ (HX.out.2.2.2.2.2.2.2.2.2 (by omega)) hf hp
   have HQ := Lib.hid hw2;clear hf hp hw2;go_upto_region 5 with (fail);rw [HQ.out];clear c3 c4 c5 p0 p1 p2 f0 f1 f2;have Ha := Lib.hid hx;have HCa := Lib.hid (hk.2.2 _ _ HC.out);have Kw2 := Lib.hid hk;clear hx hk cd c0;have cd := Ha.out.d.one;have c0 := HCa.out.cell 0;go_upto_region 6 with (fail);have hP : Blk w2 Pp 24 #[.int .i64 lc, .int .i64 lp, .int .i64 pb] := Ha.out.p;obtain ⟨p0, p1, p2⟩ := hP.three
   clear hP;go_wp2_with fail;refine (DReset_any x ((st).prop ⟨k, n, p, lc, lp, pb⟩).t lc lp pb w2 Ha.out.z Ha.out.pl.1 Ha.out.pl.2 Ha.out.b.2).mono ?_;rintro e w3 ⟨rfl, tbw3, hz, hf⟩;obtain ⟨hx, hk⟩ := lx_to Ha.out hz (hf.mono fun _ _ e => .inl e) ⟨rfl, rfl, rfl⟩ (.inl rfl) (((st).prop ⟨k, n, p, lc, lp, pb⟩).rst) ⟨Ha.out.a, rfl, rfl, rfl, rfl, rfl, Ha.out.al⟩
   clear hz hf p0 p1 p2;have Haa := Lib.hid hx;have HCaa := Lib.hid (hk.2.2 _ _ HCa.out);have Kw3 := Lib.hid (Kw2.out.trans hk);clear hx hk cd c0;have cd := Haa.out.d.one;have c0 := HCaa.out.cell 0;go_simp;go_step;go_step;go_step;go_step;obtain ⟨hI, hc, hA, hl, hR, hBw, hn, hlen, hm, _⟩ := HX.out;have hF : chunkF dict ⟨k, n, p, lc, lp, pb⟩ ys st = chunkR dict ⟨k, n, p, lc, lp, pb⟩ ys (((st).prop ⟨k, n, p, lc, lp, pb⟩).rst) := by simp [chunkF, lst1, lst2, lst3, g1, g5, g4]
   rw [hF];exact tail7 B O Fo Dp Pp dict C Ao co _ (((st).prop ⟨k, n, p, lc, lp, pb⟩).rst) k n p lc lp pb A m c ys w w3 Haa.out HCaa.out (hI.low (K0.out.1.trans Kw3.out.1) hA) hc hA (hl.low (K0.out.1.trans Kw3.out.1) hR) hR hBw (K0.out.1.trans Kw3.out.1) (K0.out.2.trans Kw3.out.2.1) hn hlen hm _ _ _ _ _ _ _ _ _ _ _ _ _ _ _ _ _ _ _ _ _ _ _ _ _ _ _ _ _ _ _ _ _ _ _ _ _ _ _ _ _ _ _ _ _ _ _ _ _ _ _ _
 have i5 : ¬ 5 ≤ (k : Int) := by omega
 by_cases g4 : 4 ≤ k
 · have i4 : 4 ≤ (k : Int) := by omega
   go_upto_region 6 with (fail);have hP : Blk w1 Pp 24 #[.int .i64 (st).lc, .int .i64 (st).lp, .int .i64 (st).pb] := H.out.p;obtain ⟨p0, p1, p2⟩ := hP.three;clear hP;go_wp2_with fail;refine (DReset_any x (st).t (st).lc (st).lp (st).pb w1 H.out.z H.out.pl.1 H.out.pl.2 H.out.b.2).mono ?_;rintro e w2 ⟨rfl, tbw2, hz, hf⟩;obtain ⟨hx, hk⟩ := lx_to H.out hz (hf.mono fun _ _ e => .inl e) ⟨rfl, rfl, rfl⟩ (.inl rfl) ((st).rst) ⟨H.out.a, rfl, rfl, rfl, rfl, rfl, H.out.al⟩
   clear hz hf p0 p1 p2;have Ha := Lib.hid hx;have HCa := Lib.hid (hk.2.2 _ _ HC.out);have Kw2 := Lib.hid hk;clear hx hk cd c0;have cd := Ha.out.d.one;have c0 := HCa.out.cell 0;go_simp;go_step;go_step;go_step;go_step;obtain ⟨hI, hc, hA, hl, hR, hBw, hn, hlen, hm, _⟩ := HX.out;have hF : chunkF dict ⟨k, n, p, lc, lp, pb⟩ ys st = chunkR dict ⟨k, n, p, lc, lp, pb⟩ ys ((st).rst) := by simp [chunkF, lst1, lst2, lst3, g1, g5, g4]
   rw [hF];exact tail7 B O Fo Dp Pp dict C Ao co _ ((st).rst) k n p lc lp pb A m c ys w w2 Ha.out HCa.out (hI.low (K0.out.1.trans Kw2.out.1) hA) hc hA (hl.low (K0.out.1.trans Kw2.out.1) hR) hR hBw (K0.out.1.trans Kw2.out.1) (K0.out.2.trans Kw2.out.2.1) hn hlen hm _ _ _ _ _ _ _ _ _ _ _ _ _ _ _ _ _ _ _ _ _ _ _ _ _ _ _ _ _ _ _ _ _ _ _ _ _ _ _ _ _ _ _ _ _ _ _ _ _ _ _ _
 have i4 : ¬ 4 ≤ (k : Int) := by omega
 go_upto_if 28 with (fail)
 go_step;go_step;go_step;go_step;obtain ⟨hI, hc, hA, hl, hR, hBw, hn, hlen, hm, _⟩ := HX.out;have hF : chunkF dict ⟨k, n, p, lc, lp, pb⟩ ys st = chunkR dict ⟨k, n, p, lc, lp, pb⟩ ys (st) := by simp [chunkF, lst1, lst2, lst3, g1, g5, g4]
 rw [hF];exact tail7 B O Fo Dp Pp dict C Ao co _ (st) k n p lc lp pb A m c ys w w1 H.out HC.out (hI.low K0.out.1 hA) hc hA (hl.low K0.out.1 hR) hR hBw K0.out.1 K0.out.2 hn hlen hm _ _ _ _ _ _ _ _ _ _ _ _ _ _ _ _ _ _ _ _ _ _ _ _ _ _ _ _ _ _ _ _ _ _ _ _ _ _ _ _ _ _ _ _ _ _ _ _ _ _ _ _
end Go.Proofs.YtcjehjdehdoaeaaGreatDoor
namespace Go.Proofs.YtcjehjdehdoaeaaGreatDoor
open Go.RowKit
theorem ck_ok (l : List UInt8) (he : (ckF l).e = 0) : (ckF l).c.k ≤ 6 ∧ (5 ≤ (ckF l).c.k → (ckF l).c.lc + (ckF l).c.lp ≤ 4 ∧ (ckF l).c.pb ≤ 4) ∧ ((ckF l).c.k < 3 → (ckF l).c.n = (ckF l).c.p) ∧ ((ckF l).c.k < 3 ∨ (1 ≤ (ckF l).c.n ∧ (ckF l).c.n ≤ 2097152)) := by
 cases l with
 | nil => simp [ckF] at he
 | cons f t =>
  have h1 : hi2 (f :: t) 1 ≤ 65535 := by unfold hi2; have := ((f :: t).getD 1 0).toNat_lt; have := ((f :: t).getD (1 + 1) 0).toNat_lt; omega
  have hf := f.toNat_lt;have hg := ((f :: t).getD 5 0).toNat_lt;obtain ⟨z, hz⟩ : ∃ z, hi2 (f :: t) 1 = z := ⟨_, rfl⟩;rw [hz] at h1;unfold ckF at he ⊢;simp only [hz] at he ⊢;by_cases c0 : f.toNat = 0
  · rw [if_pos c0]; simp [Ck.zero]
  rw [if_neg c0] at he ⊢;by_cases c1 : f.toNat ≤ 2
  · rw [if_pos c1] at he ⊢;split at he
    · simp at he
    · rename_i c2;rw [if_neg c2];refine ⟨?_, fun h => absurd h ?_, fun _ => rfl, .inl ?_⟩ <;> simp only [] <;> omega
  rw [if_neg c1] at he ⊢;by_cases c2 : f.toNat < 128
  · rw [if_pos c2] at he; simp at he
  rw [if_neg c2] at he ⊢;by_cases c3 : (f :: t).length ≤ 4
  · rw [if_pos c3] at he; simp at he
  rw [if_neg c3] at he ⊢;by_cases c4 : 5 ≤ 3 + (f.toNat - 128) / 32
  · rw [if_pos c4] at he ⊢;unfold ckProps at he ⊢;by_cases c5 : (f :: t).length ≤ 5
    · rw [if_pos c5] at he; simp at he
    rw [if_neg c5] at he ⊢;by_cases c6 : okN ((f :: t).getD 5 0).toNat
    · rw [if_pos c6];unfold okN at c6;refine ⟨?_, fun _ => ⟨?_, ?_⟩, fun h => absurd h ?_, .inr ⟨?_, ?_⟩⟩ <;> simp only [] <;> omega
    · rw [if_neg c6] at he; simp at he
  · rw [if_neg c4];refine ⟨?_, fun h => absurd h ?_, fun h => absurd h ?_, .inr ⟨?_, ?_⟩⟩ <;> simp only [] <;> omega
theorem nextF_plain (l : List UInt8) (packed size : Int) (s : RwS) (_ : (nextF l packed size s).e = 0) : (nextF l packed size s).s.plain = s.plain + (nextF l packed size s).c.n := by
 unfold nextF nextC NxR.no
 (repeat' split) <;> rfl
theorem lst_out (c : Ck) (st : Lst) : (lst3 c (lst2 c (lst1 c st))).out = st.out := by
 unfold lst3 lst2 lst1
 (repeat' split) <;> rfl
theorem chunkF_len {dict : Nat} {c : Ck} {ys : List UInt8} {st st' : Lst} (h : chunkF dict c ys st = some st') (hk : c.k < 3 → ys.length = c.n) : st'.out.length = st.out.length + c.n := by
 have ho := lst_out c st;unfold chunkF chunkR at h;by_cases k : c.k < 3
 · rw [if_pos k] at h;injection h with h;rw [← h];show (_ ++ ys).length = _;rw [List.length_append, ho, hk k]
 · rw [if_neg k] at h;split at h
   · simp at h
   · rename_i t o hq;injection h with h;rw [← h];show (_ ++ o).length = _;rw [List.length_append, ho, takeQ_len _ _ _ _ _ hq]
section
variable {B O Fo Dp Pp dict : Nat} {Ao : Option Addr} {co : Nat} {x : RsX} {st : Lst} {w w' : World}
theorem lx_row (h : Lx B O Fo Dp Pp dict Ao co x st w) {S : Nat → Prop} (hf : Fr S w w') (hS : ∀ {g : Nat} {t : TypeId}, BT w g t → t ≠ 353 → t ≠ 363 → ¬ S g) : Lx B O Fo Dp Pp dict Ao co x st w' :=
 ⟨h.ou.fr hf (hS ⟨_, h.ou.b⟩ (by decide) (by decide)) (fun g hg => hS (own_bt h.ou.r hg) (by decide) (by decide)), h.nr, h.f.fr hf (hS ⟨_, h.f⟩ (by decide) (by decide)), h.d.fr hf (hS ⟨_, h.d⟩ (by decide) (by decide)), h.p.fr hf (hS ⟨_, h.p⟩ (by decide) (by decide)),
  h.z.fr hf (fun g hg => hS hg (by decide) (by decide)) (fun g hg => hS hg (by decide) (by decide)) (fun g hg => hS hg (by decide) (by decide)) (fun g hg => hS hg (by decide) (by decide)) (fun g hg => hS hg (by decide) (by decide)) (fun g hg => hS (h.z.v.bt.2 g hg) (by decide) (by decide)),
  h.s, h.a, ⟨h.b.1, Nat.le_trans h.b.2 hf.size⟩, h.g, h.pl, h.al⟩
end
structure RdI (B O Fo Dp Pp dict : Nat) (xr : RwX) (w0 : World) (s : RwS) (st : Lst) (w : World) : Prop where
 r : Rw xr s w
 x : ∃ Ao co x, Lx B O Fo Dp Pp dict Ao co x st w
 b : Below B w0 w
 o : st.out.length = s.plain
 p : s.plain ≤ s.at_ * 2097152
def RdPost (B O Fo Dp Pp dict : Nat) (R : RowR) (w : World) (e : Ending) (w' : World) : Prop :=
 Below B w w' ∧ e = .returned (.tuple #[.int .i64 R.n, .int .i64 R.e]) ∧ (R.e = 0 → ∃ Ao co x st, Lx B O Fo Dp Pp dict Ao co x st w' ∧ st.out = R.out)
def atOf (b : Nat) (w : World) : Nat := match w.cell? ⟨b, 1, none⟩ with
 | some v => (intOf v).toNat
 | none => 0
theorem read_any (B O Fo Dp Pp dict : Nat) (Ao : Option Addr) (co : Nat) (x : RsX) (A : Option Addr) (m c : Nat) (l : List UInt8) (packed size : Int) (w : World) (h : Lx B O Fo Dp Pp dict Ao co x .start w)
 (hI : In w A m l) (hc : m ≤ c) (hA : ∀ ad, A = some ad → ad.block < B) (hl : Laid w) (hM : LaidM w) (hR : 16 < B) (hMB : 17 < B) (hm : m ≤ 1048576) :
 Calls Tryz.prog 172 #[.slice A m c, .int .i64 packed, .int .i64 size, .func (.func 173) #[] #[.pointer (some ⟨Dp, 0, none⟩), .pointer (some ⟨Pp, 0, none⟩), .pointer (some ⟨Fo, 0, none⟩)]] w (RdPost B O Fo Dp Pp dict (rowF l dict packed size) w) := by
 obtain ⟨R0, hR0⟩ : ∃ R, w.heap.size = R := ⟨_, rfl⟩;obtain ⟨w1, hw1⟩ : ∃ z, w.alloc (.cells #[.int .i64 0] 363) = z := ⟨_, rfl⟩;obtain ⟨D, hD⟩ : ∃ z, w1.heap.size = z := ⟨_, rfl⟩;obtain ⟨w2, hw2⟩ : ∃ z, w1.alloc (.cells #[.slice A m c, .int .i64 0, .int .i64 0, .int .i64 packed, .int .i64 size, .pointer (some ⟨R0, 0, none⟩)] 353) = z := ⟨_, rfl⟩;have hDR : D = R0 + 1 := by rw [← hD, ← hw1, ← hR0]; simp
 have hb2 : Below w.heap.size w w2 := by rw [← hw2, ← hw1]; exact ((Below.refl _ _).alloc (Nat.le_refl _) _).alloc (by simp) _
 have hBw : B ≤ w.heap.size := Nat.le_trans h.b.1 h.b.2;have hlm : l.length = m := hI.len;have h2 : RdI B O Fo Dp Pp dict ⟨D, R0, A, c, l, packed, size⟩ w .start .start w2 := by
  refine ⟨⟨?_, ?_, ?_, ?_, Nat.zero_le _, Nat.zero_le _, by decide, ?_, ?_⟩, ⟨Ao, co, x, lx_below h hb2⟩, hb2.mono hBw, rfl, Nat.zero_le _⟩
  · rw [← hw2]; show Blk _ D _ #[.slice A l.length c, _, _, _, _, _]; rw [hlm]; exact Blk.new_at hD.symm
  · rw [← hw2, ← hw1]; exact (Blk.new_at hR0.symm).alloc _
  · show In w2 A l.length l; rw [hlm]; exact hI.below hb2
  · show l.length ≤ c; omega
  · intro ad e _; have := hA ad e; show ad.block ≠ D ∧ ad.block ≠ R0; omega
  · show l.length ≤ _; omega
 have hfuel : l.length < (l.length + 1) + RwS.start.at_ := by show l.length < l.length + 1 + 0; omega
 have hgo : rowGo l packed size dict (l.length + 1) .start .start = rowF l dict packed size := rfl;obtain ⟨RR, hRR⟩ : ∃ z, rowF l dict packed size = z := ⟨_, rfl⟩;rw [hRR] at hgo ⊢;have HW := Lib.hid hw1;have HW2 := Lib.hid hw2;have HDD := Lib.hid hD;have HJ := Lib.hid (And.intro h2 (And.intro hfuel hgo));have HX := Lib.hid (And.intro hA (And.intro hl (And.intro hM (And.intro hR (And.intro hMB (And.intro hBw (And.intro hlm (And.intro hm (And.intro hc (And.intro hR0 hDR))))))))))
 have HI := Lib.hid hI;clear hw1 hw2 hD hA hl hM hR hMB hBw hlm hm hc hR0 hDR hI h hb2 h2 hfuel hgo hRR;go_enter Tryz.func172, Tryz.ntmps172;go_wp2_with fail;refine (NewOrder_any w).mono ?_;rintro e wz ⟨rfl, rfl⟩;rw [HX.out.2.2.2.2.2.2.2.2.2.1, HW.out];go_wp2_with (fail);rw [HW2.out, HDD.out]
 go_loopw [] (fun wr => Hid (∃ s st f, RdI B O Fo Dp Pp dict ⟨D, R0, A, c, l, packed, size⟩ w s st wr ∧ l.length < f + s.at_ ∧ rowGo l packed size dict f s st = RR)) (fun wr => m + 1 - atOf D wr)
 case atStart => exact Lib.hid ⟨_, _, _, HJ.out⟩
 case round =>
  obtain ⟨s, st, f, hj, hf, hg⟩ := hrel.out;obtain ⟨a0, a1, a2, a3, a4, a5⟩ := hj.r.six;have HE := Lib.hid (Ended_any R0 s.ord wr hj.r.o);have HJ2 := Lib.hid (And.intro hj (And.intro hf hg));clear hj hf hg hrel HJ;by_cases h3 : s.ord = 3
  · have hd := decide_eq_true h3;go_wp2_with fail;refine HE.out.mono ?_;rintro e wz ⟨rfl, hwz⟩;rw [hd, hwz];clear hwz;go_wp2_with fail;refine bodyPost_ret (v := .tuple #[.int .i64 s.at_, .int .i64 0]) (by simp [results, Tryz.results172, go_sem]) rfl ?_
    obtain ⟨hj, hf, hg⟩ := HJ2.out;have hRR : RR = ⟨s.at_, 0, st.out⟩ := by
     rw [← hg];cases f with
     | zero => have := hj.r.i; simp only [] at this; omega
     | succ f => unfold rowGo; rw [if_pos h3]
    rw [hRR];obtain ⟨Ao, co, x, hx⟩ := hj.x;exact ⟨hj.b, rfl, fun _ => ⟨Ao, co, x, st, hx, rfl⟩⟩
  · have hd := decide_eq_false h3;have HNX : Hid (Calls Tryz.prog 194 #[.pointer (some ⟨D, 0, none⟩)] wr (NxPost ⟨D, R0, A, c, l, packed, size⟩ (nextF l packed size s) wr)) := by
     obtain ⟨hj, hf, hg⟩ := HJ2.out;obtain ⟨hA, hl, hM, hR, hMB, hBw, hlm, hm, hc, hR0, hDR⟩ := HX.out;have h1 := hj.r.i;have h2 := hj.p;simp only [] at h1;exact Lib.hid (next_row ⟨D, R0, A, c, l, packed, size⟩ s wr hj.r (hM.low hj.b hMB) (by omega))
    go_wp2_with fail;refine HE.out.mono ?_;rintro e wz ⟨rfl, hwz⟩;rw [hd, hwz];clear hwz;go_wp2_with fail;refine HNX.out.mono ?_;rintro e w3 ⟨hf3, hR3⟩;have hok := nextF_ok l packed size s (by have := HJ2.out.1.r.i; exact this)
    have hg2 : ∃ f', f = f' + 1 ∧ (if (nextF l packed size s).e ≠ 0 then ⟨(nextF l packed size s).pl, (nextF l packed size s).e, []⟩ else match chunkF dict (nextF l packed size s).c ((l.drop (nextF l packed size s).fr).take (nextF l packed size s).c.p) st with
     | none => ⟨(nextF l packed size s).pl, 2, []⟩
     | some st' => rowGo l packed size dict f' (nextF l packed size s).s st') = RR := by
     obtain ⟨hj, hf, hg⟩ := HJ2.out;cases f with
     | zero => have := hj.r.i; simp only [] at this; omega
     | succ f =>
      refine ⟨f, rfl, ?_⟩;unfold rowGo at hg;rw [if_neg h3] at hg;exact hg
    obtain ⟨f', hf', hg2⟩ := hg2;obtain ⟨r, hr⟩ : ∃ r, nextF l packed size s = r := ⟨_, rfl⟩;rw [hr] at hok hg2 hR3;have hb3 : Below B wr w3 := hf3.below (by have := HX.out.2.2.2.2.2.1; have := HJ2.out.1.b.size; omega) (fun k e => by
     obtain ⟨hA, hl, hM, hR, hMB, hBw, hlm, hm, hc, hR0, hDR⟩ := HX.out;rcases e with e | e <;> simp only [] at e <;> omega)
    by_cases he : r.e = 0
    · rw [if_pos he] at hR3;rw [if_neg (by omega : ¬ r.e ≠ 0)] at hg2
      obtain ⟨A', c', he3, hI3, hc3, hA3, hrw⟩ := hR3;simp only [] at hI3 hA3;subst he3;obtain ⟨n1, n2, n3, n4, n5, n6⟩ := hok he;obtain ⟨ho, hpl⟩ : st.out.length = s.plain ∧ s.plain ≤ s.at_ * 2097152 := ⟨HJ2.out.1.o, HJ2.out.1.p⟩;have hbd := ckF_bd (l.drop s.at_);have hck := ck_ok (l.drop s.at_) n6;rw [← n4] at hbd hck;have hpart : ((l.drop r.fr).take r.c.p).length = r.c.p := hI3.len;have hpl2 : r.s.plain = s.plain + r.c.n := by
       have := nextF_plain l packed size s (by rw [hr]; exact he)
       rw [hr] at this;exact this
      obtain ⟨part, hpt⟩ : ∃ z, (l.drop r.fr).take r.c.p = z := ⟨_, rfl⟩;rw [hpt] at hI3 hg2 hpart;obtain ⟨Ao1, co1, x1, hx1⟩ := HJ2.out.1.x;have hx3 : Lx B O Fo Dp Pp dict Ao1 co1 x1 st w3 := lx_row hx1 hf3 (fun {g t} hg h1 h2 e => by
       rcases e with e | e
       · exact BT.ne hg ⟨_, HJ2.out.1.r.b⟩ h1 e
       · exact BT.ne hg ⟨_, HJ2.out.1.r.o⟩ h2 e)
      have hb13 : Below B w w3 := HJ2.out.1.b.trans hb3;obtain ⟨cc, hcc⟩ : ∃ z, r.c = z := ⟨_, rfl⟩;rw [hcc] at hI3 hc3 hpart hbd hck hpl2 hg2 n2;rw [hcc];obtain ⟨ck, cn, cp, c3, c4, c5⟩ := cc;simp only [] at hI3 hc3 hpart hbd hck hpl2 n2;rw [show (⟨ck, cn, cp, c3, c4, c5⟩ : Ck).cs = #[.int .i64 ck, .int .i64 cn, .int .i64 cp, .int .i64 c3, .int .i64 c4, .int .i64 c5] from rfl]
      rw [show (⟨ck, cn, cp, c3, c4, c5⟩ : Ck).p = cp from rfl]
      have HU : Hid (∀ w4, Below w3.heap.size w3 w4 → Calls Tryz.prog 173 #[.agg #[.int .i64 ck, .int .i64 cn, .int .i64 cp, .int .i64 c3, .int .i64 c4, .int .i64 c5], .slice A' cp c', .pointer (some ⟨Dp, 0, none⟩), .pointer (some ⟨Pp, 0, none⟩), .pointer (some ⟨Fo, 0, none⟩)] w4 (UnPost B O Fo Dp Pp dict (chunkF dict ⟨ck, cn, cp, c3, c4, c5⟩ part st) w4)) := by
       obtain ⟨hA, hl, hM, hR, hMB, hBw, hlm, hm, hc, hR0, hDR⟩ := HX.out;have hi := HJ2.out.1.r.i;simp only [] at hi;refine Lib.hid (fun w4 hb4 => ?_)
       have hb14 : Below B w w4 := hb13.trans (hb4.mono (by have := hb13.size; omega))
       refine un1_any B O Fo Dp Pp dict Ao1 co1 x1 st ck cn cp c3 c4 c5 A' cp c' part w4 (lx_below hx3 hb4) (hI3.below hb4) hc3 (fun ad e => ?_) (hl.low hb14 hR) hR hck.1 hck.2.1 hck.2.2.2 (by omega) hbd.2.1
       obtain ⟨a0, h0, h1⟩ := hA3 ad e;rw [h1];exact hA a0 h0
      have HRW := Lib.hid hrw;have HG := Lib.hid hg2;have HBD := Lib.hid (And.intro hb13 (And.intro hb3 (And.intro hbd (And.intro hck (And.intro hpart (And.intro hpl2 (And.intro ho (And.intro hpl (And.intro n1 (And.intro n2 (And.intro n3 (And.intro hf' hcc))))))))))));have HT := Lib.hid (fun st' => chunkF_len (dict := dict) (c := ⟨ck, cn, cp, c3, c4, c5⟩) (ys := part) (st := st) (st' := st'))
      obtain ⟨C, hC⟩ : ∃ z, w3.heap.size = z := ⟨_, rfl⟩;obtain ⟨w4, hw4⟩ : ∃ z, w3.alloc (.cells #[.int .i64 ck, .int .i64 cn, .int .i64 cp, .int .i64 c3, .int .i64 c4, .int .i64 c5] 223) = z := ⟨_, rfl⟩;have HB4 : Hid (Below w3.heap.size w3 w4) := by rw [← hw4]; exact Lib.hid ((Below.refl _ _).alloc (Nat.le_refl _) _)
      have hk : Blk w4 C 223 #[.int .i64 ck, .int .i64 cn, .int .i64 cp, .int .i64 c3, .int .i64 c4, .int .i64 c5] := by rw [← hw4]; exact Blk.new_at hC.symm
      have b0 := hk.cell 0;have b1 := hk.cell 1;have b2 := hk.cell 2;have b3 := hk.cell 3;have b4 := hk.cell 4;have b5 := hk.cell 5;have HC := Lib.hid hC;have HW4 := Lib.hid hw4;clear he hok hf3 hb3 hr a0 a1 a2 a3 a4 a5 HNX HE h3 hd hC hw4 hk hrw hg2 hb13 hbd hck hpart hpl2 ho hpl n1 n2 n3 n4 n5 n6 hf' hcc hx1 hx3 hI3 hc3 hA3 hpt;go_upto_region 4 with (fail);rw [HC.out];rw [HW4.out];go_wp2_with fail
      refine (HU.out w4 HB4.out).mono ?_;rintro e w5 ⟨hb5, hk5, hR5⟩;have hBs : B ≤ w3.heap.size := by have := HX.out.2.2.2.2.2.1; have := HBD.out.1.size; omega
      have hb35 := (HB4.out.mono hBs).trans hb5;cases hcF : chunkF dict ⟨ck, cn, cp, c3, c4, c5⟩ part st with
      | none =>
       rw [hcF] at hR5;have hg3 := HG.out;rw [hcF] at hg3;simp only [] at hR5 hg3;subst hR5;have HG3 := Lib.hid hg3;have HB5 := Lib.hid (HBD.out.1.trans hb35);clear hcF hb5 hk5 hBs hb35 hg3 b0 b1 b2 b3 b4 b5;go_wp2_with fail;refine bodyPost_ret (v := .tuple #[.int .i64 r.pl, .int .i64 2]) (by simp [results, Tryz.results172, go_sem]) rfl ?_
       rw [← HG3.out];exact ⟨HB5.out, rfl, fun h => by simp at h⟩
      | some st' =>
       rw [hcF] at hR5;have hg3 := HG.out;rw [hcF] at hg3;simp only [] at hR5 hg3;obtain ⟨he5, Ao5, co5, x5, hx5⟩ := hR5;subst he5;obtain ⟨d1, d2, hbd, hck, hpart, hpl2, ho, hpl, n1, n2, n3, hf', hcc⟩ := HBD.out;have hout := HT.out st' hcF (fun h => by show part.length = cn; rw [hpart]; exact (hck.2.2.1 h).symm)
       have hrw5 : Rw ⟨D, R0, A, c, l, packed, size⟩ r.s w5 := by
        obtain ⟨hA, hl, hM, hR, hMB, hBw, hlm, hm, hc, hR0, hDR⟩ := HX.out;have k := HRW.out.below HB4.out;exact ⟨hk5.1 _ _ k.b, hk5.2 _ _ k.o, k.d.low hb5 hA, k.c, k.i, k.p, k.r, k.n, k.z⟩
       have hat1 : atOf D w5 = r.s.at_ := by
        unfold atOf;rw [show w5.cell? ⟨D, 1, none⟩ = some (.int .i64 r.s.at_) from hrw5.b.cell 1]
        simp [intOf]
       have hat0 : atOf D wr = s.at_ := by
        unfold atOf;rw [show wr.cell? ⟨D, 1, none⟩ = some (.int .i64 s.at_) from HJ2.out.1.r.b.cell 1]
        simp [intOf]
       have hJ5 : RdI B O Fo Dp Pp dict ⟨D, R0, A, c, l, packed, size⟩ w r.s st' w5 := ⟨hrw5, ⟨Ao5, co5, x5, hx5⟩, HBD.out.1.trans hb35, by rw [hout, hpl2, ho], by rw [hpl2]; have := hbd.2.2; omega⟩
       have HJ5 := Lib.hid hJ5;have HA := Lib.hid (And.intro hat1 hat0);have HG3 := Lib.hid hg3;have HN := Lib.hid (show s.at_ < r.s.at_ ∧ r.s.at_ ≤ m by have := HX.out.2.2.2.2.2.2.1; omega)
       have HF := Lib.hid (show l.length < f' + r.s.at_ by have := HJ2.out.2.1; omega)
       clear hcF hb5 hk5 hBs hb35 hg3 b0 b1 b2 b3 b4 b5 d1 d2 hbd hck hpart hpl2 ho hpl n1 n2 n3 hf' hcc hout hrw5 hat1 hat0 hJ5 hx5;go_wp2_with fail
       go_roundw
       case rel => exact Lib.hid ⟨_, _, _, HJ5.out, HF.out, HG3.out⟩
       case measure => rw [HA.out.1, HA.out.2]; have := HN.out; omega
    · rw [if_neg he] at hR3;rw [if_pos he] at hg2;subst hR3;have HG := Lib.hid hg2;have HB := Lib.hid (HJ2.out.1.b.trans hb3);obtain ⟨en, hen⟩ : ∃ z, r.e = z := ⟨_, rfl⟩;rw [hen] at he hg2;have hne : ((en : Int) == 0) = false := beq_eq_false_iff_ne.2 (by omega)
      have hne2 : ((en : Int) != 0) = true := by rw [bne_iff_ne]; omega
      have HEN := Lib.hid hen;rw [hen];obtain ⟨cz, hcz⟩ : ∃ z : Int, z = 0 := ⟨_, rfl⟩;rw [show Ck.zero.cs = #[.int .i64 cz, .int .i64 cz, .int .i64 cz, .int .i64 cz, .int .i64 cz, .int .i64 cz] from by rw [hcz]; rfl]
      obtain ⟨C, hC⟩ : ∃ z, w3.heap.size = z := ⟨_, rfl⟩;obtain ⟨w4, hw4⟩ : ∃ z, w3.alloc (.cells #[.int .i64 cz, .int .i64 cz, .int .i64 cz, .int .i64 cz, .int .i64 cz, .int .i64 cz] 223) = z := ⟨_, rfl⟩;have HB4 : Hid (Below w3.heap.size w3 w4) := by rw [← hw4]; exact Lib.hid ((Below.refl _ _).alloc (Nat.le_refl _) _)
      have HC := Lib.hid hC;have HW4 := Lib.hid hw4;have HBs := Lib.hid (show B ≤ w3.heap.size by have := HX.out.2.2.2.2.2.1; have := HB.out.size; omega)
      clear hcz hg2 hen he hok hf3 hb3 hr a0 a1 a2 a3 a4 a5 HNX HE h3 hd hC hw4;go_upto_region 4 with (fail);rw [HC.out];rw [HW4.out];go_wp2_with fail;refine bodyPost_ret (v := .tuple #[.int .i64 r.pl, .int .i64 en]) (by simp [results, Tryz.results172, go_sem]) rfl ?_
      rw [← HG.out];exact ⟨HB.out.trans (HB4.out.mono HBs.out), by rw [HEN.out], fun h => by simp only [] at h; have := HEN.out; simp at hne; omega⟩
end Go.Proofs.YtcjehjdehdoaeaaGreatDoor
