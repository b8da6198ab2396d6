/-
  Laws on the way to the claim (OtD). Conditions: those that each theorem states.
-/
import Derived.Test.YtcjehjdehdoaeaaGreatDoorOm38
set_option linter.unusedVariables false
set_option linter.unusedSimpArgs false
set_option maxRecDepth 1000000
set_option maxHeartbeats 16000000
namespace Go.Proofs.YtcjehjdehdoaeaaGreatDoor
open Go.RowKit
structure PE where
 off : Nat
 unp : Nat
 size : Nat
 st : Nat
def peC (p : PE) : List Value := [.int .i64 p.off, .int .i64 p.unp, .int .i64 p.size, .int .i64 p.st]
def pesC (l : List PE) : List Value := l.flatMap peC
def pesR (l : List PE) : List (Nat × Nat) := l.map fun p => (p.unp, p.size)
theorem pesC_get (l : List PE) (i : Nat) (p : PE) (h : l[i]? = some p) : (pesC l)[i * 4]? = some (.int .i64 p.off) ∧ (pesC l)[i * 4 + 1]? = some (.int .i64 p.unp) ∧ (pesC l)[i * 4 + 2]? = some (.int .i64 p.size) ∧ (pesC l)[i * 4 + 3]? = some (.int .i64 p.st) := by
 induction l generalizing i with
 | nil => simp at h
 | cons x t ih =>
  cases i with
  | zero => simp at h; subst h; exact ⟨rfl, rfl, rfl, rfl⟩
  | succ i =>
   simp at h;have h1 := ih i h;have e : pesC (x :: t) = .int .i64 x.off :: .int .i64 x.unp :: .int .i64 x.size :: .int .i64 x.st :: pesC t := rfl;rw [e, show (i + 1) * 4 = i * 4 + 1 + 1 + 1 + 1 by omega]
   exact h1
theorem pesC_snoc (l : List PE) (p : PE) : pesC (l ++ [p]) = pesC l ++ peC p := by simp [pesC]
theorem pes_cell {w : World} {B n c i : Nat} {A : Option Addr} {l : List PE} (h : w.ownsRow B 73 4 (.slice A n c) n (pesC l)) (hl : l.length = n) (hi : i < n) :
 ∃ b p, A = some ⟨b, 0, none⟩ ∧ l[i]? = some p ∧ w.cell? ⟨b, i * 4, none⟩ = some (.int .i64 p.off) ∧ w.cell? ⟨b, i * 4 + 1, none⟩ = some (.int .i64 p.unp) ∧ w.cell? ⟨b, i * 4 + 2, none⟩ = some (.int .i64 p.size) ∧ w.cell? ⟨b, i * 4 + 3, none⟩ = some (.int .i64 p.st) := by
 obtain ⟨p, hp⟩ : ∃ p, l[i]? = some p := ⟨_, List.getElem?_eq_getElem (by omega)⟩
 have hr : Rd w 4 A n (pesC l) := Rd.of_own h;obtain ⟨ad, had, hc⟩ := hr.2 (by omega)
 have hat : ∃ b, ad = ⟨b, 0, none⟩ := by
  rcases h.2 with ⟨hv, _⟩ | ⟨g', cap', cur, hv, _⟩
  · injection hv with h1 h2 h3; rw [had] at h1; cases h1
  · injection hv with h1; rw [had] at h1; injection h1 with h1; exact ⟨_, h1⟩
 obtain ⟨b, rfl⟩ := hat;obtain ⟨g0, g1, g2, g3⟩ := pesC_get l i p hp;have c0 := hc _ _ g0;have c1 := hc _ _ g1;have c2 := hc _ _ g2;have c3 := hc _ _ g3;rw [add_none, Nat.zero_add] at c0 c1 c2 c3;exact ⟨b, p, had, hp, c0, c1, c2, c3⟩
theorem numF_at (f : List UInt8) (a v : Nat) (h : (numF f a v).e = 0) (ha : a ≤ f.length) : a < (numF f a v).at_ ∧ (numF f a v).at_ ≤ f.length := ⟨(numF_take f a v a h ha (Nat.le_refl _)).1, (numF_take f a v a h ha (Nat.le_refl _)).2.1⟩
def IxPost (E : Nat → Addr) (R X : Nat) (C : Nat → Array Value) (w : World) (en : Ending) (w' : World) : Prop :=
 Fr (fun k => k = R) w w' ∧ if X = 0 then ∃ a', en = .returned .nilIface ∧ Blk w' R 71 (C a') else ∃ v, en = .returned v ∧ FV E X v w'
theorem ix_no {E : Nat → Addr} {R X e : Nat} {C : Nat → Array Value} {w w' : World} {v : Value} (hX : X = e) (he : e ≠ 0) (hf : Fr (fun k => k = R) w w') (hv : FV E e v w') : IxPost E R X C w (.returned v) w' := by
 subst hX;refine ⟨hf, ?_⟩;rw [if_neg he];exact ⟨v, rfl, hv⟩
theorem zeros_eq (l : List UInt8) (b g : Nat) (h : ¬ l.length - b < g) : ((zerosF l b g : Nat) : Int) = zerosE ((l.drop b).take g) := by
 unfold zerosF zerosE;rw [if_neg h];split <;> rfl
theorem sidx_any (S : Sums) (hS : S.c32 = crc32) (T Rr : Nat → Int) (E : Nat → Addr) (B R : Nat) (A : Option Addr) (m c a k : Nat) (D : Option Addr) (dn dc : Nat) (P : Option Addr) (n pc Q : Nat) (ps : List PE) (l : List UInt8) (mem : Int) (w : World) (hR : Blk w R 71 (rdrC A m c a k D dn dc P n pc)) (hI : In w A m l) (hc : m ≤ c) (ha : a < m) (hE : LaidX T Rr E B w) (hRB : B ≤ R)
 (hP : w.ownsRow Q 73 4 (.slice P n pc) n (pesC ps)) (hps : ps.length = n) (hpb : ∀ p ∈ ps, p.unp < 9223372036854775808 ∧ p.size < 9223372036854775808) (hm6 : m ≤ 1048576) (hn6 : n ≤ 1048576) (hk : k < 256) :
 Calls Tryz.prog 48 #[.pointer (some ⟨R, 0, none⟩), .int .i64 mem] w (IxPost E R (indexF S l k a (pesR ps)) (fun a' => rdrC A m c a' k D dn dc P n pc) w) := by
 have hlm := hI.len;obtain ⟨X, hX⟩ : ∃ x, indexF S l k a (pesR ps) = x := ⟨_, rfl⟩;rw [hX];unfold indexF at hX;rw [show (pesR ps).length = n by simp [pesR, hps]] at hX
 obtain ⟨⟨c0, c1, c2, c3, c4⟩, ⟨f1, f2, f3, f4⟩⟩ := rdr_cells hR;obtain ⟨a1, ha1⟩ : ∃ x, a + 1 = x := ⟨_, rfl⟩;have wa : IntKind.i64.wrap ((a : Int) + 1) = (a1 : Int) := by rw [IntWalk.i64_in _ (by omega)]; omega
 rw [ha1] at hX;obtain ⟨w1, hw1⟩ : ∃ x, w.setCell ⟨R, 1, none⟩ (.int .i64 a1) = x := ⟨_, rfl⟩;have hf1 : Fr (fun k => k = R) w w1 := by rw [← hw1]; exact Fr.set1 (Fr.refl _ _) 1 _
 have hR1 : Blk w1 R 71 (rdrC A m c a1 k D dn dc P n pc) := by rw [← hw1]; exact hR.set_ 1 _
 have HI := Lib.hid (fun W (hf : Fr (fun k => k = R) w W) => hI.fr hf (fun h0 ad had => in_far hI h0 had hR (rdr_far _ _ _ _ _ _ _ _ _ _ _)))
 have HP := Lib.hid (fun W (hf : Fr (fun k => k = R) w W) => own_fr hP hf (fun g hg e => own_ne hP hR (by decide) (by rw [hg]; exact congrArg some e.symm)))
 have HE := Lib.hid (fun W (hf : Fr (fun k => k = R) w W) => hE.fr hRB hf)
 have HF := Lib.hid (fun off kk w' (hf : Fr (fun k => k = R) w w') h1 h9 => fault_any E off kk w' (hE.fr hRB hf).at_.2.2.2 h1 h9)
 have HNu := Lib.hid (fun W a' want (hf : Fr (fun k => k = R) w W) (hB : Blk W R 71 (rdrC A m c a' k D dn dc P n pc)) (h1 : a' ≤ m) (h2 : want < 9223372036854775808) => snum_any T Rr E B R A m c a' k D dn dc P n pc l want W hB (hI.fr hf (fun h0 ad had => in_far hI h0 had hR (rdr_far _ _ _ _ _ _ _ _ _ _ _))) hc h1 (hE.fr hRB hf) h2)
 have HFo := Lib.hid (fun W a' size (hf : Fr (fun k => k = R) w W) (hB : Blk W R 71 (rdrC A m c a' k D dn dc P n pc)) (h1 : a' ≤ m) => sfoot_any S hS T Rr E B R A m c a' k D dn dc P n pc l size W hB (hI.fr hf (fun h0 ad had => in_far hI h0 had hR (rdr_far _ _ _ _ _ _ _ _ _ _ _))) hc h1 (hE.fr hRB hf) hRB)
 have HX := Lib.hid hX;have HW1 := Lib.hid (And.intro hw1 (And.intro hf1 hR1));have HC := Lib.hid (And.intro hc (And.intro hlm (And.intro hps (And.intro hpb ha1))));have HN1 := Lib.hid (HNu.out w1 a1 n hf1 hR1 (by omega) (by omega))
 have ha1m : a1 ≤ m := by omega
 have hnat := numF_at l a1 n;rw [hlm] at hnat;have hne := numF_err l a1 n;obtain ⟨⟨na, ne⟩, hq⟩ : ∃ x, numF l a1 n = x := ⟨_, rfl⟩;rw [hq] at HN1 HX hnat hne;simp only [] at HN1 HX hnat hne;obtain ⟨⟨d0, d1, d2, d3, d4⟩, ⟨e1, e2, e3, e4⟩⟩ := rdr_cells hR1;clear hI hX hR hE hRB hP hps hpb hw1 hf1 hR1 hlm hq ha1;go_enter Tryz.func48, Tryz.ntmps48;go_upto_region 3 with (fail);rw [HW1.out.1];by_cases h0 : ne = 0
 · subst h0;have hX2 : (if (recsF l (pesR ps) na).e ≠ 0 then (recsF l (pesR ps) na).e else padF S l k a (recsF l (pesR ps) na).at_) = X := by rw [← HX.out, if_neg (show ¬ ((0 : Nat) ≠ 0) from fun h => h rfl)]
   have HX2 := Lib.hid hX2;have hnb := (hnat rfl ha1m);clear hX2 HX hnat hne;go_wp2_with fail;refine HN1.out.mono ?_;rintro e w2 ⟨hf2, he⟩;rw [if_pos rfl] at he;obtain ⟨rfl, hR2⟩ := he;have H2 := Lib.hid (And.intro (HW1.out.2.1.trans hf2) hR2);have hR2' := rdr_cells hR2;obtain ⟨⟨d0, d1, d2, d3, d4⟩, ⟨e1, e2, e3, e4⟩⟩ := hR2';have hab : a < na := by have := HC.out.2.2.2.2; omega
   have hnam : na ≤ m := hnb.2;clear hf2 hR2 hnb;go_wp2_with fail
   go_loopw [42] (fun s42 wr => ∃ i b : Nat, s42 = .int .i64 (i : Int) ∧ i ≤ n ∧ a < b ∧ b ≤ m ∧ Hid (Fr (fun k => k = R) w wr ∧ Blk wr R 71 (rdrC A m c b k D dn dc P n pc) ∧ (if (recsF l ((pesR ps).drop i) b).e ≠ 0 then (recsF l ((pesR ps).drop i) b).e else padF S l k a (recsF l ((pesR ps).drop i) b).at_) = X)) (fun s42 _ => n - (intOf s42).toNat)
   case atStart => exact ⟨0, na, rfl, by omega, hab, hnam, Lib.hid ⟨H2.out.1, H2.out.2, HX2.out⟩⟩
   case round =>
    obtain ⟨i, b, rfl, hi, hab, hbm, hj⟩ := hrel;by_cases hin : i < n
    · have hin' : (i : Int) < (n : Int) := by omega
      obtain ⟨pb, pe, hPb, hpe, p0, p1, p2, p3⟩ := pes_cell (HP.out wr hj.out.1) HC.out.2.2.1 hin;obtain ⟨po, pu, pz, pt⟩ := pe;simp only [] at p0 p1 p2 p3;have hbd := HC.out.2.2.2.1 _ (List.mem_of_getElem? hpe);simp only [] at hbd;have hX3 := hj.out.2.2;have hdr : (pesR ps).drop i = (pu, pz) :: (pesR ps).drop (i + 1) := by
       have hlt : i < (pesR ps).length := by simp [pesR, HC.out.2.2.1]; exact hin
       rw [List.drop_eq_getElem_cons hlt]
       congr 1
       have : (pesR ps)[i]? = some (pu, pz) := by simp [pesR, hpe]
       rw [List.getElem?_eq_getElem hlt] at this;exact Option.some.inj this
      rw [hdr, recsF] at hX3;simp only [] at hX3;obtain ⟨V, hV⟩ : ∃ x, wr.heap.size = x := ⟨_, rfl⟩;obtain ⟨w3, hw3⟩ : ∃ x, wr.alloc (.cells #[.int .i64 po, .int .i64 pu, .int .i64 pz, .int .i64 pt] 73) = x := ⟨_, rfl⟩;have hb3 : Below wr.heap.size wr w3 := by rw [← hw3]; exact (Below.refl _ _).alloc (Nat.le_refl _) _
      have hV3 : Blk w3 V 73 #[.int .i64 po, .int .i64 pu, .int .i64 pz, .int .i64 pt] := by rw [← hw3]; exact Blk.new_at hV.symm
      have hR3 := hj.out.2.1.below hb3;have hf3 := hj.out.1.of_below' hb3;have hN := HNu.out w3 b pu hf3 hR3 hbm hbd.1;have hnat := numF_at l b pu;rw [HC.out.2.1] at hnat;have hne := numF_err l b pu;obtain ⟨⟨qa, qe⟩, hq⟩ : ∃ x, numF l b pu = x := ⟨_, rfl⟩;rw [hq] at hN hX3 hnat hne;simp only [] at hN hX3 hnat hne;have v1 : w3.cell? ⟨V, 1, none⟩ = some (.int .i64 pu) := hV3.cell 1;have HX3 := Lib.hid hX3
      have HN := Lib.hid hN;have HV := Lib.hid (And.intro hV hw3);have H3 := Lib.hid (And.intro hf3 (And.intro hR3 hV3));have HBd := Lib.hid hbd;clear hpe hX3 hdr hV hw3 hb3 hV3 hR3 hf3 hN hq hbd;subst hPb;go_upto_region 9 with (fail);rw [HV.out.1, HV.out.2];clear p0 p1 p2 p3;by_cases hq0 : qe = 0
      · subst hq0;have hqb := hnat rfl hbm;have HX4 := Lib.hid (show (if (numF l qa pz).e ≠ 0 then (numF l qa pz).e else if (recsF l ((pesR ps).drop (i + 1)) (numF l qa pz).at_).e ≠ 0 then (recsF l ((pesR ps).drop (i + 1)) (numF l qa pz).at_).e else padF S l k a (recsF l ((pesR ps).drop (i + 1)) (numF l qa pz).at_).at_) = X by
         have := HX3.out;rw [← this];by_cases h : (numF l qa pz).e = 0
         · simp [h]
         · simp [h])
        clear HX3 hnat hne;go_wp2_with fail;refine HN.out.mono ?_;rintro e w4 ⟨hf4, he⟩;rw [if_pos rfl] at he;obtain ⟨rfl, hR4⟩ := he;have hV4 := H3.out.2.2.fr hf4 (fun e => BT.ne ⟨_, H3.out.2.2⟩ ⟨_, H3.out.2.1⟩ (by decide) e)
        have v2 : w4.cell? ⟨V, 2, none⟩ = some (.int .i64 pz) := hV4.cell 2;have hf4' := H3.out.1.trans hf4;have hN2 := HNu.out w4 qa pz hf4' hR4 (by omega) HBd.out.2
        have hnat := numF_at l qa pz;rw [HC.out.2.1] at hnat;have hne := numF_err l qa pz;obtain ⟨⟨ra, re⟩, hq⟩ : ∃ x, numF l qa pz = x := ⟨_, rfl⟩;rw [hq] at hN2 HX4 hnat hne;simp only [] at hN2 HX4 hnat hne;have HN2 := Lib.hid hN2;have H4 := Lib.hid hf4';clear hf4 hf4' hR4 hV4 hN2 hq v1;go_wp2_with fail;by_cases hr0 : re = 0
        · subst hr0;have hrb := hnat rfl (by omega)
          have HX5 := Lib.hid (by have := HX4.out; rw [if_neg (fun h => h rfl)] at this; exact this)
          clear HX4 hnat hne;refine HN2.out.mono ?_;rintro e w5 ⟨hf5, he⟩;rw [if_pos rfl] at he;obtain ⟨rfl, hR5⟩ := he;have H5 := Lib.hid (And.intro (H4.out.trans hf5) hR5);clear hf5 hR5;go_wp2_with fail
          go_roundw
          case rel => exact ⟨i + 1, ra, by go_num, by omega, by omega, by omega, Lib.hid ⟨H5.out.1, H5.out.2, HX5.out⟩⟩
          case measure => simp [intOf]; omega
        · have H0 := Lib.hid hr0;have HXr := Lib.hid (show X = re by rw [← HX4.out, if_pos hr0])
          clear hnat hne HX4;refine HN2.out.mono ?_;rintro e w5 ⟨hf5, he⟩;rw [if_neg hr0] at he;obtain ⟨v, rfl, hv⟩ := he;obtain ⟨F, off, rfl, hF⟩ := hv;have H5 := Lib.hid (And.intro (H4.out.trans hf5) (show FV E re _ w5 from ⟨F, off, rfl, hF⟩))
          clear hr0 hf5 hF;go_wp2_with fail;go_ret;exact ix_no HXr.out H0.out H5.out.1 H5.out.2
      · have H0 := Lib.hid hq0;have HXr := Lib.hid (show X = qe by rw [← HX3.out]; simp [hq0])
        clear hnat hne HX3;go_wp2_with fail;refine HN.out.mono ?_;rintro e w4 ⟨hf4, he⟩;rw [if_neg hq0] at he;obtain ⟨v, rfl, hv⟩ := he;obtain ⟨F, off, rfl, hF⟩ := hv;have H4 := Lib.hid (And.intro (H3.out.1.trans hf4) (show FV E qe _ w4 from ⟨F, off, rfl, hF⟩))
        clear hq0 hf4 hF;go_wp2_with fail;go_ret;exact ix_no HXr.out H0.out H4.out.1 H4.out.2
    · obtain rfl : i = n := by omega
      have hin' : ¬ (i : Int) < (i : Int) := by omega
      have hX3 := hj.out.2.2;rw [List.drop_of_length_le (by simp [pesR, HC.out.2.2.1]), recsF] at hX3
      simp only [ne_eq, not_true, if_false] at hX3;have HX3 := Lib.hid hX3;have H3 := Lib.hid (And.intro hj.out.1 hj.out.2.1);clear hX3;obtain ⟨⟨d0, d1, d2, d3, d4⟩, ⟨e1, e2, e3, e4⟩⟩ := rdr_cells H3.out.2;obtain ⟨dd, hdd⟩ : ∃ x, b - a = x := ⟨_, rfl⟩;have wD : IntKind.i64.wrap ((b : Int) - (a : Int)) = (dd : Int) := by rw [IntWalk.i64_in _ (by omega)]; omega
      have hg3 := padI_le dd;have HPad := Lib.hid (Pad_any dd wr (by omega))
      unfold padF at HX3;rw [hdd] at HX3;obtain ⟨g, hg⟩ : ∃ x, padI dd = x := ⟨_, rfl⟩;rw [hg] at HX3 HPad hg3;obtain ⟨q, hq⟩ : ∃ x, b + g = x := ⟨_, rfl⟩;have wq : IntKind.i64.wrap ((b : Int) + (g : Int)) = (q : Int) := by rw [IntWalk.i64_in _ (by omega)]; omega
      obtain ⟨t, ht⟩ : ∃ x, min m q = x := ⟨_, rfl⟩;have hmin : min (m : Int) (q : Int) = (t : Int) := by omega
      have hbt : b ≤ t ∧ t ≤ m := by omega
      have y2 : (b : Int) ≤ (t : Int) := by omega
      have y3 : (t : Int) ≤ (c : Int) := by have := HC.out.1; omega
      obtain ⟨A3, hA3⟩ : ∃ x, (if c = b then A else A.map (·.add b)) = x := ⟨_, rfl⟩
      have hI3 := ((HI.out wr H3.out.1).cut (k := b) hbm HC.out.1).take (k := t - b) (by omega)
      rw [hA3] at hI3;have HNR := Lib.hid (NewReader_any A3 (t - b) (c - b) ((l.drop b).take (t - b)) wr.drew (hI3.below (Below.refl _ _).drew));have hR3d := H3.out.2.drew;obtain ⟨⟨z0, z1, z2, z3, z4⟩, _⟩ := rdr_cells hR3d;have hlen3 : ((l.drop b).take (t - b)).length = t - b := hI3.len;have hze2 := zerosF_err l b g;have hzt := zerosF_take l b g m;rw [HC.out.2.1] at hzt;have HZ : Hid (∀ rb rg W, Wr rb rg 0 ((l.drop b).take (t - b)) W → Calls Tryz.prog 72 #[.pointer (some ⟨rb, 0, none⟩), .int .i64 g] W fun e w' => e = .returned (.int .i64 (zerosF l b g : Nat)) ∧ Fr (fun x => x = rb) W w') := Lib.hid (fun rb rg W hW => by
       by_cases hlt : m - b < g
       · have h1 : zerosF l b g = 1 := by unfold zerosF; rw [HC.out.2.1, if_pos hlt]
         rw [h1];refine (Zeros_no rb rg 0 g _ W hW (by rw [hlen3]; omega)).mono ?_
         rintro e w' ⟨rfl, nn, rfl⟩;exact ⟨rfl, (Fr.refl _ _).drewN nn⟩
       · rw [zeros_eq l b g (by rw [HC.out.2.1]; exact hlt)]
         have h2 : t - b = g := by omega
         have := Zeros_all rb rg _ W hW;rw [hlen3, h2] at this;exact this)
      obtain ⟨ze, hzq⟩ : ∃ x, zerosF l b g = x := ⟨_, rfl⟩;rw [hzq] at HZ HX3 hze2 hzt;rw [hq] at HX3;have HHd := Lib.hid (And.intro hdd (And.intro hq (And.intro ht hzt)));clear hdd hg hq ht hI3 hR3d hlen3 hzq hzt hj;go_wp2_with fail;refine HPad.out.mono ?_;rintro e wx ⟨rfl, hwx⟩;rw [hwx];clear hwx;go_wp2_with fail
      go_region_held3 (fun w' => w'.cell? ⟨R, 0, none⟩ = some (.slice A m c) ∧ w'.cell? ⟨R, 1, none⟩ = some (.int .i64 b))
       (first | (with_reducible exact ⟨z0, z1⟩) | (with_reducible exact ⟨y0, y1⟩) | go_keep)
       (first | (go_at_call 71; refine HNR.out.mono ?_; rintro e w5 ⟨rb, rg, rfl, hr, hb5, hrb, hrg⟩; obtain ⟨⟨y0, y1, y2', y3', y4⟩, ⟨x1, x2, x3, x4⟩⟩ := rdr_cells (H3.out.2.drew.below hb5); have H5 := Lib.hid (And.intro hr (And.intro hb5 (And.intro hrb hrg))); clear hr hb5 hrb hrg))
      have HR5 := Lib.hid (H3.out.2.drew.below H5.out.2.1);have HF5 := Lib.hid (show Fr (fun k => k = R) w w5 from H3.out.1.drew.of_below' H5.out.2.1)
      have HZ5 := Lib.hid (HZ.out rb rg w5 H5.out.1);have HK6 : Hid (∀ w6, Fr (fun x => x = rb) w5 w6 → Blk w6 R 71 (rdrC A m c b k D dn dc P i pc) ∧ Fr (fun k => k = R) w w6) := Lib.hid (fun w6 hf6 =>
       ⟨HR5.out.fr hf6 (fun e => BT.ne ⟨_, HR5.out⟩ ⟨_, H5.out.1.b⟩ (by decide) e), HF5.out.trans' hf6 (fun x hx e => by have e : x = rb := e; have := H5.out.2.2.1; have h2 := H3.out.1.size; have : wr.heap.size ≤ rb := this; omega)⟩)
      clear HZ HNR HPad;go_wp2_with fail;refine HZ5.out.mono ?_;rintro e w6 ⟨rfl, hf6⟩;obtain ⟨hR6, hF6⟩ := HK6.out w6 hf6;obtain ⟨⟨d0, d1, d2, d3, d4⟩, ⟨e1, e2, e3, e4⟩⟩ := rdr_cells hR6;have H6 := Lib.hid (And.intro hR6 hF6);clear hf6 hR6 hF6 HK6 HZ5;by_cases hz0 : ze = 0
      · subst hz0;have HX4 := Lib.hid (show sumF S l k a q = X by have := HX3.out; rw [if_neg (show ¬ ((0 : Nat) ≠ 0) from fun h => h rfl)] at this; exact this)
        have hqm : q ≤ m := by have := (HHd.out.2.2.2 rfl hbm hbm).1; have := HHd.out.2.1; omega
        have haq : a < q := by have := HHd.out.2.1; omega
        obtain ⟨w7, hw7⟩ : ∃ x, w6.setCell ⟨R, 1, none⟩ (.int .i64 q) = x := ⟨_, rfl⟩;have hf7 : Fr (fun k => k = R) w6 w7 := by rw [← hw7]; exact Fr.set1 (Fr.refl _ _) 1 _
        have hR7 : Blk w7 R 71 (rdrC A m c q k D dn dc P i pc) := by rw [← hw7]; exact H6.out.1.set_ 1 _
        have H7 := Lib.hid (And.intro hR7 (And.intro (H6.out.2.trans hf7) hw7));obtain ⟨q4, hq4⟩ : ∃ x, q + 4 = x := ⟨_, rfl⟩;have wq4 : IntKind.i64.wrap ((q : Int) + 4) = (q4 : Int) := by rw [IntWalk.i64_in _ (by omega)]; omega
        obtain ⟨t4, ht4⟩ : ∃ x, min m q4 = x := ⟨_, rfl⟩;have hmin4 : min (m : Int) (q4 : Int) = (t4 : Int) := by omega
        have hqt : q ≤ t4 ∧ t4 ≤ m := by omega
        have u2 : (q : Int) ≤ (t4 : Int) := by omega
        have u3 : (t4 : Int) ≤ (c : Int) := by have := HC.out.1; omega
        obtain ⟨A4, hA4⟩ : ∃ x, (if c = q then A else A.map (·.add q)) = x := ⟨_, rfl⟩
        have hI4 := ((HI.out w7 H7.out.2.1).cut (k := q) hqm HC.out.1).take (k := t4 - q) (by omega)
        rw [hA4] at hI4;have hlen4 : ((l.drop q).take (t4 - q)).length = t4 - q := hI4.len;have HNR := Lib.hid (NewReader_any A4 (t4 - q) (c - q) ((l.drop q).take (t4 - q)) w7.drew (hI4.below (Below.refl _ _).drew));unfold sumF at HX4;rw [HC.out.2.1, hq4, hS] at HX4;have HQ4 := Lib.hid (And.intro hq4 (And.intro ht4 hlen4));obtain ⟨⟨z0, z1, z2, z3, z4⟩, _⟩ := rdr_cells hR7.drew;clear hf7 hR7 hw7 hq4 ht4 hI4 hlen4 HX3
        by_cases hlt : m - q < 4
        · have HXr := Lib.hid (show X = 1 by rw [← HX4.out, if_pos hlt])
          have HLo := Lib.hid (fun rb2 rg2 w8 (h : Wr rb2 rg2 0 ((l.drop q).take (t4 - q)) w8) => Low_no rb2 rg2 0 4 _ w8 h (by decide) (by have := HQ4.out; omega))
          clear hlt HX4;go_upto_region 22 with (fail);rw [H7.out.2.2]
          go_region_held3 (fun w' => w'.cell? ⟨R, 0, none⟩ = some (.slice A m c) ∧ w'.cell? ⟨R, 1, none⟩ = some (.int .i64 q))
           (first | (with_reducible exact ⟨z0, z1⟩) | (with_reducible exact ⟨y0, y1⟩) | (with_reducible exact ⟨x0, x1⟩) | go_keep)
           (first | (go_at_call 71; refine HNR.out.mono ?_; rintro e w8 ⟨rb2, rg2, rfl, hr, hb8, hrb2, hrg2⟩; obtain ⟨⟨y0, y1, _, _, _⟩, _⟩ := rdr_cells (H7.out.1.drew.below hb8); have H8 := Lib.hid (And.intro hr (And.intro hb8 (And.intro hrb2 hrg2))); clear hr hb8 hrb2 hrg2) | (go_at_call 73; refine (HLo.out _ _ _ H8.out.1).mono ?_; rintro e w9 ⟨rfl, nn, hw9⟩; subst hw9; obtain ⟨⟨x0, x1, _, _, _⟩, _⟩ := rdr_cells ((H7.out.1.drew.below H8.out.2.1).drewN nn)))
          have hF9 := Lib.hid (show Fr (fun k => k = R) w (w8.drewN nn) from ((H7.out.2.1.drew.of_below' H8.out.2.1).drewN nn))
          go_wp2_with fail;refine (HF.out (q : Int) 1 (w8.drewN nn) hF9.out (by decide) (by decide)).mono ?_
          rintro e w9 ⟨vv, rfl, hv, hb9⟩;have H9 := Lib.hid (And.intro hv hb9);clear hv hb9;go_wp2_with fail;go_ret;exact ix_no HXr.out (by decide) (hF9.out.of_below' H9.out.2) H9.out.1
        · have ht44 : t4 - q = 4 := by have := HQ4.out; omega
          have HLo := Lib.hid (fun rb2 rg2 w8 (h : Wr rb2 rg2 0 ((l.drop q).take (t4 - q)) w8) => Low_yes rb2 rg2 0 4 _ w8 h (by decide) (by have := HQ4.out; omega))
          rw [ht44, lowGo_mid l q 4 4 (Nat.le_refl _)] at HLo;have hlg := lowGo_eq l q 4 (by decide)
          obtain ⟨v, hv⟩ : ∃ v, lowV l q 4 = v := ⟨_, rfl⟩;have hv2 := lowV_lt l q 4;rw [hv] at hlg hv2;rw [hlg] at HX4 HLo;rw [ht44] at HNR;have hv3 : v < 4294967296 := hv2;have hX5 := HX4.out;rw [if_neg hlt, Int.toNat_natCast, Nat.mod_eq_of_lt hv3] at hX5;have HX5 := Lib.hid hX5;have wv : IntKind.u32.wrap (v : Int) = (v : Int) := by rw [IntKind.wrap_u32]; omega
          clear hlt HX4 hlg hv hv2 hX5;go_upto_region 22 with (fail);rw [H7.out.2.2]
          go_region_held3 (fun w' => w'.cell? ⟨R, 0, none⟩ = some (.slice A m c) ∧ w'.cell? ⟨R, 1, none⟩ = some (.int .i64 q))
           (first | (with_reducible exact ⟨z0, z1⟩) | (with_reducible exact ⟨y0, y1⟩) | (with_reducible exact ⟨x0, x1⟩) | go_keep)
           (first | (go_at_call 71; refine HNR.out.mono ?_; rintro e w8 ⟨rb2, rg2, rfl, hr, hb8, hrb2, hrg2⟩; obtain ⟨⟨y0, y1, _, _, _⟩, _⟩ := rdr_cells (H7.out.1.drew.below hb8); have H8 := Lib.hid (And.intro hr (And.intro hb8 (And.intro hrb2 hrg2))); clear hr hb8 hrb2 hrg2) | (go_at_call 73; refine (HLo.out _ _ _ H8.out.1).mono ?_; rintro e w9 ⟨rfl, _, hf9⟩; have hR9 := (H7.out.1.drew.below H8.out.2.1).fr hf9 (fun e => BT.ne ⟨_, H7.out.1.drew.below H8.out.2.1⟩ ⟨_, H8.out.1.b⟩ (by decide) e); obtain ⟨⟨x0, x1, _, _, _⟩, _⟩ := rdr_cells hR9; have H9 := Lib.hid (And.intro hR9 hf9); clear hR9 hf9))
          have HF9 := Lib.hid (show Fr (fun k => k = R) w w9 from (H7.out.2.1.drew.of_below' H8.out.2.1).trans' H9.out.2 (fun x hx e => by have e : x = rb2 := e; have := H8.out.2.2.1; have h2 := H7.out.2.1.size; have : w7.heap.size ≤ rb2 := this; omega))
          obtain ⟨A5, hA5⟩ : ∃ x, (if c = a then A else A.map (·.add a)) = x := ⟨_, rfl⟩
          have hI5 := ((HI.out w9 HF9.out).cut (k := a) (by omega) HC.out.1).take (k := q - a) (by omega)
          rw [hA5] at hI5;have v2' : (a : Int) ≤ (q : Int) := by omega
          have v3' : (q : Int) ≤ (c : Int) := by have := HC.out.1; omega
          obtain ⟨w10, hw10⟩ : ∃ x, (w9.alloc (.cells #[.slice A5 (q - a) (c - a)] 22)).drew = x := ⟨_, rfl⟩;have hb10 : Below w9.heap.size w9 w10 := by rw [← hw10]; exact ((Below.refl _ _).alloc (Nat.le_refl _) _).drew
          have hG : Blk w10 w9.heap.size 22 #[.slice A5 (q - a) (c - a)] := by rw [← hw10]; exact (Blk.new_at rfl).drew
          have hF10 : Fr (fun k => k = R) w w10 := HF9.out.of_below' hb10
          have HSm := Lib.hid (Sum32_any w9.heap.size 1 A5 (q - a) (c - a) _ w10 hG.one (hI5.below hb10) (HE.out w10 hF10).at_.1.c);rw [← hw10] at HSm;obtain ⟨sm, hsm⟩ : ∃ x, crc32 ((l.drop a).take (q - a)) = x := ⟨_, rfl⟩;have hR10 := H9.out.1.below hb10;rw [hsm] at HSm;have hX5 := HX5.out;rw [hsm] at hX5;have HX6 := Lib.hid hX5;have H10 := Lib.hid (And.intro hF10 (And.intro hR10 hw10));obtain ⟨⟨z0', z1', _, _, _⟩, _⟩ := rdr_cells H9.out.1.drew
          obtain ⟨⟨r0, r1, r2, r3, r4⟩, ⟨s1, s2, s3, s4⟩⟩ := rdr_cells hR10;clear hI5 hb10 hG hF10 hR10 hsm hX5 HX5 hw10;by_cases hvs : v = sm
          · have g1 : ((v : Int) != (sm : Int)) = false := by rw [bne_eq_false_iff_eq]; omega
            have g2 : (v != sm) = false := by rw [bne_eq_false_iff_eq]; exact hvs
            have HX7 := Lib.hid (show footF S l k q4 (q4 - a) = X by have := HX6.out; rw [if_neg (fun h => h hvs)] at this; exact this)
            obtain ⟨sz, hsz⟩ : ∃ x, q4 - a = x := ⟨_, rfl⟩;have hq44 : q4 = q + 4 := HQ4.out.1.symm;have wz : IntKind.i64.wrap ((q4 : Int) - (a : Int)) = (sz : Int) := by rw [IntWalk.i64_in _ (by omega)]; omega
            rw [hsz] at HX7;obtain ⟨w11, hw11⟩ : ∃ x, w10.setCell ⟨R, 1, none⟩ (.int .i64 q4) = x := ⟨_, rfl⟩;have hR11 : Blk w11 R 71 (rdrC A m c q4 k D dn dc P i pc) := by rw [← hw11]; exact H10.out.2.1.set_ 1 _
            have hF11 : Fr (fun k => k = R) w w11 := H10.out.1.trans (by rw [← hw11]; exact Fr.set1 (Fr.refl _ _) 1 _)
            have HFt := Lib.hid (HFo.out w11 q4 sz hF11 hR11 (by have := HQ4.out; omega))
            rw [HX7.out] at HFt;have H11 := Lib.hid (And.intro hF11 hw11);obtain ⟨⟨o0, o1, o2, o3, o4⟩, _⟩ := rdr_cells hR11;clear hvs hsz hq44 hw11 hR11 hF11 HX6 HX7;go_wp2_with fail
            go_region_held3 (fun w' => w'.cell? ⟨R, 0, none⟩ = some (.slice A m c) ∧ w'.cell? ⟨R, 1, none⟩ = some (.int .i64 q))
             (first | (with_reducible exact ⟨z0', z1'⟩) | (with_reducible exact ⟨r0, r1⟩) | go_keep)
             (first | (go_at_call 43; refine HSm.out.mono ?_; rintro e wx ⟨rfl, rfl⟩))
            rw [H10.out.2.2];go_upto_region 28 with (fail);rw [H11.out.2];go_wp2_with fail;refine HFt.out.mono ?_;rintro e w12 ⟨hf12, he⟩;have hF12 := Lib.hid (H11.out.1.trans hf12);by_cases hX0 : X = 0
            · rw [if_pos hX0] at he;obtain ⟨rfl, hR12⟩ := he;have H12 := Lib.hid hR12;have HX0 := Lib.hid hX0;clear hf12 hR12 hX0;go_wp2_with fail;go_ret;refine ⟨hF12.out, ?_⟩;rw [if_pos HX0.out];exact ⟨_, rfl, H12.out⟩
            · rw [if_neg hX0] at he;obtain ⟨vv, rfl, hv⟩ := he;obtain ⟨F, off, rfl, hFF⟩ := hv;have H12 := Lib.hid (show FV E X _ w12 from ⟨F, off, rfl, hFF⟩)
              have HX0 := Lib.hid hX0;clear hf12 hFF hX0;go_wp2_with fail;go_ret;exact ix_no rfl HX0.out hF12.out H12.out
          · have g1 : ((v : Int) != (sm : Int)) = true := by rw [bne_iff_ne]; omega
            have g2 : (v != sm) = true := by rw [bne_iff_ne]; exact hvs
            have HXr := Lib.hid (show X = 3 by rw [← HX6.out, if_pos hvs])
            clear hvs HX6;go_wp2_with fail
            go_region_held3 (fun w' => w'.cell? ⟨R, 0, none⟩ = some (.slice A m c) ∧ w'.cell? ⟨R, 1, none⟩ = some (.int .i64 q))
             (first | (with_reducible exact ⟨z0', z1'⟩) | (with_reducible exact ⟨r0, r1⟩) | go_keep)
             (first | (go_at_call 43; refine HSm.out.mono ?_; rintro e wx ⟨rfl, rfl⟩))
            rw [H10.out.2.2];go_wp2_with fail;refine (HF.out (q : Int) 3 w10 H10.out.1 (by decide) (by decide)).mono ?_
            rintro e w11 ⟨vv, rfl, hv, hb11⟩;have H11 := Lib.hid (And.intro hv hb11);clear hv hb11;go_wp2_with fail;go_ret;exact ix_no HXr.out (by decide) (H10.out.1.of_below' H11.out.2) H11.out.1
      · have H0 := Lib.hid hz0;have HXr := Lib.hid (show X = ze by rw [← HX3.out, if_pos hz0])
        have g1 : ((ze : Int) != 0) = true := by rw [bne_iff_ne]; omega
        have g2 : (ze != 0) = true := by rw [bne_iff_ne]; exact hz0
        have hz9 : 1 ≤ ze ∧ ze ≤ 9 := by omega
        clear hz0 HX3;go_wp2_with fail;refine (HF.out (b : Int) ze w6 H6.out.2 hz9.1 hz9.2).mono ?_;rintro e w7 ⟨vv, rfl, hv, hb7⟩;have H7 := Lib.hid (And.intro hv hb7);clear hv hb7;go_wp2_with fail;go_ret;exact ix_no HXr.out H0.out (H6.out.2.of_below' H7.out.2) H7.out.1
 · have H0 := Lib.hid h0;have HXr := Lib.hid (show X = ne by rw [← HX.out, if_pos h0])
   go_wp2_with fail;refine HN1.out.mono ?_;rintro e w2 ⟨hf2, he⟩;rw [if_neg h0] at he;obtain ⟨v, rfl, hv⟩ := he;obtain ⟨F, off, rfl, hF⟩ := hv;have H2 := Lib.hid (And.intro (HW1.out.2.1.trans hf2) (show FV E ne _ w2 from ⟨F, off, rfl, hF⟩))
   clear h0 hf2 hF HX;go_wp2_with fail;go_ret;exact ix_no HXr.out H0.out H2.out.1 H2.out.2
end Go.Proofs.YtcjehjdehdoaeaaGreatDoor
