/-
  Laws on the way to the claim (OqE). Conditions: those that each theorem states.
-/
import Derived.Test.YtcjehjdehdoaeaaGreatDoorOm16
set_option linter.unusedVariables false
set_option linter.unusedSimpArgs false
set_option maxRecDepth 1000000
set_option maxHeartbeats 16000000
namespace Go.Proofs.YtcjehjdehdoaeaaGreatDoor
open Go.RowKit
theorem ckF_take (l : List UInt8) : ckF (l.take 6) = ckF l := by
 match l with
 | [] => rfl
 | [a] => rfl
 | [a, b] => rfl
 | [a, b, c] => rfl
 | [a, b, c, d] => rfl
 | [a, b, c, d, e] => rfl
 | a :: b :: c :: d :: e :: f :: r =>
  simp [ckF, ckProps, hi2]
structure CkW (R : Nat) (b g i : Nat) (l : List UInt8) (w w' : World) : Prop where
 r : Blk w' R 223 #[.int .i64 0, .int .i64 0, .int .i64 0, .int .i64 0, .int .i64 0, .int .i64 0]
 v : Wr b g i l w'
 bl : Below w.heap.size w w'
 n : w.heap.size ≤ R ∧ w.heap.size ≤ b
section
variable {R b g i j : Nat} {l : List UInt8} {w w' w'' : World}
theorem CkW.drewN (h : CkW R b g i l w w') (n : Nat) : CkW R b g i l w (w'.drewN n) := ⟨h.r, h.v.below (below_drewN (Below.refl _ _) n), below_drewN h.bl n, h.n⟩
theorem CkW.below (h : CkW R b g i l w w') (hb : Below w'.heap.size w' w'') : CkW R b g i l w w'' := ⟨h.r.below hb, h.v.below hb, bup h.bl hb, h.n⟩
theorem CkW.next (h : CkW R b g i l w w') (hv : Wr b g j l w'') (hf : Fr (fun x => x = b) w' w'') : CkW R b g j l w w'' :=
 ⟨h.r.fr hf (BT.ne ⟨_, h.r⟩ ⟨_, h.v.b⟩ (by decide)), hv, h.bl.trans (hf.below h.bl.size (fun k hk => by rw [hk]; exact h.n.2)), h.n⟩
theorem CkW.cset (h : CkW R b g i l w w') {C : Nat} (hC : BT w' C 223) (hCR : ¬ C = R) (hn : w.heap.size ≤ C) (hf : Fr (fun k => k = C) w' w'') : CkW R b g i l w w'' :=
 ⟨h.r.fr hf (fun e => hCR e.symm), ⟨h.v.b.fr hf (BT.ne ⟨_, h.v.b⟩ hC (by decide)), h.v.g.fr hf (BT.ne ⟨_, h.v.g⟩ hC (by decide)), h.v.i, h.v.n⟩, h.bl.trans (hf.below h.bl.size (fun k hk => by rw [hk]; exact hn)), h.n⟩
theorem CkW.six (h : CkW R b g i l w w') : w'.cell? ⟨R, 0, none⟩ = some (.int .i64 0) ∧ w'.cell? ⟨R, 1, none⟩ = some (.int .i64 0) ∧ w'.cell? ⟨R, 2, none⟩ = some (.int .i64 0) ∧ w'.cell? ⟨R, 3, none⟩ = some (.int .i64 0) ∧ w'.cell? ⟨R, 4, none⟩ = some (.int .i64 0) ∧ w'.cell? ⟨R, 5, none⟩ = some (.int .i64 0) ∧
 w'.frozen? ⟨R, 0, none⟩ = false ∧ w'.frozen? ⟨R, 1, none⟩ = false ∧ w'.frozen? ⟨R, 2, none⟩ = false ∧ w'.frozen? ⟨R, 3, none⟩ = false ∧ w'.frozen? ⟨R, 4, none⟩ = false ∧ w'.frozen? ⟨R, 5, none⟩ = false :=
 ⟨h.r.cell 0, h.r.cell 1, h.r.cell 2, h.r.cell 3, h.r.cell 4, h.r.cell 5, h.r.frozen 0, h.r.frozen 1, h.r.frozen 2, h.r.frozen 3, h.r.frozen 4, h.r.frozen 5⟩
end
theorem ck_fin {R b g i : Nat} {l : List UInt8} {w w' : World} {a : Act} (h : CkW R b g i l w w') (c : Ck) (n e : Nat) {r : CkR} (hr : r = ⟨c, n, e⟩) {v0 v1 v2 v3 v4 v5 : Int} (e0 : v0 = c.k) (e1 : v1 = c.n) (e2 : v2 = c.p) (e3 : v3 = c.lc) (e4 : v4 = c.lp) (e5 : v5 = c.pb)
 (ht : a.tmps[2]? = some (.pointer (some ⟨R, 0, none⟩)) ∧ a.tmps[3]? = some (.int .i64 n) ∧ a.tmps[4]? = some (.int .i64 e)) (hd : a.defers = [] := by rfl) :
 bodyPost Tryz.prog Tryz.f206 (CkPost r w) .ret a ((((((w'.setCell ⟨R, 0, none⟩ (.int .i64 v0)).setCell ⟨R, 1, none⟩ (.int .i64 v1)).setCell ⟨R, 2, none⟩ (.int .i64 v2)).setCell ⟨R, 3, none⟩ (.int .i64 v3)).setCell ⟨R, 4, none⟩ (.int .i64 v4)).setCell ⟨R, 5, none⟩ (.int .i64 v5)) := by
 subst hr e0 e1 e2 e3 e4 e5;have hB := (((((h.r.set_ 0 (.int .i64 c.k)).set_ 1 (.int .i64 c.n)).set_ 2 (.int .i64 c.p)).set_ 3 (.int .i64 c.lc)).set_ 4 (.int .i64 c.lp)).set_ 5 (.int .i64 c.pb);have hb := ((((((h.bl.setCell (p := ⟨R, 0, none⟩) h.n.1 (.int .i64 c.k)).setCell (p := ⟨R, 1, none⟩) h.n.1 (.int .i64 c.n)).setCell (p := ⟨R, 2, none⟩) h.n.1 (.int .i64 c.p)).setCell (p := ⟨R, 3, none⟩) h.n.1 (.int .i64 c.lc)).setCell (p := ⟨R, 4, none⟩) h.n.1 (.int .i64 c.lp)).setCell (p := ⟨R, 5, none⟩) h.n.1 (.int .i64 c.pb))
 obtain ⟨w9, hw9⟩ : ∃ w9, ((((((w'.setCell ⟨R, 0, none⟩ (.int .i64 c.k)).setCell ⟨R, 1, none⟩ (.int .i64 c.n)).setCell ⟨R, 2, none⟩ (.int .i64 c.p)).setCell ⟨R, 3, none⟩ (.int .i64 c.lc)).setCell ⟨R, 4, none⟩ (.int .i64 c.lp)).setCell ⟨R, 5, none⟩ (.int .i64 c.pb)) = w9 := ⟨_, rfl⟩;rw [hw9] at hB hb ⊢;have c0 := hB.cell 0;have c1 := hB.cell 1;have c2 := hB.cell 2;have c3 := hB.cell 3;have c4 := hB.cell 4
 have c5 := hB.cell 5;simp at c0 c1 c2 c3 c4 c5;exact bodyPost_ret (v := .tuple #[.agg c.cs, .int .i64 n, .int .i64 e]) (by simp [results, Tryz.results206, go_sem, ht.1, ht.2.1, ht.2.2, c0, c1, c2, c3, c4, c5, Ck.cs]) hd ⟨rfl, hb⟩
theorem CGet_any (A : Option Addr) (n c : Nat) (l : List UInt8) (w : World) (hI : In w A n l) (hc : n ≤ c) : Calls Tryz.prog 206 #[.slice A n c] w (CkPost (ckF l) w) := by
 rw [← ckF_take];obtain ⟨R, hR⟩ : ∃ R, w.heap.size = R := ⟨_, rfl⟩;obtain ⟨w1, hw1⟩ : ∃ w1, w.alloc (.cells #[.int .i64 0, .int .i64 0, .int .i64 0, .int .i64 0, .int .i64 0, .int .i64 0] 223) = w1 := ⟨_, rfl⟩;have hb1 : Below w.heap.size w w1 := by rw [← hw1]; exact (Below.refl _ _).alloc (Nat.le_refl _) _
 have hN1 : Blk w1 R 223 #[.int .i64 0, .int .i64 0, .int .i64 0, .int .i64 0, .int .i64 0, .int .i64 0] := by rw [← hw1]; exact Blk.new_at hR.symm
 obtain ⟨k, hk⟩ : ∃ k, min n 6 = k := ⟨_, rfl⟩;have hkn : k ≤ n := by omega
 have hkc : k ≤ c := by omega
 have hki : min (n : Int) 6 = (k : Int) := by omega
 have hl6 : l.take 6 = l.take k := by
  have := hI.len;rcases Nat.le_total n 6 with h | h
  · rw [List.take_of_length_le (by omega), List.take_of_length_le (by omega)]
  · rw [show k = 6 by omega]
 rw [hl6];have HX := Lib.hid (NewReader_any A k c (l.take k) w1 ((hI.take hkn).below hb1));obtain ⟨l6, hl⟩ : ∃ z, l.take k = z := ⟨_, rfl⟩;have hlen : l6.length = k := by rw [← hl, List.length_take, hI.len]; omega
 rw [hl] at HX ⊢;have HB1 := Lib.hid hb1;have HN1 := Lib.hid hN1;have HRz := Lib.hid hR;have HLN := Lib.hid hlen;have hnm := hI.2.2;clear hb1 hN1 hl6 hl hlen hI hk;go_enter Tryz.func206, Tryz.ntmps206;go_upto_region 1 with (fail);clear hw1 hR;go_wp2_with fail;refine HX.out.mono ?_;rintro e w2 ⟨b, g, rfl, h2, hb2, hbb, _⟩;have H2 : Hid (CkW R b g 0 l6 w w2) := ⟨HN1.out.below hb2, h2, bup HB1.out hb2, by have := HB1.out.size; have := HRz.out; omega⟩
 clear h2 hb2 hbb HX HB1 HN1 HRz;by_cases h0 : l6 = []
 · subst h0;have HU := Lib.hid (U8_no b g 0 [] w2 H2.out.v rfl);go_wp2_with fail;refine HU.out.mono ?_;rintro e w3 ⟨rfl, k3, rfl⟩;obtain ⟨c0, c1, c2, c3, c4, c5, f0, f1, f2, f3, f4, f5⟩ := (H2.out.drewN k3).six;go_wp2_with fail;exact ck_fin (H2.out.drewN k3) .zero 0 1 rfl rfl rfl rfl rfl rfl rfl ⟨rfl, rfl, rfl⟩
 · obtain ⟨f, rest, hfr⟩ : ∃ f rest, l6 = f :: rest := by cases l6 with | nil => exact absurd rfl h0 | cons a r => exact ⟨a, r, rfl⟩
   have HFR := Lib.hid hfr;have HU := Lib.hid (U8_yes b g 0 l6 f w2 H2.out.v (by rw [hfr]; rfl))
   clear h0 hfr;obtain ⟨fn, hfn⟩ : ∃ z, f.toNat = z := ⟨_, rfl⟩;have hf255 : fn ≤ 255 := by have := f.toNat_lt; omega
   rw [hfn] at HU;have HFN := Lib.hid hfn;clear hfn;go_wp2_with fail;refine HU.out.mono ?_;rintro e w3 ⟨rfl, h3, hf3⟩;have H3 := Lib.hid (H2.out.next h3 hf3);clear h3 hf3 HU H2;go_upto_region 6 with (fail);obtain ⟨C, hC⟩ : ∃ C, w3.heap.size = C := ⟨_, rfl⟩;obtain ⟨w4, hw4⟩ : ∃ w4, w3.alloc (.cells #[.int .i64 0, .int .i64 0, .int .i64 0, .int .i64 0, .int .i64 0, .int .i64 0] 223) = w4 := ⟨_, rfl⟩
   have H4 := Lib.hid (H3.out.below (w'' := w4) (by rw [← hw4]; exact (Below.refl _ _).alloc (Nat.le_refl _) _))
   have HC4 : Hid (Blk w4 C 223 #[.int .i64 0, .int .i64 0, .int .i64 0, .int .i64 0, .int .i64 0, .int .i64 0] ∧ w.heap.size ≤ C ∧ ¬ C = R) := ⟨by rw [← hw4]; exact Blk.new_at hC.symm, by rw [← hC]; exact H3.out.bl.size, by have := H3.out.r.lt; omega⟩
   rw [hw4, hC];clear hw4 hC H3;have hF : ckF l6 = (if fn = 0 then ⟨.zero, 1, 0⟩
    else if fn ≤ 2 then (if l6.length ≤ 2 then ⟨.zero, 0, 1⟩ else ⟨⟨fn, hi2 l6 1 + 1, hi2 l6 1 + 1, 0, 0, 0⟩, 3, 0⟩)
    else if fn < 128 then ⟨.zero, 0, 2⟩
    else if l6.length ≤ 4 then ⟨.zero, 0, 1⟩
    else if 5 ≤ 3 + (fn - 128) / 32 then ckProps ⟨3 + (fn - 128) / 32, fn % 32 * 65536 + hi2 l6 1 + 1, hi2 l6 3 + 1, 0, 0, 0⟩ l6 else ⟨⟨3 + (fn - 128) / 32, fn % 32 * 65536 + hi2 l6 1 + 1, hi2 l6 3 + 1, 0, 0, 0⟩, 5, 0⟩) := by
    rw [← HFN.out];have := HFR.out;subst this;rfl
   have HF := Lib.hid hF;clear hF;have hC := HC4.out.1;have c0 := hC.cell 0;have c1 := hC.cell 1;have c2 := hC.cell 2;have c3 := hC.cell 3;have c4 := hC.cell 4;have c5 := hC.cell 5;have g0 := hC.frozen 0;have g1 := hC.frozen 1;have g2 := hC.frozen 2;have g3 := hC.frozen 3;have g4 := hC.frozen 4;have g5 := hC.frozen 5;simp at c0 c1 c2 c3 c4 c5;clear hC;obtain ⟨r0, r1, r2, r3, r4, r5, f0, f1, f2, f3, f4, f5⟩ := H4.out.six
   by_cases ha : fn = 0
   · have ha1 : ((fn : Int) == 0) = true := beq_iff_eq.2 (by omega)
     have ha2 : (fn == 0) = true := beq_iff_eq.2 ha;have hr : ckF l6 = ⟨.zero, 1, 0⟩ := by rw [HF.out, if_pos ha]
     have HRr := Lib.hid hr;clear ha hr;go_wp2_with fail;exact ck_fin H4.out .zero 1 0 HRr.out rfl rfl rfl rfl rfl rfl ⟨rfl, rfl, rfl⟩
   · have ha1 : ((fn : Int) == 0) = false := beq_eq_false_iff_ne.2 (by omega)
     have ha2 : (fn == 0) = false := beq_eq_false_iff_ne.2 ha;have HF2 := Lib.hid (by have := HF.out; rw [if_neg ha] at this; exact this)
     clear ha HF;by_cases hb : fn ≤ 2
     · have hb1 : (fn : Int) ≤ 2 := by omega
       have HF3 := Lib.hid (by have := HF2.out; rw [if_pos hb] at this; exact this)
       clear HF2;by_cases hl : l6.length ≤ 2
       · have HH := Lib.hid (High_no b g 1 2 l6 w4 H4.out.v (by decide) (by omega))
         have HRr := Lib.hid (by have := HF3.out; rw [if_pos hl] at this; exact this)
         clear HF3 c0 c1 c2 c3 c4 c5 g0 g1 g2 g3 g4 g5 r0 r1 r2 r3 r4 r5 f0 f1 f2 f3 f4 f5 hl;go_wp2_with fail;refine HH.out.mono ?_;rintro e w5 ⟨rfl, k5, rfl⟩;obtain ⟨r0, r1, r2, r3, r4, r5, f0, f1, f2, f3, f4, f5⟩ := (H4.out.drewN k5).six;go_wp2_with fail;exact ck_fin (H4.out.drewN k5) .zero 0 1 HRr.out rfl rfl rfl rfl rfl rfl ⟨rfl, rfl, rfl⟩
       · have HH := Lib.hid (High_yes b g 1 2 l6 w4 H4.out.v (by decide) (by omega))
         rw [high2] at HH;have HRr := Lib.hid (by have := HF3.out; rw [if_neg hl] at this; exact this)
         have hh : hi2 l6 1 ≤ 65535 := by unfold hi2; have := (l6.getD 1 0).toNat_lt; have := (l6.getD (1 + 1) 0).toNat_lt; omega
         obtain ⟨h_, hh_⟩ : ∃ z, hi2 l6 1 = z := ⟨_, rfl⟩;rw [hh_] at HH HRr hh;clear HF3 c0 c1 c2 c3 c4 c5 g0 g1 g2 g3 g4 g5 r0 r1 r2 r3 r4 r5 f0 f1 f2 f3 f4 f5 hl hh_;go_wp2_with fail;refine HH.out.mono ?_;rintro e w5 ⟨rfl, h5, hf5⟩;have H5 := Lib.hid (H4.out.next h5 hf5);have HC5 := Lib.hid (HC4.out.1.fr hf5 (BT.ne ⟨_, HC4.out.1⟩ ⟨_, H4.out.v.b⟩ (by decide)))
         clear h5 hf5 HH;have hC := HC5.out;have c0 := hC.cell 0;have c1 := hC.cell 1;have c2 := hC.cell 2;have c3 := hC.cell 3;have c4 := hC.cell 4;have c5 := hC.cell 5;have g0 := hC.frozen 0;have g1 := hC.frozen 1;have g2 := hC.frozen 2;have g3 := hC.frozen 3;have g4 := hC.frozen 4;have g5 := hC.frozen 5;simp at c0 c1 c2 c3 c4 c5;clear hC;go_upto_region 13 with (fail);obtain ⟨w6, hw6⟩ : ∃ w6, ((((((w5.setCell ⟨C, 0, none⟩ (.int .i64 fn)).setCell ⟨C, 1, none⟩ (.int .i64 ((h_ : Int) + 1))).setCell ⟨C, 2, none⟩ (.int .i64 ((h_ : Int) + 1))).setCell ⟨C, 3, none⟩ (.int .i64 0)).setCell ⟨C, 4, none⟩ (.int .i64 0)).setCell ⟨C, 5, none⟩ (.int .i64 0)) = w6 := ⟨_, rfl⟩
         have hf6 : Fr (fun k => k = C) w5 w6 := by rw [← hw6]; exact Fr.set1 (Fr.set1 (Fr.set1 (Fr.set1 (Fr.set1 (Fr.set1 (Fr.refl _ _) 0 _) 1 _) 2 _) 3 _) 4 _) 5 _
         have hC6 := (((((HC5.out.set_ 0 (.int .i64 fn)).set_ 1 (.int .i64 ((h_ : Int) + 1))).set_ 2 (.int .i64 ((h_ : Int) + 1))).set_ 3 (.int .i64 0)).set_ 4 (.int .i64 0)).set_ 5 (.int .i64 0);rw [hw6] at hC6 ⊢;have H6 := Lib.hid (H5.out.cset ⟨_, HC5.out⟩ HC4.out.2.2 HC4.out.2.1 hf6);have HOf := Lib.hid (fun n => Off_any b g (1 + 2) l6 (w6.drewN n) (H6.out.v.below (below_drewN (Below.refl _ _) n)))
         clear c0 c1 c2 c3 c4 c5 g0 g1 g2 g3 g4 g5 hw6 hf6;have c0 := hC6.cell 0;have c1 := hC6.cell 1;have c2 := hC6.cell 2;have c3 := hC6.cell 3;have c4 := hC6.cell 4;have c5 := hC6.cell 5;simp at c0 c1 c2 c3 c4 c5;clear hC6;obtain ⟨r0, r1, r2, r3, r4, r5, f0, f1, f2, f3, f4, f5⟩ := H6.out.six;go_region_with (first | (go_at_call 217; refine (HOf.out 1).mono ?_; rintro e w7 ⟨rfl, rfl⟩))
         all_goals
          go_wp2_with fail;exact ck_fin (H6.out.drewN 1) ⟨fn, h_ + 1, h_ + 1, 0, 0, 0⟩ 3 0 HRr.out rfl (by simp) (by simp) rfl rfl rfl ⟨rfl, rfl, rfl⟩
     · have hb1 : ¬ (fn : Int) ≤ 2 := by omega
       have HF3 := Lib.hid (by have := HF2.out; rw [if_neg hb] at this; exact this)
       clear HF2;by_cases hp : fn < 128
       · have hp1 : (fn : Int) < 128 := by omega
         have HRr := Lib.hid (by have := HF3.out; rw [if_pos hp] at this; exact this)
         clear HF3;go_wp2_with fail;exact ck_fin H4.out .zero 0 2 HRr.out rfl rfl rfl rfl rfl rfl ⟨rfl, rfl, rfl⟩
       · have hp1 : ¬ (fn : Int) < 128 := by omega
         have HF4 := Lib.hid (by have := HF3.out; rw [if_neg hp] at this; exact this)
         have hk0 : (fn : Int) - 128 = ((fn - 128 : Nat) : Int) := by omega
         obtain ⟨kd, hkd⟩ : ∃ z, 3 + (fn - 128) / 32 = z := ⟨_, rfl⟩;have hkd6 : kd ≤ 6 := by omega
         have hkv : (3 : Int) + ((fn : Int) - 128) / 32 = (kd : Int) := by omega
         rw [hkd] at HF4;clear HF3 hk0 hkd;have HCN : Hid (w.heap.size ≤ C ∧ ¬ C = R) := HC4.out.2;have HC4 : Hid (Blk w4 C 223 #[.int .i64 0, .int .i64 0, .int .i64 0, .int .i64 0, .int .i64 0, .int .i64 0]) := HC4.out.1;go_upto_region 17 with (fail);obtain ⟨w5, hw5⟩ : ∃ w5, (w4.setCell ⟨C, 0, none⟩ (.int .i64 kd)) = w5 := ⟨_, rfl⟩;have hf5 : Fr (fun k => k = C) w4 w5 := by rw [← hw5]; exact (Fr.set1 (Fr.refl _ _) 0 _)
         have HC5 : Hid (Blk w5 C 223 #[.int .i64 kd, .int .i64 0, .int .i64 0, .int .i64 0, .int .i64 0, .int .i64 0]) := by show Blk _ _ _ _; rw [← hw5]; exact (HC4.out.set_ 0 (.int .i64 kd))
         have H5 := Lib.hid (H4.out.cset ⟨_, HC4.out⟩ HCN.out.2 HCN.out.1 hf5);rw [hw5];clear hw5 hf5 c0 c1 c2 c3 c4 c5 g0 g1 g2 g3 g4 g5;clear r0 r1 r2 r3 r4 r5 f0 f1 f2 f3 f4 f5 HC4 H4;by_cases hl : l6.length ≤ 4
         · have HRr := Lib.hid (by have := HF4.out; rw [if_pos hl] at this; exact this)
           clear HF4;by_cases hl2 : l6.length ≤ 2
           · have HH := Lib.hid (High_no b g 1 2 l6 w5 H5.out.v (by decide) (by omega))
             have HH2 := Lib.hid (fun n => High_no b g 1 2 l6 (w5.drewN n) (H5.out.v.below (below_drewN (Below.refl _ _) n)) (by decide) (by omega))
             clear hl hl2;go_wp2_with fail;refine HH.out.mono ?_;rintro e w6 ⟨rfl, k6, rfl⟩;go_wp2_with fail;refine (HH2.out k6).mono ?_;rintro e w7 ⟨rfl, k7, rfl⟩;have H7 := Lib.hid ((H5.out.drewN k6).drewN k7);obtain ⟨w7, hw7⟩ : ∃ z, (w5.drewN k6).drewN k7 = z := ⟨_, rfl⟩;rw [hw7] at H7 ⊢;clear hw7;obtain ⟨r0, r1, r2, r3, r4, r5, f0, f1, f2, f3, f4, f5⟩ := H7.out.six;go_wp2_with fail;exact ck_fin H7.out .zero 0 1 HRr.out rfl rfl rfl rfl rfl rfl ⟨rfl, rfl, rfl⟩
           · have HH := Lib.hid (High_yes b g 1 2 l6 w5 H5.out.v (by decide) (by omega))
             rw [high2] at HH;have hl3 : ¬ l6.length ≤ 2 := hl2;clear hl2;have HLL := Lib.hid (And.intro hl hl3);clear hl hl3;go_wp2_with fail;refine HH.out.mono ?_;rintro e w6 ⟨rfl, hv, hf⟩;have H6 := Lib.hid (H5.out.next hv hf);have HC6 := Lib.hid (HC5.out.fr hf (BT.ne ⟨_, HC5.out⟩ ⟨_, H5.out.v.b⟩ (by decide)))
             clear hv hf;have HH2 := Lib.hid (High_no b g (1 + 2) 2 l6 w6 H6.out.v (by decide) (by have := HLL.out; omega))
             clear HH;go_wp2_with fail;refine HH2.out.mono ?_;rintro e w7 ⟨rfl, k7, rfl⟩;have H7 := Lib.hid (H6.out.drewN k7);obtain ⟨w7, hw7⟩ : ∃ z, w6.drewN k7 = z := ⟨_, rfl⟩;rw [hw7] at H7 ⊢;clear hw7;obtain ⟨r0, r1, r2, r3, r4, r5, f0, f1, f2, f3, f4, f5⟩ := H7.out.six;go_wp2_with fail;exact ck_fin H7.out .zero 0 1 HRr.out rfl rfl rfl rfl rfl rfl ⟨rfl, rfl, rfl⟩
         · have HF5 := Lib.hid (by have := HF4.out; rw [if_neg hl] at this; exact this)
           clear HF4;have HLL := Lib.hid (show 5 ≤ l6.length by omega)
           have HH := Lib.hid (High_yes b g 1 2 l6 w5 H5.out.v (by decide) (by omega))
           rw [high2] at HH;have hh1 : hi2 l6 1 ≤ 65535 := by unfold hi2; have := (l6.getD 1 0).toNat_lt; have := (l6.getD (1 + 1) 0).toNat_lt; omega
           have hh3 : hi2 l6 3 ≤ 65535 := by unfold hi2; have := (l6.getD 3 0).toNat_lt; have := (l6.getD (3 + 1) 0).toNat_lt; omega
           obtain ⟨h1_, hh1_⟩ : ∃ z, hi2 l6 1 = z := ⟨_, rfl⟩;obtain ⟨h3_, hh3_⟩ : ∃ z, hi2 l6 3 = z := ⟨_, rfl⟩;rw [hh1_] at HH HF5 hh1;rw [hh3_] at HF5 hh3;have HE3 := Lib.hid hh3_;clear hl hh1_ hh3_;go_wp2_with fail;refine HH.out.mono ?_;rintro e w6 ⟨rfl, hv, hf⟩;have H6 := Lib.hid (H5.out.next hv hf);have HC6 := Lib.hid (HC5.out.fr hf (BT.ne ⟨_, HC5.out⟩ ⟨_, H5.out.v.b⟩ (by decide)))
           clear hv hf;have HH2 := Lib.hid (High_yes b g (1 + 2) 2 l6 w6 H6.out.v (by decide) (by have := HLL.out; omega))
           rw [high2, show hi2 l6 (1 + 2) = h3_ from HE3.out] at HH2
           clear HH;go_wp2_with fail;refine HH2.out.mono ?_;rintro e w7 ⟨rfl, hv, hf⟩;have H7 := Lib.hid (H6.out.next hv hf);have HC7 := Lib.hid (HC6.out.fr hf (BT.ne ⟨_, HC6.out⟩ ⟨_, H6.out.v.b⟩ (by decide)))
           clear hv hf;clear HH2;have h31 : bits .and .i64 (fn : Int) 31 = ((fn % 32 : Nat) : Int) := and31 fn (by omega)
           obtain ⟨f32, hf32⟩ : ∃ z, fn % 32 = z := ⟨_, rfl⟩;have hf31 : f32 ≤ 31 := by omega
           rw [hf32] at h31 HF5;clear hf32;have hC := HC7.out;have c0 := hC.cell 0;have c1 := hC.cell 1;have c2 := hC.cell 2;have c3 := hC.cell 3;have c4 := hC.cell 4;have c5 := hC.cell 5;have g0 := hC.frozen 0;have g1 := hC.frozen 1;have g2 := hC.frozen 2;have g3 := hC.frozen 3;have g4 := hC.frozen 4;have g5 := hC.frozen 5;simp at c0 c1 c2 c3 c4 c5;clear hC;go_upto_region 23 with (fail);obtain ⟨w8, hw8⟩ : ∃ w8, ((w7.setCell ⟨C, 1, none⟩ (.int .i64 ((f32 : Int) * 65536 + (h1_ : Int) + 1))).setCell ⟨C, 2, none⟩ (.int .i64 ((h3_ : Int) + 1))) = w8 := ⟨_, rfl⟩
           have hf8 : Fr (fun k => k = C) w7 w8 := by rw [← hw8]; exact (Fr.set1 (Fr.set1 (Fr.refl _ _) 1 _) 2 _)
           have HC8 : Hid (Blk w8 C 223 #[.int .i64 kd, .int .i64 ((f32 : Int) * 65536 + (h1_ : Int) + 1), .int .i64 ((h3_ : Int) + 1), .int .i64 0, .int .i64 0, .int .i64 0]) := by show Blk _ _ _ _; rw [← hw8]; exact ((HC7.out.set_ 1 (.int .i64 ((f32 : Int) * 65536 + (h1_ : Int) + 1))).set_ 2 (.int .i64 ((h3_ : Int) + 1)))
           have H8 := Lib.hid (H7.out.cset ⟨_, HC7.out⟩ HCN.out.2 HCN.out.1 hf8);rw [hw8];clear hw8 hf8 c0 c1 c2 c3 c4 c5 g0 g1 g2 g3 g4 g5;clear h31;have hC := HC8.out;have c0 := hC.cell 0;have c1 := hC.cell 1;have c2 := hC.cell 2;have c3 := hC.cell 3;have c4 := hC.cell 4;have c5 := hC.cell 5;have g0 := hC.frozen 0;have g1 := hC.frozen 1;have g2 := hC.frozen 2;have g3 := hC.frozen 3;have g4 := hC.frozen 4
           have g5 := hC.frozen 5;simp at c0 c1 c2 c3 c4 c5;clear hC;by_cases hk5 : 5 ≤ kd
           · have hk5' : (5 : Int) ≤ (kd : Int) := by omega
             have HF6 := Lib.hid (by have := HF5.out; rw [if_pos hk5] at this; exact this)
             clear HF5 hk5;by_cases hl6 : l6.length ≤ 5
             · have HRr := Lib.hid (by have := HF6.out; rw [ckProps, if_pos hl6] at this; exact this)
               have HU := Lib.hid (U8_no b g (1 + 2 + 2) l6 w8 H8.out.v (by have := HLL.out; omega))
               clear HF6 hl6;go_wp2_with fail;refine HU.out.mono ?_;rintro e w9 ⟨rfl, k9, rfl⟩;have H9 := Lib.hid (H8.out.drewN k9);obtain ⟨w9, hw9⟩ : ∃ z, w8.drewN k9 = z := ⟨_, rfl⟩;rw [hw9] at H9 ⊢;clear hw9;obtain ⟨r0, r1, r2, r3, r4, r5, f0, f1, f2, f3, f4, f5⟩ := H9.out.six;go_wp2_with fail;exact ck_fin H9.out .zero 0 1 HRr.out rfl rfl rfl rfl rfl rfl ⟨rfl, rfl, rfl⟩
             · have HF7 := Lib.hid (by have := HF6.out; rw [ckProps, if_neg hl6] at this; exact this)
               obtain ⟨z5, hz5⟩ : ∃ z, l6[5]? = some z := ⟨_, List.getElem?_eq_getElem (by omega)⟩
               have hzg : l6.getD 5 0 = z5 := by simp [List.getD, hz5]
               have HU := Lib.hid (U8_yes b g (1 + 2 + 2) l6 z5 w8 H8.out.v hz5);have hz255 : z5.toNat ≤ 255 := by have := z5.toNat_lt; omega
               rw [hzg] at HF7;obtain ⟨pn, hpn⟩ : ∃ z, z5.toNat = z := ⟨_, rfl⟩;rw [hpn] at HF7 HU hz255;clear HF6 hl6 hz5 hzg hpn;go_wp2_with fail;refine HU.out.mono ?_;rintro e w9 ⟨rfl, hv, hf⟩;have H9 := Lib.hid (H8.out.next hv hf);have HC9 := Lib.hid (HC8.out.fr hf (BT.ne ⟨_, HC8.out⟩ ⟨_, H8.out.v.b⟩ (by decide)))
               clear hv hf;clear HU c0 c1 c2 c3 c4 c5 g0 g1 g2 g3 g4 g5;by_cases hok : okN pn
               · have HRr := Lib.hid (by have := HF7.out; rw [if_pos hok] at this; exact this)
                 have HBP := Lib.hid (ByteProps_ok pn hz255 hok w9);clear HF7 hok;go_wp2_with fail;refine HBP.out.mono ?_;rintro e w10 ⟨rfl, hba⟩;have H10 := Lib.hid (H9.out.below hba);have HC10 := Lib.hid (HC9.out.below hba);clear hba HBP;have hC := HC10.out;have c0 := hC.cell 0;have c1 := hC.cell 1;have c2 := hC.cell 2;have c3 := hC.cell 3;have c4 := hC.cell 4;have c5 := hC.cell 5;have g0 := hC.frozen 0
                 have g1 := hC.frozen 1;have g2 := hC.frozen 2;have g3 := hC.frozen 3;have g4 := hC.frozen 4;have g5 := hC.frozen 5;simp at c0 c1 c2 c3 c4 c5;clear hC;go_upto_region 29 with (fail);obtain ⟨w11, hw11⟩ : ∃ w11, (((w10.setCell ⟨C, 3, none⟩ (.int .i64 ((pn : Int) % 9))).setCell ⟨C, 4, none⟩ (.int .i64 ((pn : Int) / 9 % 5))).setCell ⟨C, 5, none⟩ (.int .i64 ((pn : Int) / 45))) = w11 := ⟨_, rfl⟩
                 have hf11 : Fr (fun k => k = C) w10 w11 := by rw [← hw11]; exact (Fr.set1 (Fr.set1 (Fr.set1 (Fr.refl _ _) 3 _) 4 _) 5 _)
                 have HC11 : Hid (Blk w11 C 223 #[.int .i64 kd, .int .i64 ((f32 : Int) * 65536 + (h1_ : Int) + 1), .int .i64 ((h3_ : Int) + 1), .int .i64 ((pn : Int) % 9), .int .i64 ((pn : Int) / 9 % 5), .int .i64 ((pn : Int) / 45)]) := by show Blk _ _ _ _; rw [← hw11]; exact (((HC10.out.set_ 3 (.int .i64 ((pn : Int) % 9))).set_ 4 (.int .i64 ((pn : Int) / 9 % 5))).set_ 5 (.int .i64 ((pn : Int) / 45)))
                 have H11 := Lib.hid (H10.out.cset ⟨_, HC10.out⟩ HCN.out.2 HCN.out.1 hf11);rw [hw11];clear hw11 hf11 c0 c1 c2 c3 c4 c5 g0 g1 g2 g3 g4 g5;have HOf := Lib.hid (fun m => Off_any b g (1 + 2 + 2 + 1) l6 (w11.drewN m) (H11.out.v.below (below_drewN (Below.refl _ _) m)))
                 have hC := HC11.out;have c0 := hC.cell 0;have c1 := hC.cell 1;have c2 := hC.cell 2;have c3 := hC.cell 3;have c4 := hC.cell 4;have c5 := hC.cell 5;have g0 := hC.frozen 0;have g1 := hC.frozen 1;have g2 := hC.frozen 2;have g3 := hC.frozen 3;have g4 := hC.frozen 4;have g5 := hC.frozen 5;simp at c0 c1 c2 c3 c4 c5;clear hC;obtain ⟨r0, r1, r2, r3, r4, r5, f0, f1, f2, f3, f4, f5⟩ := H11.out.six
                 go_region_with (first | (go_at_call 217; refine (HOf.out 1).mono ?_; rintro e w9 ⟨rfl, rfl⟩))
                 all_goals
                  go_wp2_with fail;exact ck_fin (H11.out.drewN 1) ⟨kd, f32 * 65536 + h1_ + 1, h3_ + 1, pn % 9, pn / 9 % 5, pn / 45⟩ 6 0 HRr.out rfl (by simp) (by simp) (by simp) (by simp) (by simp) ⟨rfl, rfl, rfl⟩
               · have HRr := Lib.hid (by have := HF7.out; rw [if_neg hok] at this; exact this)
                 have HBP := Lib.hid (ByteProps_bad pn hz255 hok w9);clear HF7 hok;go_wp2_with fail;refine HBP.out.mono ?_;rintro e w10 ⟨rfl, hba⟩;have H10 := Lib.hid (H9.out.below hba);have HC10 := Lib.hid (HC9.out.below hba);clear hba HBP;have hC := HC10.out;have c0 := hC.cell 0;have c1 := hC.cell 1;have c2 := hC.cell 2;have c3 := hC.cell 3;have c4 := hC.cell 4;have c5 := hC.cell 5;have g0 := hC.frozen 0
                 have g1 := hC.frozen 1;have g2 := hC.frozen 2;have g3 := hC.frozen 3;have g4 := hC.frozen 4;have g5 := hC.frozen 5;simp at c0 c1 c2 c3 c4 c5;clear hC;go_upto_region 28 with (fail);obtain ⟨w11, hw11⟩ : ∃ w11, (((w10.setCell ⟨C, 3, none⟩ (.int .i64 0)).setCell ⟨C, 4, none⟩ (.int .i64 0)).setCell ⟨C, 5, none⟩ (.int .i64 0)) = w11 := ⟨_, rfl⟩;have hf11 : Fr (fun k => k = C) w10 w11 := by rw [← hw11]; exact (Fr.set1 (Fr.set1 (Fr.set1 (Fr.refl _ _) 3 _) 4 _) 5 _)
                 have HC11 : Hid (Blk w11 C 223 #[.int .i64 kd, .int .i64 ((f32 : Int) * 65536 + (h1_ : Int) + 1), .int .i64 ((h3_ : Int) + 1), .int .i64 0, .int .i64 0, .int .i64 0]) := by show Blk _ _ _ _; rw [← hw11]; exact (((HC10.out.set_ 3 (.int .i64 0)).set_ 4 (.int .i64 0)).set_ 5 (.int .i64 0))
                 have H11 := Lib.hid (H10.out.cset ⟨_, HC10.out⟩ HCN.out.2 HCN.out.1 hf11);rw [hw11];clear hw11 hf11 c0 c1 c2 c3 c4 c5 g0 g1 g2 g3 g4 g5;obtain ⟨r0, r1, r2, r3, r4, r5, f0, f1, f2, f3, f4, f5⟩ := H11.out.six;go_wp2_with fail;exact ck_fin H11.out .zero 0 2 HRr.out rfl rfl rfl rfl rfl rfl ⟨rfl, rfl, rfl⟩
           · have hk5' : ¬ (5 : Int) ≤ (kd : Int) := by omega
             have HRr := Lib.hid (by have := HF5.out; rw [if_neg hk5] at this; exact this)
             clear HF5 hk5;go_upto_region 29 with (fail);clear c0 c1 c2 c3 c4 c5 g0 g1 g2 g3 g4 g5;have HOf := Lib.hid (fun m => Off_any b g (1 + 2 + 2) l6 (w8.drewN m) (H8.out.v.below (below_drewN (Below.refl _ _) m)))
             have hC := HC8.out;have c0 := hC.cell 0;have c1 := hC.cell 1;have c2 := hC.cell 2;have c3 := hC.cell 3;have c4 := hC.cell 4;have c5 := hC.cell 5;have g0 := hC.frozen 0;have g1 := hC.frozen 1;have g2 := hC.frozen 2;have g3 := hC.frozen 3;have g4 := hC.frozen 4;have g5 := hC.frozen 5;simp at c0 c1 c2 c3 c4 c5;clear hC;obtain ⟨r0, r1, r2, r3, r4, r5, f0, f1, f2, f3, f4, f5⟩ := H8.out.six
             go_region_with (first | (go_at_call 217; refine (HOf.out 1).mono ?_; rintro e w9 ⟨rfl, rfl⟩))
             all_goals
              go_wp2_with fail;exact ck_fin (H8.out.drewN 1) ⟨kd, f32 * 65536 + h1_ + 1, h3_ + 1, 0, 0, 0⟩ 5 0 HRr.out rfl (by simp) (by simp) rfl rfl rfl ⟨rfl, rfl, rfl⟩
end Go.Proofs.YtcjehjdehdoaeaaGreatDoor
