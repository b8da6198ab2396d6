/-
  Laws on the way to the claim (OqI). Conditions: those that each theorem states.
-/
import Derived.Test.YtcjehjdehdoaeaaGreatDoorOm19
set_option linter.unusedVariables false
set_option linter.unusedSimpArgs false
set_option maxRecDepth 1000000
set_option maxHeartbeats 16000000
namespace Go.Proofs.YtcjehjdehdoaeaaGreatDoor
open Go.RowKit
theorem next_row (x : RwX) (s : RwS) (w : World) (h : Rw x s w) (hm : LaidM w) (hp : s.plain + 2097152 ≤ 4398046511104) :
 Calls Tryz.prog 194 #[.pointer (some ⟨x.b, 0, none⟩)] w (NxPost x (nextF x.l x.packed x.size s) w) := by
 obtain ⟨R, hR⟩ : ∃ R, w.heap.size = R := ⟨_, rfl⟩;obtain ⟨w2, hw2⟩ : ∃ w2, (w.alloc (.cells #[.int .i64 0, .int .i64 0, .int .i64 0, .int .i64 0, .int .i64 0, .int .i64 0] 223)).alloc (.cells #[.int .i64 0, .int .i64 0, .int .i64 0, .int .i64 0, .int .i64 0, .int .i64 0] 223) = w2 := ⟨_, rfl⟩;have hb2 : Below w.heap.size w w2 := by rw [← hw2]; exact ((Below.refl _ _).alloc (Nat.le_refl _) _).alloc (by simp) _
 have H2 : Hid (NxW x s R (R + 1) w w2) := ⟨by rw [← hw2]; exact (Blk.new_at hR.symm).alloc _, by rw [← hw2]; exact Blk.new_at (by simp; omega), h.below hb2, Fr.of_below hb2, by omega⟩
 have HM := Lib.hid (hm.below hb2);obtain ⟨P, hP⟩ : ∃ P, x.packed = P := ⟨_, rfl⟩;obtain ⟨Z, hZ⟩ : ∃ Z, x.size = Z := ⟨_, rfl⟩;obtain ⟨at_, plain, ord⟩ := s;obtain ⟨m, hmm⟩ : ∃ m, x.l.length = m := ⟨_, rfl⟩;have HPZ := Lib.hid (And.intro hP (And.intro hZ hmm));have hz : m ≤ 1099511627776 := by rw [← hmm]; exact h.z
 have hi : at_ ≤ m := by rw [← hmm]; exact h.i
 have hc : m ≤ x.c := by rw [← hmm]; exact h.c
 simp only [] at hp;have HC : Hid (∀ W, NxW x ⟨at_, plain, ord⟩ R (R + 1) w W → W.cell? ⟨x.b, 0, none⟩ = some (.slice x.A m x.c) ∧ W.cell? ⟨x.b, 1, none⟩ = some (.int .i64 at_) ∧ W.cell? ⟨x.b, 2, none⟩ = some (.int .i64 plain) ∧ W.cell? ⟨x.b, 3, none⟩ = some (.int .i64 P) ∧ W.cell? ⟨x.b, 4, none⟩ = some (.int .i64 Z) ∧ W.cell? ⟨x.b, 5, none⟩ = some (.pointer (some ⟨x.o, 0, none⟩))) := fun W hW => by
  have := hW.j.six;rw [hP, hZ, hmm] at this;exact this
 obtain ⟨r, hr⟩ : ∃ r, nextF x.l x.packed x.size ⟨at_, plain, ord⟩ = r := ⟨_, rfl⟩;rw [hr];unfold nextF at hr;rw [hP, hZ] at hr;simp only [] at hr;have HR := Lib.hid hr;have HW2 := Lib.hid hw2;have HRR := Lib.hid hR;have hbR : ¬ x.b = R := BT.ne ⟨_, H2.out.j.b⟩ ⟨_, H2.out.r⟩ (by decide)
 have hbN : ¬ x.b = R + 1 := BT.ne ⟨_, H2.out.j.b⟩ ⟨_, H2.out.n⟩ (by decide)
 have hNR : ¬ R + 1 = R := by omega
 clear hb2 hm hr hP hZ hmm h hw2 hR;go_enter Tryz.func194, Tryz.ntmps194;go_upto_region 2 with (fail);rw [HW2.out, HRR.out];clear HW2;obtain ⟨c0, c1, c2, c3, c4, c5⟩ := HC.out w2 H2.out;have hw1 : IntKind.i64.wrap ((at_ : Int) + 1) = (at_ : Int) + 1 := IntWalk.i64_in _ (by omega)
 have HB := Lib.hid (fun w => beyond_any P ((at_ : Int) + 1) w)
 have hcast : ((at_ + 1 : Nat) : Int) = (at_ : Int) + 1 := by omega
 obtain ⟨bb, hbb⟩ : ∃ z, beyondB P ((at_ : Int) + 1) = z := ⟨_, rfl⟩;have HR1 := Lib.hid (by have := HR.out; rw [hcast, hbb] at this; exact this)
 rw [hbb] at HB;clear hbb hcast HR
 go_quiet ((go_at_call 202; exact Calls.quiet_of_same (HB.out _)))
 have H3 := Lib.hid (H2.out.drewN nq);have HM3 := Lib.hid (HM.out.below (below_drewN (Below.refl _ _) nq));obtain ⟨w3, hw3⟩ : ∃ w3, w2.drewN nq = w3 := ⟨_, rfl⟩;rw [hw3] at H3 HM3 ⊢;clear hw3 c0 c1 c2 c3 c4 c5 H2 HM HB hw1;obtain ⟨c0, c1, c2, c3, c4, c5⟩ := HC.out w3 H3.out;cases bb
 · have HR2 := Lib.hid (by have := HR1.out; rw [if_neg (by decide)] at this; exact this)
   clear HR1;go_upto_region 4 with (fail);by_cases hat : at_ = m
   · have ha1 : ((at_ : Int) == (m : Int)) = true := beq_iff_eq.2 (by omega)
     have ha2 : (at_ == m) = true := beq_iff_eq.2 hat;have HRr := Lib.hid (by have := HR2.out; rw [if_pos (by rw [HPZ.out.2.2]; exact hat)] at this; exact this)
     clear HR2 hat
     go_quiet (fail)
     have H4 := Lib.hid (H3.out.drewN nq);have HM4 := Lib.hid (HM3.out.below (below_drewN (Below.refl _ _) nq));obtain ⟨w4, hw4⟩ : ∃ w4, w3.drewN nq = w4 := ⟨_, rfl⟩;rw [hw4] at H4 HM4 ⊢;clear hw4;clear c0 c1 c2 c3 c4 c5;obtain ⟨c0, c1, c2, c3, c4, c5⟩ := HC.out w4 H4.out;obtain ⟨⟨r0, r1, r2, r3, r4, r5⟩, ⟨f0, f1, f2, f3, f4, f5⟩, ⟨n0, n1, n2, n3, n4, n5⟩⟩ := H4.out.cells;go_wp2_with fail
     go_region
     all_goals
      go_wp2_with fail;exact nx_err H4.out at_ 1 ⟨by rw [← HRr.out]; rfl, by rw [← HRr.out]; rfl⟩ (by decide) (.inr rfl) ⟨rfl, rfl, rfl, rfl⟩
   · have ha1 : ((at_ : Int) == (m : Int)) = false := beq_eq_false_iff_ne.2 (by omega)
     have ha2 : (at_ == m) = false := beq_eq_false_iff_ne.2 hat;have HR3 := Lib.hid (by have := HR2.out; rw [if_neg (by rw [HPZ.out.2.2]; exact hat)] at this; exact this)
     have hlt : at_ < m := by omega
     have hlt' : (at_ : Int) < (m : Int) := by omega
     clear HR2 hat
     go_quiet (fail)
     have H4 := Lib.hid (H3.out.drewN nq);have HM4 := Lib.hid (HM3.out.below (below_drewN (Below.refl _ _) nq));obtain ⟨w4, hw4⟩ : ∃ w4, w3.drewN nq = w4 := ⟨_, rfl⟩;rw [hw4] at H4 HM4 ⊢;clear hw4;clear c0 c1 c2 c3 c4 c5;obtain ⟨c0, c1, c2, c3, c4, c5⟩ := HC.out w4 H4.out;obtain ⟨ab, ao, hA, hcell⟩ := H4.out.j.d.1.cells_at (by rw [HPZ.out.2.2]; omega)
     obtain ⟨z, hz0⟩ : ∃ z, x.l[at_]? = some z := ⟨_, List.getElem?_eq_getElem (by rw [HPZ.out.2.2]; omega)⟩
     have hzg : x.l.getD at_ 0 = z := by simp [List.getD, hz0]
     have b0 := hcell at_ z hz0;rw [hA] at c0;have HA := Lib.hid hA;have HK := Lib.hid (fun w => kindOf_any z w)
     have HR4 := Lib.hid (by have := HR3.out; rw [hzg] at this; exact this)
     obtain ⟨ki, hki⟩ : ∃ q, kindI z = q := ⟨_, rfl⟩;rw [hki] at HK HR4;have hk6 : ki ≤ 6 := by rw [← hki]; unfold kindI; split; omega; split; omega; omega
     clear hA hcell hz0 hzg hki HR3;go_wp2_with fail
     go_quiet ((go_at_call 203; exact Calls.quiet_of_same (HK.out _)))
     have H5 := Lib.hid (H4.out.drewN nq);have HM5 := Lib.hid (HM4.out.below (below_drewN (Below.refl _ _) nq));obtain ⟨w5, hw5⟩ : ∃ w5, w4.drewN nq = w5 := ⟨_, rfl⟩;rw [hw5] at H5 HM5 ⊢;clear hw5;clear c0 c1 c2 c3 c4 c5 b0 HK;obtain ⟨c0, c1, c2, c3, c4, c5⟩ := HC.out w5 H5.out;by_cases hkn : ki < 0
     · have HRr := Lib.hid (by have := HR4.out; rw [if_pos hkn] at this; exact this)
       clear HR4;obtain ⟨⟨r0, r1, r2, r3, r4, r5⟩, ⟨f0, f1, f2, f3, f4, f5⟩, ⟨n0, n1, n2, n3, n4, n5⟩⟩ := H5.out.cells;go_wp2_with fail
       go_region
       all_goals
        go_wp2_with fail;exact nx_err H5.out at_ 2 ⟨by rw [← HRr.out]; rfl, by rw [← HRr.out]; rfl⟩ (by decide) (.inr rfl) ⟨rfl, rfl, rfl, rfl⟩
     · have HR5 := Lib.hid (by have := HR4.out; rw [if_neg hkn] at this; exact this)
       clear HR4;obtain ⟨k, rfl⟩ : ∃ k : Nat, ki = k := ⟨ki.toNat, by omega⟩
       have hk7 : k < 7 := by omega
       have HO := Lib.hid (ONext_any x.o ord k w5 H5.out.j.o H5.out.j.r hk7 HM5.out);obtain ⟨mv, hmv⟩ : ∃ q, moveN ord k = q := ⟨_, rfl⟩;have HR6 := Lib.hid (by have := HR5.out; rw [Int.toNat_natCast, hmv] at this; exact this)
       rw [hmv] at HO;have HMV := Lib.hid hmv;clear HR5 hmv;by_cases h4 : mv = 4
       · have HO2 := Lib.hid (by have := HO.out; rw [if_pos h4, if_pos h4] at this; exact this)
         have HRr := Lib.hid (by have := HR6.out; rw [if_pos h4] at this; exact this)
         clear HO HR6 h4;go_wp2_with fail;refine HO2.out.mono ?_;rintro e w6 ⟨rfl, ho6, hf6⟩;have hf6' : Fr (fun k => k = x.b ∨ k = x.o) w5 w6 := hf6.mono fun _ _ h => .inr h
         have hj6 : Rw x ⟨at_, plain, ord⟩ w6 := by
          have hj := H5.out.j;exact ⟨hj.b.fr hf6 hj.ne, ho6, hj.d.fr hf6 (fun h0 ad had => (hj.n ad had h0).2), hj.c, hj.i, hj.p, hj.r, hj.n, hj.z⟩
         have H6 := Lib.hid (H5.out.to hj6 hf6');clear c0 c1 c2 c3 c4 c5 hj6 hf6 hf6' ho6 HO2;obtain ⟨c0, c1, c2, c3, c4, c5⟩ := HC.out w6 H6.out;obtain ⟨⟨r0, r1, r2, r3, r4, r5⟩, ⟨f0, f1, f2, f3, f4, f5⟩, ⟨n0, n1, n2, n3, n4, n5⟩⟩ := H6.out.cells;go_wp2_with fail
         go_region
         all_goals
          go_wp2_with fail;exact nx_err H6.out at_ 2 ⟨by rw [← HRr.out]; rfl, by rw [← HRr.out]; rfl⟩ (by decide) (.inr rfl) ⟨rfl, rfl, rfl, rfl⟩
       · have HO2 := Lib.hid (by have := HO.out; rw [if_neg h4, if_neg h4] at this; exact this)
         have HR7 := Lib.hid (by have := HR6.out; rw [if_neg h4] at this; exact this)
         have hm4 : mv < 4 := by
          have h1 : ord < 4 := H5.out.j.r;have h2 := HMV.out;have h3 : moveN ord k ≤ 4 := moveN_le h1 hk7;omega
         clear HO HR6 h4;go_wp2_with fail;refine HO2.out.mono ?_;rintro e w6 ⟨rfl, ho6, hf6⟩;have hf6' : Fr (fun k => k = x.b ∨ k = x.o) w5 w6 := hf6.mono fun _ _ h => .inr h
         have hj6 : Rw x ⟨at_, plain, mv⟩ w6 := by
          have hj := H5.out.j;exact ⟨hj.b.fr hf6 hj.ne, ho6, hj.d.fr hf6 (fun h0 ad had => (hj.n ad had h0).2), hj.c, hj.i, hj.p, hm4, hj.n, hj.z⟩
         have H6 := Lib.hid (H5.out.to hj6 hf6');have HC6 : Hid (∀ W, NxW x ⟨at_, plain, mv⟩ R (R + 1) w W → W.cell? ⟨x.b, 0, none⟩ = some (.slice x.A m x.c) ∧ W.cell? ⟨x.b, 1, none⟩ = some (.int .i64 at_) ∧ W.cell? ⟨x.b, 2, none⟩ = some (.int .i64 plain) ∧ W.cell? ⟨x.b, 3, none⟩ = some (.int .i64 P) ∧ W.cell? ⟨x.b, 4, none⟩ = some (.int .i64 Z) ∧ W.cell? ⟨x.b, 5, none⟩ = some (.pointer (some ⟨x.o, 0, none⟩))) := fun W hW => by
          have := hW.j.six;rw [HPZ.out.1, HPZ.out.2.1, HPZ.out.2.2] at this;exact this
         clear c0 c1 c2 c3 c4 c5 hj6 hf6 hf6' ho6 HO2 HC H3 H4 H5 HM5 HM4 HM3;obtain ⟨c0, c1, c2, c3, c4, c5⟩ := HC6.out w6 H6.out;go_upto_region 9 with (fail);obtain ⟨en, hen⟩ : ∃ q, endsB P Z ⟨at_, plain, ord⟩ = q := ⟨_, rfl⟩;have HR8 := Lib.hid (by have := HR7.out; rw [hen] at this; exact this)
         have HE := Lib.hid (ends_row x ⟨at_, plain, mv⟩ w6 H6.out.j);rw [HPZ.out.1, HPZ.out.2.1, show endsB P Z ⟨at_, plain, mv⟩ = en from hen] at HE
         clear HR7 hen;go_cut [76] (fun s76 wy => s76 = .bool (decide (k = 0) && !en) ∧ ∃ n, wy = w6.drewN n)
         case first =>
          by_cases hk0 : k = 0
          · subst hk0;go_wp2_with fail;refine HE.out.mono ?_;rintro e w7 ⟨rfl, n7, rfl⟩;go_wp2_with fail
            go_meet
            exact ⟨by cases en <;> rfl, n7, rfl⟩
          · have hk1 : ((k : Int) == 0) = false := beq_eq_false_iff_ne.2 (by omega)
            have hk2 : (k == 0) = false := beq_eq_false_iff_ne.2 hk0;have HK0 := Lib.hid hk0;clear hk0;go_wp2_with fail
            go_meet
            exact ⟨by rw [decide_eq_false HK0.out]; rfl, 0, rfl⟩
         case rest =>
          obtain ⟨rfl, n7, rfl⟩ := hcut;have H7 := Lib.hid (H6.out.drewN n7);obtain ⟨w7, hw7⟩ : ∃ z, w6.drewN n7 = z := ⟨_, rfl⟩;rw [hw7] at H7 ⊢;clear hw7 c0 c1 c2 c3 c4 c5 HE;obtain ⟨c0, c1, c2, c3, c4, c5⟩ := HC6.out w7 H7.out;by_cases hke : (k : Int) = 0 ∧ en = false
          · have HRr := Lib.hid (by have := HR8.out; rw [if_pos hke] at this; exact this)
            have hd : (decide (k = 0) && !en) = true := by
             obtain ⟨h1, h2⟩ := hke;rw [h2, decide_eq_true (by omega)]
             rfl
            rw [hd];clear HR8 hke hd;obtain ⟨⟨r0, r1, r2, r3, r4, r5⟩, ⟨f0, f1, f2, f3, f4, f5⟩, ⟨n0, n1, n2, n3, n4, n5⟩⟩ := H7.out.cells;go_wp2_with fail
            go_region
            all_goals
             go_wp2_with fail;exact nx_err H7.out at_ 2 ⟨by rw [← HRr.out]; rfl, by rw [← HRr.out]; rfl⟩ (by decide) (.inr rfl) ⟨rfl, rfl, rfl, rfl⟩
          · have HR9 := Lib.hid (by have := HR8.out; rw [if_neg hke] at this; exact this)
            have hd : (decide (k = 0) && !en) = false := by
             by_cases h1 : k = 0
             · cases en
               · exact absurd ⟨by omega, rfl⟩ hke
               · rw [Bool.not_true, Bool.and_false]
             · rw [decide_eq_false h1, Bool.false_and]
            rw [hd];clear HR8 hke hd;rw [HA.out] at c0;have HI := Lib.hid (show In w7 (if x.c = at_ then x.A else x.A.map (·.add at_)) (x.l.length - at_) (x.l.drop at_) from H7.out.j.d.cut (by rw [HPZ.out.2.2]; exact hi) H7.out.j.c)
            rw [HPZ.out.2.2, HA.out] at HI;have hca : ¬ x.c = at_ := by omega
            rw [if_neg hca] at HI;have HI := Lib.hid (show In w7 (some ⟨ab, ao + at_, none⟩) (m - at_) (x.l.drop at_) by
             have := HI.out;rw [show Option.map (fun x : Addr => x.add at_) (some ⟨ab, ao, none⟩) = some ⟨ab, ao + at_, none⟩ by simp only [Option.map_some, Addr.add]; split <;> simp_all] at this
             exact this)
            obtain ⟨q, hq⟩ : ∃ q, ckF (x.l.drop at_) = q := ⟨_, rfl⟩;rw [hq] at HR9;have HQ := Lib.hid hq;obtain ⟨⟨qk, qn, qp, ql, qlp, qpb⟩, n9, e9⟩ := q;have HG := Lib.hid (fun W (n : Below w7.heap.size w7 W) => show Calls Tryz.prog 206 _ W (fun e w' => e = .returned (.tuple #[.agg #[.int .i64 qk, .int .i64 qn, .int .i64 qp, .int .i64 ql, .int .i64 qlp, .int .i64 qpb], .int .i64 n9, .int .i64 e9]) ∧ Below W.heap.size W w') by
             have := CGet_any _ _ (x.c - at_) _ W (HI.out.below n) (by omega)
             rw [hq] at this;exact this)
            have HK2 := Lib.hid (fun W (n : Below w7.heap.size w7 W) => by
             have := HC6.out W (H7.out.below n);rw [HA.out] at this;exact (show W.cell? ⟨x.b, 0, none⟩ = some (.slice (some ⟨ab, ao, none⟩) m x.c) ∧ W.cell? ⟨x.b, 1, none⟩ = some (.int .i64 at_) from ⟨this.1, this.2.1⟩))
            have hb : Below w7.heap.size w7 w7.drew := (Below.refl _ _).drew;have hn0 : Blk (w7.alloc (.cells #[.int .i64 0, .int .i64 0, .int .i64 0, .int .i64 0, .int .i64 0, .int .i64 0] 223)).drew w7.heap.size 223 #[.int .i64 0, .int .i64 0, .int .i64 0, .int .i64 0, .int .i64 0, .int .i64 0] := (Blk.new_at rfl).drew;have hb2 : Below w7.heap.size w7 (w7.alloc (.cells #[.int .i64 0, .int .i64 0, .int .i64 0, .int .i64 0, .int .i64 0, .int .i64 0] 223)).drew := (bmk_ (Below.refl _ _) _).drew
            have hb7 : ¬ x.b = w7.heap.size := by have := Blk.lt H7.out.j.b; omega
            have HB1 := Lib.hid hb;have HB2 := Lib.hid hb2;have HN0 := Lib.hid hn0;clear hq HI hb hb2 hn0;go_upto_region 11 with (fail);go_cut [8, 9, 10] (fun s8 s9 s10 wx => ∃ C : Nat, s8 = .pointer (some ⟨C, 0, none⟩) ∧ s9 = .int .i64 n9 ∧ s10 = .int .i64 e9 ∧ NxW x ⟨at_, plain, mv⟩ R (R + 1) w wx ∧ Blk wx C 223 #[.int .i64 qk, .int .i64 qn, .int .i64 qp, .int .i64 ql, .int .i64 qlp, .int .i64 qpb] ∧ R + 1 < C)
            case first =>
             go_region_held3 (fun W => W.cell? ⟨x.b, 0, none⟩ = some (.slice (some ⟨ab, ao, none⟩) m x.c) ∧ W.cell? ⟨x.b, 1, none⟩ = some (.int .i64 at_))
              (first | (with_reducible exact HK2.out _ HB1.out) | (with_reducible exact HK2.out _ HB2.out) | (with_reducible exact HK2.out _ HB3.out) | (with_reducible exact HK2.out _ (bmk_ HB3.out _)) | (with_reducible exact HK2.out _ (below1 (below5 HB3.out (Nat.le_refl _) _ _ _ _ _) (Nat.le_refl _) _)))
              (first | (go_at_call 206; first | (refine (HG.out _ HB1.out).mono ?_; rintro en' wq ⟨rfl, hq⟩; have HB3 := Lib.hid (bup HB1.out hq); clear hq) | (refine (HG.out _ HB2.out).mono ?_; rintro en' wq ⟨rfl, hq⟩; have HCq := Lib.hid (HN0.out.below hq); have HB3 := Lib.hid (bup HB2.out hq); have hC := HN0.out.below hq; have z0 := hC.cell 0; have z1 := hC.cell 1; have z2 := hC.cell 2; have z3 := hC.cell 3; have z4 := hC.cell 4; have z5 := hC.cell 5; have y0 := hC.frozen 0; have y1 := hC.frozen 1; have y2 := hC.frozen 2; have y3 := hC.frozen 3; have y4 := hC.frozen 4; have y5 := hC.frozen 5; simp at z0 z1 z2 z3 z4 z5; obtain ⟨k0, k1⟩ := HK2.out _ HB3.out; clear hC hq)))
             · go_wp2_with fail
               go_meet
               exact ⟨wq.heap.size, rfl, rfl, rfl, H7.out.below (bmk_ HB3.out _), Blk.new_at rfl, by have h1 := Blk.lt H7.out.n; have h2 := HB3.out.size; omega⟩
             · go_wp2_with fail
               go_meet
               exact ⟨w7.heap.size, rfl, rfl, rfl, H7.out.below (below1 (below5 HB3.out (Nat.le_refl _) _ _ _ _ _) (Nat.le_refl _) _), by simpa using (((((HCq.out.set_ 0 (.int .i64 qk)).set_ 1 (.int .i64 qn)).set_ 2 (.int .i64 qp)).set_ 3 (.int .i64 ql)).set_ 4 (.int .i64 qlp)).set_ 5 (.int .i64 qpb), Blk.lt H7.out.n⟩
            case rest =>
             obtain ⟨C, rfl, rfl, rfl, h8, hC, hCo⟩ := hcut;have hqb := ckF_bd (x.l.drop at_);have hql := fun h => ckF_len (x.l.drop at_) h
             rw [HQ.out] at hqb hql;obtain ⟨hb1, hb2, hb3⟩ := hqb;rw [List.length_drop, HPZ.out.2.2] at hql;simp only [] at hb1 hb2 hb3 hql;go_step;refine tail_row x at_ plain ord mv R C qk qn qp ql qlp qpb n9 e9 r w _ h8 hC hCo hp hb3 hb2 hb1 (fun h => by have := hql h; rw [HPZ.out.2.2]; omega) (fun _ => by rw [HPZ.out.2.2]; exact hlt) (by rw [HPZ.out.1, HPZ.out.2.1]; exact HR9.out) _ _ _ _ _ _ _ _ _ _ _ _ _ _ _ _ _ _ _ _ _ _ _ _ _ _ _ _ _ _ _ _ _ _ _ _ _ _ _ _ _ _ _ _ _ _ _ _ _ _ _ _ _ _ _ _ _ _ _ _ _ _ _ _ _ _ _ _ _ _ _ _ _ _ _ _ _ _ _ _ _ _ _ _ _ _ _ _ _ _ _ _ _ _ _ _ _ _ _ _ _ _ _ _ _ _ _ _ _ _ _ _ _ _ _ _ _ _ _ _ _ _ _ _ _ _ _ _ _ _ _ _ _ _ _ _ _ _ _ _ _ _ _ _ _ _ _ _ _ _ _ _ _ _ _ _ _ _ _ _ _ _ _ _ _ _ _ _ _ _ _ _
 · have HRr := Lib.hid (by have := HR1.out; rw [if_pos rfl] at this; exact this)
   obtain ⟨⟨r0, r1, r2, r3, r4, r5⟩, ⟨f0, f1, f2, f3, f4, f5⟩, ⟨n0, n1, n2, n3, n4, n5⟩⟩ := H3.out.cells;go_wp2_with fail
   go_region
   all_goals
    go_wp2_with fail;exact nx_err H3.out at_ 2 ⟨by rw [← HRr.out]; rfl, by rw [← HRr.out]; rfl⟩ (by decide) (.inr rfl) ⟨rfl, rfl, rfl, rfl⟩
end Go.Proofs.YtcjehjdehdoaeaaGreatDoor
