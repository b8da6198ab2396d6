/-
  Laws on the way to the claim (OrN OrO). Conditions: those that each theorem states.
-/
import Derived.Test.YtcjehjdehdoaeaaGreatDoorOm23
set_option linter.unusedVariables false
set_option linter.unusedSimpArgs false
set_option maxRecDepth 1000000
set_option maxHeartbeats 16000000
namespace Go.Proofs.YtcjehjdehdoaeaaGreatDoor
open Go.RowKit
def ShHeld (h : Nat) (s : List Nat) (d : List UInt8) (w : World) : Prop :=
 (∀ j v, (u32s s).toArray.toList[j]? = some v → w.cell? ⟨h, 0 + j, none⟩ = some v) ∧ (∀ j v, (bys d).toArray.toList[j]? = some v → w.cell? ⟨h, 8 + j, none⟩ = some v)
theorem Write_sha (R : Nat → Int) (h : Nat) (x : ShS) (A : Option Addr) (m c : Nat) (l : List UInt8) (w : World) (hH : ShX h x w) (hI : In w A m l) (hA : 0 < m → ∀ ad, A = some ad → ad.block ≠ h) (hR : LaidR R w) (hne : h ≠ 19) (hn : x.n + m ≤ 1152921504606846976) :
 Calls Tryz.prog 294 #[.pointer (some ⟨h, 0, none⟩), .slice A m c] w fun e w' => e = .returned (.tuple #[]) ∧ ShX h (shW R x l) w' ∧ Fr (fun k => k = h) w w' := by
 have hm := hI.2.2;have HI := Lib.hid hI;have HL := Lib.hid hI.len;have HA := Lib.hid hA;have HR := Lib.hid hR;have HNE := Lib.hid hne;have HN := Lib.hid hn;have H0 := Lib.hid (show ShX h (shW R x (l.take 0)) w from hH)
 clear hI hA hR hne hn hH;go_enter Tryz.func294, Tryz.ntmps294;go_wp2_with fail
 go_loopw [9] (fun s9 wr => ∃ i : Nat, s9 = .int .i64 (i : Int) ∧ i ≤ m ∧ Hid (ShX h (shW R x (l.take i)) wr ∧ Fr (fun k => k = h) w wr)) (fun s9 _ => m - (intOf s9).toNat)
 case atStart => exact ⟨0, rfl, Nat.zero_le _, H0.out, Fr.refl _ _⟩
 case round =>
  clear H0;obtain ⟨i, rfl, hi, H⟩ := hrel;by_cases hlt : i < m
  · have hlt' : (i : Int) < (m : Int) := by omega
    have hIr := HI.out.fr H.out.2 (fun h0 ad had => HA.out h0 ad had)
    obtain ⟨ab, ao, rfl, hcell⟩ := hIr.1.cells_at (by omega)
    obtain ⟨z, hz⟩ : ∃ z, l[i]? = some z := ⟨_, List.getElem?_eq_getElem (by have := HL.out; omega)⟩
    have b0 := hcell i z hz;have hx1 : (shW R x (l.take i)).n = x.n + i := by rw [shW_n, List.length_take]; have := HL.out; omega
    have HS := Lib.hid (show shW R x (l.take (i + 1)) = shB R (shW R x (l.take i)) z by rw [List.take_add_one, hz, Option.toList, shW_snoc])
    obtain ⟨X, hX⟩ : ∃ X, shW R x (l.take i) = X := ⟨_, rfl⟩;rw [hX] at H HS hx1;obtain ⟨s, d, n⟩ := X;simp only [] at hx1;have hnb : n + 1 ≤ 1152921504606846976 := by have := HN.out; omega
    obtain ⟨zn, hzn⟩ : ∃ k, z.toNat = k := ⟨_, rfl⟩;have Hz := Lib.hid hzn;rw [hzn] at b0;have H1 := Lib.hid (show Sh h s d n wr from H.out.1)
    have F1 := Lib.hid H.out.2;obtain ⟨k0, k1, k2⟩ := H1.out.cs;have hat : n % 64 < 64 := Nat.mod_lt _ (by decide)
    have c0 := k1 (n % 64) hat;have f0 := H1.out.b.frozen (8 + n % 64);have f1 := H1.out.b.frozen 72;have H2 := Lib.hid (H1.out.setD hat z);have HSB := Lib.hid (show shB R ⟨s, d, n⟩ z = ⟨if n % 64 = 63 then stepN R s (d.set (n % 64) z) else s, d.set (n % 64) z, n + 1⟩ from rfl)
    obtain ⟨q, hq⟩ : ∃ q, n % 64 = q := ⟨_, rfl⟩;have hq1 : (n : Int) % 64 = (q : Int) := by omega
    have hq72 : ¬ 72 = 8 + q := by omega
    have hq72' : ¬ 8 + q = 72 := by omega
    rw [hq] at c0 f0 hat H2 HSB;rw [hzn] at H2;have hq' : (q : Int) < 64 := by omega
    clear hIr hcell hz hX hx1 hzn k0 k1 hq H;go_upto_region 6 with (fail);obtain ⟨w2, hw2⟩ : ∃ w2, (wr.setCell ⟨h, 8 + q, none⟩ (.int .u8 (zn : Int))).setCell ⟨h, 72, none⟩ (.int .i64 ((n : Int) + 1)) = w2 := ⟨_, rfl⟩;have H3 := Lib.hid (show Sh h s (d.set q z) (n + 1) w2 by rw [← hw2]; exact H2.out.setN (n + 1))
    have F3 := Lib.hid (show Fr (fun k => k = h) w w2 by rw [← hw2]; exact (F1.out.setCell (.inl rfl) _).setCell (.inl rfl) _)
    rw [hw2];clear hw2 c0 f0 f1 k2 b0 H2 H1 F1;by_cases h63 : q = 63
    · have hh1 : ((q : Int) == 63) = true := beq_iff_eq.2 (by omega)
      have hh2 : (q == 63) = true := beq_iff_eq.2 h63;have HSB2 := Lib.hid (by have := HSB.out; rw [if_pos h63] at this; exact this)
      clear h63 HSB;obtain ⟨k0, k1, k2⟩ := H3.out.cs;have hs8 := H3.out.s;have hd64 := H3.out.l;have hst := Step_any s (d.set q z) w2.drew hs8 hd64 R ((HR.out.fr F3.out (fun e => HNE.out e.symm)).below (Below.refl _ _).drew)
      have hl8 : (stepN R s (d.set q z)).length = 8 := addN_len _ _ (rnsN_len R _ s hs8 64) 8;obtain ⟨t0, t1, t2, t3, t4, t5, t6, t7, hte⟩ := eight hl8;rw [hte] at hst HSB2;have HST := Lib.hid (show Calls Tryz.prog 296 #[.agg (u32s s).toArray, .agg (bys (d.set q z)).toArray] w2.drew (fun e w' => e = .returned (.agg #[.int .u32 (t0 : Int), .int .u32 (t1 : Int), .int .u32 (t2 : Int), .int .u32 (t3 : Int), .int .u32 (t4 : Int), .int .u32 (t5 : Int), .int .u32 (t6 : Int), .int .u32 (t7 : Int)]) ∧ Below w2.drew.heap.size w2.drew w') from hst)
      clear hst hl8 hte;have HK := Lib.hid (show ShHeld h s (d.set q z) w2.drew by
       refine ⟨fun j v hv => ?_, fun j v hv => ?_⟩
       · have hj : j < s.length := by have := (List.getElem?_eq_some_iff.1 hv).1; simpa [u32s] using this
         have := k0 j (by omega)
         rw [show (u32s s).toArray.toList[j]? = some (.int .u32 (s.getD j 0 : Nat)) from by simpa using u32s_get hj] at hv
         rw [Nat.zero_add, ← hv];exact this
       · have hj : j < (d.set q z).length := by have := (List.getElem?_eq_some_iff.1 hv).1; simpa [bys] using this
         have := k1 j (by omega)
         rw [show (bys (d.set q z)).toArray.toList[j]? = some (.int .u8 (((d.set q z).getD j 0).toNat : Int)) from by simpa using bys_at hj] at hv
         rw [← hv];exact this)
      have he1 : (Tryz.prog.info? 239).map (·.size) = some (u32s s).toArray.size := by
       rw [show (u32s s).toArray.size = 8 by simp [u32s, hs8]]; kernel_rfl
      have he2 : (Tryz.prog.info? 240).map (·.size) = some (bys (d.set q z)).toArray.size := by
       rw [show (bys (d.set q z)).toArray.size = 64 by rw [List.size_toArray, bys_length, hd64]]; kernel_rfl
      have HE := Lib.hid (And.intro he1 he2);have HLD := Lib.hid (And.intro (run_load_at HK.out.1 Tryz.underlying239 rfl HE.out.1) (run_load_at HK.out.2 Tryz.underlying240 rfl HE.out.2));clear k0 k1 k2 he1 he2 hs8 hd64;go_wp2_with fail;refine wp_region_any (by kernel_rfl) ?_
      change wpAny _ _ _ _ _ _ _ (World.drew _);refine wpAny_take (i := 0) (v := ?_) rfl (by kernel_rfl) (by kernel_rfl) (by kernel_rfl) (fun _ _ _ h => h) (Or.inl ⟨by rfl, ?_⟩) ?_
      rotate_left
      · intro w; go_simp; try with_reducible rfl
      try simp only [Act.put, List.getElem_toArray, List.getElem_cons_zero, List.getElem_cons_succ, List.setIfInBounds_toArray, List.set_cons_zero, List.set_cons_succ]
      refine wpAny_take (i := 1) (v := ?_) rfl (by kernel_rfl) (by kernel_rfl) (by kernel_rfl) (fun _ _ _ h => h) (Or.inl ⟨by rfl, ?_⟩) ?_
      rotate_left
      · intro w; go_simp; try with_reducible rfl
      try simp only [Act.put, List.getElem_toArray, List.getElem_cons_zero, List.getElem_cons_succ, List.setIfInBounds_toArray, List.set_cons_zero, List.set_cons_succ]
      refine wpAny_take (i := 2) (v := ?_) rfl (by kernel_rfl) (by kernel_rfl) (by kernel_rfl) (fun _ _ _ h => h) (Or.inl ⟨by rfl, ?_⟩) ?_
      rotate_left
      · intro w; go_simp; try with_reducible rfl
      try simp only [Act.put, List.getElem_toArray, List.getElem_cons_zero, List.getElem_cons_succ, List.setIfInBounds_toArray, List.set_cons_zero, List.set_cons_succ]
      refine wpAny_take (i := 3) (v := ?_) rfl (by kernel_rfl) (by kernel_rfl) (by kernel_rfl) (fun _ _ _ h => h) (Or.inl ⟨by rfl, ?_⟩) ?_
      rotate_left
      · intro w; go_simp; try with_reducible rfl
      try simp only [Act.put, List.getElem_toArray, List.getElem_cons_zero, List.getElem_cons_succ, List.setIfInBounds_toArray, List.set_cons_zero, List.set_cons_succ]
      refine wpAny_take (i := 5) (v := ?_) rfl (by kernel_rfl) (by kernel_rfl) (by kernel_rfl) (fun _ _ _ h => h) (Or.inl ⟨by rfl, ?_⟩) ?_
      rotate_left
      · intro w; go_simp; try with_reducible rfl
      try simp only [Act.put, List.getElem_toArray, List.getElem_cons_zero, List.getElem_cons_succ, List.setIfInBounds_toArray, List.set_cons_zero, List.set_cons_succ]
      refine wpAny_take (i := 6) (v := ?_) rfl (by kernel_rfl) (by kernel_rfl) (by kernel_rfl) (fun _ _ _ h => h) (Or.inl ⟨by rfl, ?_⟩) ?_
      rotate_left
      · intro w; go_simp; try with_reducible rfl
      try simp only [Act.put, List.getElem_toArray, List.getElem_cons_zero, List.getElem_cons_succ, List.setIfInBounds_toArray, List.set_cons_zero, List.set_cons_succ]
      refine wpAny_take (i := 7) (v := ?_) rfl (by kernel_rfl) (by kernel_rfl) (by kernel_rfl) (fun _ _ _ h => h) (Or.inl ⟨by rfl, ?_⟩) ?_
      rotate_left
      · intro w; go_simp; try with_reducible rfl
      try simp only [Act.put, List.getElem_toArray, List.getElem_cons_zero, List.getElem_cons_succ, List.setIfInBounds_toArray, List.set_cons_zero, List.set_cons_succ]
      refine wpAny_ready (rs := [4, 8]) (by kernel_rfl) (by simp) ?_
      refine AllReady.cons rfl (fun K hK => ?_) (AllReady.cons rfl (fun K hK => ?_) AllReady.nil)
      · refine step_load_at rfl 239 (.tmp 36) rfl h 0 rfl (u32s s).toArray HLD.out.1 ?_;refine hK _ _ ?_;clear hK K;try simp only [Act.put, List.getElem_toArray, List.getElem_cons_zero, List.getElem_cons_succ, List.setIfInBounds_toArray, List.set_cons_zero, List.set_cons_succ]
        refine wpAny_ready (rs := [8]) (by kernel_rfl) (by simp) ?_
        refine AllReady.cons rfl (fun K hK => ?_) AllReady.nil
        refine step_load_at rfl 240 (.tmp 40) rfl h 8 rfl (bys (d.set q z)).toArray HLD.out.2 ?_;refine hK _ _ ?_;clear hK K;try simp only [Act.put, List.getElem_toArray, List.getElem_cons_zero, List.getElem_cons_succ, List.setIfInBounds_toArray, List.set_cons_zero, List.set_cons_succ]
        refine wpAny_ready (rs := [9]) (by kernel_rfl) (by simp) ?_
        refine AllReady.cons rfl (fun K hK => ?_) AllReady.nil
        simp only [List.getElem_toArray, List.getElem_cons_zero, List.getElem_cons_succ];go_simp
        go_at_call 296
        refine HST.out.mono ?_;rintro en w4 ⟨rfl, hb4⟩;have HB4 := Lib.hid hb4;try dsimp only
        refine hK _ _ ?_;clear hK K hb4;try simp only [Act.put, List.getElem_toArray, List.getElem_cons_zero, List.getElem_cons_succ, List.setIfInBounds_toArray, List.set_cons_zero, List.set_cons_succ]
        refine wpAny_take (i := 10) (v := ?_) rfl (by kernel_rfl) (by kernel_rfl) (by kernel_rfl) (fun _ _ _ h => h) (Or.inl ⟨by rfl, ?_⟩) ?_
        rotate_left
        · intro w; go_simp; try with_reducible rfl
        try simp only [Act.put, List.getElem_toArray, List.getElem_cons_zero, List.getElem_cons_succ, List.setIfInBounds_toArray, List.set_cons_zero, List.set_cons_succ]
        refine wpAny_take (i := 11) (v := ?_) rfl (by kernel_rfl) (by kernel_rfl) (by kernel_rfl) (fun _ _ _ h => h) (Or.inl ⟨by rfl, ?_⟩) ?_
        rotate_left
        · intro w; go_simp; try with_reducible rfl
        try simp only [Act.put, List.getElem_toArray, List.getElem_cons_zero, List.getElem_cons_succ, List.setIfInBounds_toArray, List.set_cons_zero, List.set_cons_succ]
        have H4 := Lib.hid (show Sh h s (d.set q z) (n + 1) w4 from (show Sh h s (d.set q z) (n + 1) w2.drew from ⟨H3.out.b.drew, H3.out.s, H3.out.l⟩).below HB4.out)
        have F4 := Lib.hid (F3.out.drew.of_below' HB4.out);obtain ⟨k0, _, _⟩ := H4.out.cs;have c0 := k0 0 (by decide)
        have c1 := k0 1 (by decide)
        have c2 := k0 2 (by decide)
        have c3 := k0 3 (by decide)
        have c4 := k0 4 (by decide)
        have c5 := k0 5 (by decide)
        have c6 := k0 6 (by decide)
        have c7 := k0 7 (by decide)
        have f0 := H4.out.b.frozen 0;have f1 := H4.out.b.frozen 1;have f2 := H4.out.b.frozen 2;have f3 := H4.out.b.frozen 3;have f4 := H4.out.b.frozen 4;have f5 := H4.out.b.frozen 5;have f6 := H4.out.b.frozen 6;have f7 := H4.out.b.frozen 7;clear k0;refine wpAny_ready (rs := [12]) (by kernel_rfl) (by simp) ?_
        refine AllReady.cons rfl (fun K hK => ?_) AllReady.nil
        simp only [List.getElem_toArray, List.getElem_cons_zero, List.getElem_cons_succ];go_simp;refine hK _ _ ?_;clear hK K;refine wpAny_done (by kernel_rfl) ?_ _
        try simp only [Act.put, List.getElem_toArray, List.getElem_cons_zero, List.getElem_cons_succ, List.setIfInBounds_toArray, List.set_cons_zero, List.set_cons_succ]
        go_wp2_with fail
        go_roundw
        case rel =>
         refine ⟨i + 1, by go_num, by omega, ?_⟩
         rw [HS.out, HSB2.out];exact ⟨H4.out.setS t0 t1 t2 t3 t4 t5 t6 t7, (((((((F4.out.setCell (.inl rfl) _).setCell (.inl rfl) _).setCell (.inl rfl) _).setCell (.inl rfl) _).setCell (.inl rfl) _).setCell (.inl rfl) _).setCell (.inl rfl) _).setCell (.inl rfl) _⟩
        case measure => simp [intOf]; omega
      · refine step_load_at rfl 240 (.tmp 40) rfl h 8 rfl (bys (d.set q z)).toArray HLD.out.2 ?_;refine hK _ _ ?_;clear hK K;try simp only [Act.put, List.getElem_toArray, List.getElem_cons_zero, List.getElem_cons_succ, List.setIfInBounds_toArray, List.set_cons_zero, List.set_cons_succ]
        refine wpAny_ready (rs := [4]) (by kernel_rfl) (by simp) ?_
        refine AllReady.cons rfl (fun K hK => ?_) AllReady.nil
        refine step_load_at rfl 239 (.tmp 36) rfl h 0 rfl (u32s s).toArray HLD.out.1 ?_;refine hK _ _ ?_;clear hK K;try simp only [Act.put, List.getElem_toArray, List.getElem_cons_zero, List.getElem_cons_succ, List.setIfInBounds_toArray, List.set_cons_zero, List.set_cons_succ]
        refine wpAny_ready (rs := [9]) (by kernel_rfl) (by simp) ?_
        refine AllReady.cons rfl (fun K hK => ?_) AllReady.nil
        simp only [List.getElem_toArray, List.getElem_cons_zero, List.getElem_cons_succ];go_simp
        go_at_call 296
        refine HST.out.mono ?_;rintro en w4 ⟨rfl, hb4⟩;have HB4 := Lib.hid hb4;try dsimp only
        refine hK _ _ ?_;clear hK K hb4;try simp only [Act.put, List.getElem_toArray, List.getElem_cons_zero, List.getElem_cons_succ, List.setIfInBounds_toArray, List.set_cons_zero, List.set_cons_succ]
        refine wpAny_take (i := 10) (v := ?_) rfl (by kernel_rfl) (by kernel_rfl) (by kernel_rfl) (fun _ _ _ h => h) (Or.inl ⟨by rfl, ?_⟩) ?_
        rotate_left
        · intro w; go_simp; try with_reducible rfl
        try simp only [Act.put, List.getElem_toArray, List.getElem_cons_zero, List.getElem_cons_succ, List.setIfInBounds_toArray, List.set_cons_zero, List.set_cons_succ]
        refine wpAny_take (i := 11) (v := ?_) rfl (by kernel_rfl) (by kernel_rfl) (by kernel_rfl) (fun _ _ _ h => h) (Or.inl ⟨by rfl, ?_⟩) ?_
        rotate_left
        · intro w; go_simp; try with_reducible rfl
        try simp only [Act.put, List.getElem_toArray, List.getElem_cons_zero, List.getElem_cons_succ, List.setIfInBounds_toArray, List.set_cons_zero, List.set_cons_succ]
        have H4 := Lib.hid (show Sh h s (d.set q z) (n + 1) w4 from (show Sh h s (d.set q z) (n + 1) w2.drew from ⟨H3.out.b.drew, H3.out.s, H3.out.l⟩).below HB4.out)
        have F4 := Lib.hid (F3.out.drew.of_below' HB4.out);obtain ⟨k0, _, _⟩ := H4.out.cs;have c0 := k0 0 (by decide)
        have c1 := k0 1 (by decide)
        have c2 := k0 2 (by decide)
        have c3 := k0 3 (by decide)
        have c4 := k0 4 (by decide)
        have c5 := k0 5 (by decide)
        have c6 := k0 6 (by decide)
        have c7 := k0 7 (by decide)
        have f0 := H4.out.b.frozen 0;have f1 := H4.out.b.frozen 1;have f2 := H4.out.b.frozen 2;have f3 := H4.out.b.frozen 3;have f4 := H4.out.b.frozen 4;have f5 := H4.out.b.frozen 5;have f6 := H4.out.b.frozen 6;have f7 := H4.out.b.frozen 7;clear k0;refine wpAny_ready (rs := [12]) (by kernel_rfl) (by simp) ?_
        refine AllReady.cons rfl (fun K hK => ?_) AllReady.nil
        simp only [List.getElem_toArray, List.getElem_cons_zero, List.getElem_cons_succ];go_simp;refine hK _ _ ?_;clear hK K;refine wpAny_done (by kernel_rfl) ?_ _
        try simp only [Act.put, List.getElem_toArray, List.getElem_cons_zero, List.getElem_cons_succ, List.setIfInBounds_toArray, List.set_cons_zero, List.set_cons_succ]
        go_wp2_with fail
        go_roundw
        case rel =>
         refine ⟨i + 1, by go_num, by omega, ?_⟩
         rw [HS.out, HSB2.out];exact ⟨H4.out.setS t0 t1 t2 t3 t4 t5 t6 t7, (((((((F4.out.setCell (.inl rfl) _).setCell (.inl rfl) _).setCell (.inl rfl) _).setCell (.inl rfl) _).setCell (.inl rfl) _).setCell (.inl rfl) _).setCell (.inl rfl) _).setCell (.inl rfl) _⟩
        case measure => simp [intOf]; omega
    · have hh1 : ((q : Int) == 63) = false := beq_eq_false_iff_ne.2 (by omega)
      have hh2 : (q == 63) = false := beq_eq_false_iff_ne.2 h63;have HSB2 := Lib.hid (by have := HSB.out; rw [if_neg h63] at this; exact this)
      clear h63 HSB;go_wp2_with fail
      go_roundw
      case rel =>
       refine ⟨i + 1, by go_num, by omega, ?_⟩
       rw [HS.out, HSB2.out];exact ⟨H3.out, F3.out⟩
      case measure => simp [intOf]; omega
  · obtain rfl : i = m := by omega
    have hlt' : ¬ (i : Int) < (i : Int) := by omega
    have hl : l.take i = l := List.take_of_length_le (by have := HL.out; omega)
    rw [hl] at H;clear hl;go_wp2_with fail
    first | go_end0 | refine bodyPost_ret (results_none rfl _ _ _) rfl ?_
    exact ⟨rfl, H.out.1, H.out.2⟩
def outN (s : List Nat) : Nat → List UInt8
 | 0 => List.replicate 32 0
 | t + 1 => (outN s t).set t (UInt8.ofNat (s.getD (t / 4) 0 / 2 ^ (24 - 8 * (t % 4))))
theorem outN_len (s : List Nat) (t : Nat) : (outN s t).length = 32 := by
 induction t with
 | zero => simp [outN]
 | succ t ih => rw [outN, List.length_set, ih]
def shaSum (R : Nat → Int) (x : ShS) : List UInt8 := outN (shW R x (padL x.n 8)).s 32
theorem z242 : Tryz.zeroCells242.size = 73 := by kernel_rfl
theorem s242 : (Tryz.prog.info? 242).map (·.size) = some 73 := by kernel_rfl
theorem sh_one (s : List Nat) (d : List UInt8) (n : Nat) : (u32s s ++ bys d ++ [Value.int .i64 (n : Int)]).toArray.all (·.oneCell') = true := by
 rw [Array.all_eq_true_iff_forall_mem];intro v hv;simp [u32s, bys] at hv;rcases hv with ⟨z, _, rfl⟩ | ⟨z, _, rfl⟩ | rfl <;> rfl
theorem in_blk {w : World} {g : Nat} {t : TypeId} {l : List UInt8} (h : Blk w g t (bys l).toArray) (hn : l.length ≤ 140737488351232) : In w (some ⟨g, 0, none⟩) l.length l := by
 refine ⟨⟨by rw [bys_length]; omega, fun _ => ⟨_, rfl, fun j u hu => ?_⟩⟩, fun _ ad had => by injection had with had; rw [← had]; exact h.lt, hn⟩
 rw [add_none, Nat.zero_add, h.cell j];simpa using hu
theorem Sum_sha (R : Nat → Int) (h : Nat) (x : ShS) (w : World) (hH : ShX h x w) (hR : LaidR R w) (hn : x.n ≤ 1152921504606846000) :
 Calls Tryz.prog 293 #[.pointer (some ⟨h, 0, none⟩)] w fun e w' => e = .returned (.agg (bys (shaSum R x)).toArray) ∧ Below w.heap.size w w' := by
 obtain ⟨s, d, n⟩ := x;simp only [] at hn;have H := Lib.hid (show Sh h s d n w from hH)
 have HR := Lib.hid hR;obtain ⟨B, hB⟩ : ∃ B, w.heap.size = B := ⟨_, rfl⟩;have HB := Lib.hid hB;have hsz : (u32s s ++ bys d ++ [Value.int .i64 (n : Int)]).toArray.size = 73 := by
  have := H.out.s;have := H.out.l;simp [u32s, bys, *]
 have hall := sh_one s d n;obtain ⟨C, hC⟩ : ∃ C, (u32s s ++ bys d ++ [Value.int .i64 (n : Int)]).toArray = C := ⟨_, rfl⟩;rw [hC] at hsz hall;have hbk : Blk w h 242 C := by rw [← hC]; exact H.out.b
 have HC := Lib.hid (show (Tryz.prog.info? 242).map (·.size) = some C.size ∧ Tryz.zeroCells242.size = C.size ∧ C.all (·.oneCell') = true from ⟨by rw [hsz]; exact s242, by rw [hsz]; exact z242, hall⟩)
 have HCe := Lib.hid hC;have HBK := Lib.hid hbk;have hhB : h < B := by have := H.out.b.lt; omega
 clear hH hR hB hsz hall hC hbk;go_enter Tryz.func293, Tryz.ntmps293;go_upto_region 2 with (first | (refine wpList_load_row rfl 242 (.tmp 9) rfl h rfl 242 C (0, 0) _ (HBK.out.alloc _) Tryz.underlying242 rfl HC.out.1 ?_) | (refine wpList_store_row rfl 242 (.tmp 3) (.tmp 10) rfl (w.heap.size + 1) C rfl rfl 242 Tryz.zeroCells242 (Blk.new_at (by simp)) HC.out.1 HC.out.2.1 HC.out.2.2 ?_))
 obtain ⟨w1, hw1⟩ : ∃ w1, (w.alloc (.cells #[.int .u8 0, .int .u8 0, .int .u8 0, .int .u8 0, .int .u8 0, .int .u8 0, .int .u8 0, .int .u8 0, .int .u8 0, .int .u8 0, .int .u8 0, .int .u8 0, .int .u8 0, .int .u8 0, .int .u8 0, .int .u8 0, .int .u8 0, .int .u8 0, .int .u8 0, .int .u8 0, .int .u8 0, .int .u8 0, .int .u8 0, .int .u8 0, .int .u8 0, .int .u8 0, .int .u8 0, .int .u8 0, .int .u8 0, .int .u8 0, .int .u8 0, .int .u8 0] 435)).alloc (.cells Tryz.zeroCells242 242) = w1 := ⟨_, rfl⟩
 have hb1 : Below w.heap.size w w1 := by rw [← hw1]; exact ((Below.refl _ _).alloc (Nat.le_refl _) _).alloc (by simp) _
 have hr1 : Blk w1 B 435 (bys (List.replicate 32 0)).toArray := by rw [← hw1]; exact (Blk.new_at HB.out.symm).alloc _
 have he1 : Blk w1 (B + 1) 242 Tryz.zeroCells242 := by rw [← hw1]; exact Blk.new_at (by have := HB.out; simp; omega)
 rw [HB.out, hw1];have hf2 : Fr (fun k => k = B + 1) w1 (w1.setRow (B + 1) C) := ⟨rfl, rfl, rfl, by simp [World.setRow], fun k _ hk => setRow_other w1 (B + 1) k _ hk⟩
 have he2 : ShX (B + 1) ⟨s, d, n⟩ (w1.setRow (B + 1) C) := ⟨by rw [HCe.out]; exact setRow_heap _ _ _ _ _ _ he1, H.out.s, H.out.l⟩
 obtain ⟨w2, hw2⟩ : ∃ w2, w1.setRow (B + 1) C = w2 := ⟨_, rfl⟩;rw [hw2] at hf2 he2 ⊢;have HR2 := Lib.hid (hr1.fr hf2 (by omega))
 have HE2 := Lib.hid he2;have HF2 := Lib.hid (show Fr (fun _ => False) w w2 from (Fr.of_below hb1).trans' hf2 (fun i hi e => by have e : i = B + 1 := e; have := HB.out; omega))
 have HLR2 := Lib.hid ((HR.out.below hb1).fr hf2 (fun e => by have e : 19 = B + 1 := e; have := HR.out.1; have := HB.out; omega))
 have HP := Lib.hid (Pad_sha n w2 (by omega))
 have cn := (show Sh h s d n w2 from ⟨H.out.b.fr HF2.out (fun e => e), H.out.s, H.out.l⟩).cs.2.2
 clear hw1 hb1 hr1 he1 hf2 he2 hw2;go_wp2_with fail;refine HP.out.mono ?_;rintro e w3 ⟨rfl, hk3, hb3⟩;obtain ⟨P, hPe⟩ : ∃ P, w2.heap.size = P := ⟨_, rfl⟩;have hPB : B + 1 < P := by have := HE2.out.b.lt; omega
 rw [hPe] at hk3 ⊢;have hi3 := in_blk hk3 (by rw [padL_len]; have := padZ_lt n; omega)
 rw [padL_len] at hi3;have HWr := Lib.hid (Write_sha R (B + 1) ⟨s, d, n⟩ _ _ (padZ n + 9) _ w3 (show ShX (B + 1) ⟨s, d, n⟩ w3 from Sh.below HE2.out hb3) hi3 (fun _ ad had => by injection had with had; rw [← had]; show P ≠ B + 1; omega) (HLR2.out.below hb3) (by have := HR.out.1; have := HB.out; omega) (by have := padZ_lt n; show n + _ ≤ _; omega))
 have HR3 := Lib.hid (HR2.out.below hb3);have HF3 := Lib.hid (HF2.out.of_below' hb3);obtain ⟨pz, hpz⟩ : ∃ z, padZ n + 9 = z := ⟨_, rfl⟩;rw [hpz] at HWr;have HPZ := Lib.hid hpz;clear hk3 hb3 hi3 cn hPe;rw [HPZ.out];go_wp2_with fail
 with_reducible refine HWr.out.mono ?_
 rintro e w4 ⟨rfl, hx4, hf4⟩;have HX4 := Lib.hid hx4;have HR4 := Lib.hid (HR3.out.fr hf4 (by omega))
 have HF4 := Lib.hid (HF3.out.trans' hf4 (fun i hi e => by have e : i = B + 1 := e; have := HB.out; omega))
 have HSS := Lib.hid (show shaSum R ⟨s, d, n⟩ = outN (shW R ⟨s, d, n⟩ (padL n 8)).s 32 by simp only [shaSum])
 obtain ⟨X, hX⟩ : ∃ X, shW R ⟨s, d, n⟩ (padL n 8) = X := ⟨_, rfl⟩;rw [hX] at HX4 HSS;obtain ⟨s', d', n'⟩ := X;simp only [] at HSS;clear hx4 hf4 hX HWr;go_upto_region 4 with (fail);obtain ⟨S4, hS4⟩ : ∃ z, w4.heap.size = z := ⟨_, rfl⟩;obtain ⟨w5, hw5⟩ : ∃ w5, w4.alloc (.cells #[.int .u8 0, .int .u8 0, .int .u8 0, .int .u8 0, .int .u8 0, .int .u8 0, .int .u8 0, .int .u8 0, .int .u8 0, .int .u8 0, .int .u8 0, .int .u8 0, .int .u8 0, .int .u8 0, .int .u8 0, .int .u8 0, .int .u8 0, .int .u8 0, .int .u8 0, .int .u8 0, .int .u8 0, .int .u8 0, .int .u8 0, .int .u8 0, .int .u8 0, .int .u8 0, .int .u8 0, .int .u8 0, .int .u8 0, .int .u8 0, .int .u8 0, .int .u8 0] 435) = w5 := ⟨_, rfl⟩
 have hb5 : Below w4.heap.size w4 w5 := by rw [← hw5]; exact (Below.refl _ _).alloc (Nat.le_refl _) _
 have hk5 : Blk w5 S4 435 (bys (List.replicate 32 0)).toArray := by rw [← hw5]; exact Blk.new_at hS4.symm
 have hx5 := Sh.below (show Sh (B + 1) s' d' n' w4 from HX4.out) hb5
 have HR5 := Lib.hid (HR4.out.below hb5);have HF5 := Lib.hid (HF4.out.of_below' hb5);have HK5 := Lib.hid hk5;have hS4B : B + 1 < S4 := by have := (show Sh (B + 1) s' d' n' w4 from HX4.out).b.lt; omega
 rw [hw5, hS4];have hs8 := hx5.s;obtain ⟨a0, a1, a2, a3, a4, a5, a6, a7, rfl⟩ := eight hs8;have k0 := hx5.cs.1;have c0 := k0 0 (by decide)
 have c1 := k0 1 (by decide)
 have c2 := k0 2 (by decide)
 have c3 := k0 3 (by decide)
 have c4 := k0 4 (by decide)
 have c5 := k0 5 (by decide)
 have c6 := k0 6 (by decide)
 have c7 := k0 7 (by decide)
 simp only [List.getD_cons_zero, List.getD_cons_succ] at c0 c1 c2 c3 c4 c5 c6 c7;clear hx5 hs8 k0 hw5 hS4 hb5 hk5 HX4;go_wp2_with fail;have HIX : Hid (∀ (i : Nat) (w : World), i < 8 → (Instr.index 239 (.agg #[.int .u32 (a0 : Int), .int .u32 (a1 : Int), .int .u32 (a2 : Int), .int .u32 (a3 : Int), .int .u32 (a4 : Int), .int .u32 (a5 : Int), .int .u32 (a6 : Int), .int .u32 (a7 : Int)]) (.int .i64 (i : Int))).run Tryz.prog w = .ok (.int .u32 (([a0, a1, a2, a3, a4, a5, a6, a7].getD i 0 : Nat) : Int)) w) := by
  intro i w hi;rcases i with _ | _ | _ | _ | _ | _ | _ | _ | i
  all_goals first | (exfalso; omega) | kernel_rfl
 have HNS := Lib.hid (fun t => show outN [a0, a1, a2, a3, a4, a5, a6, a7] (t + 1) = (outN [a0, a1, a2, a3, a4, a5, a6, a7] t).set t (UInt8.ofNat ([a0, a1, a2, a3, a4, a5, a6, a7].getD (t / 4) 0 / 2 ^ (24 - 8 * (t % 4)))) from rfl)
 have HNL := Lib.hid (fun t => outN_len [a0, a1, a2, a3, a4, a5, a6, a7] t)
 have HK0 := Lib.hid (show Blk w5 S4 435 (bys (outN [a0, a1, a2, a3, a4, a5, a6, a7] (4 * 0))).toArray from HK5.out)
 obtain ⟨L, hL⟩ : ∃ L, [a0, a1, a2, a3, a4, a5, a6, a7] = L := ⟨_, rfl⟩;rw [hL] at HIX HNS HNL HK0 HSS;clear hL c0 c1 c2 c3 c4 c5 c6 c7
 go_loopw [19] (fun s19 wr => ∃ i : Nat, s19 = .int .i64 (i : Int) ∧ i ≤ 8 ∧ Hid (Blk wr S4 435 (bys (outN L (4 * i))).toArray ∧ Fr (fun k => k = S4) w5 wr)) (fun s19 _ => 8 - (intOf s19).toNat)
 case atStart => exact ⟨0, rfl, by omega, HK0.out, Fr.refl _ _⟩
 case round =>
  clear HK0;obtain ⟨i, rfl, hi, H⟩ := hrel;by_cases hlt : i < 8
  · have hlt' : (i : Int) < 8 := by omega
    have hix := fun w => HIX.out i w hlt
    obtain ⟨v, hv⟩ : ∃ v, L.getD i 0 = v := ⟨_, rfl⟩;rw [hv] at hix;have HV := Lib.hid hv;clear hv;go_wp2_with fail;obtain ⟨wo, hwo⟩ : ∃ wo, wo = wr := ⟨_, rfl⟩;have H1 := Lib.hid (show Blk wr S4 435 (bys (outN L (4 * i + 0))).toArray ∧ Fr (fun k => k = S4) w5 wr from H.out)
    clear hwo hix H
    go_loopw [23] (fun s23 w2 => ∃ k : Nat, s23 = .int .i64 (k : Int) ∧ k ≤ 4 ∧ Hid (Blk w2 S4 435 (bys (outN L (4 * i + k))).toArray ∧ Fr (fun k => k = S4) w5 w2)) (fun s23 _ => 4 - (intOf s23).toNat)
    case atStart => exact ⟨0, rfl, by omega, H1⟩
    case round =>
     clear H1;obtain ⟨k, rfl, hk, H⟩ := hrel;by_cases hlk : k < 4
     · have hlk' : (k : Int) < 4 := by omega
       have hd : (24 - 8 * (k : Int)).toNat = 24 - 8 * k := by omega
       have hi2 : (4 * (i : Int) + (k : Int)).toNat = 4 * i + k := by omega
       have hb1 : 4 * (i : Int) + (k : Int) < 32 := by omega
       have c0 := (H.out.1.cell (4 * i + k)).trans (bys_at (by rw [HNL.out]; omega))
       have f0 := H.out.1.frozen (4 * i + k);go_wp2_with fail
       go_roundw
       case rel =>
        refine ⟨k + 1, by go_num, by omega, ?_⟩
        have hb := H.out.1.set_ (4 * i + k) (.int .u8 ((UInt8.ofNat (v / 2 ^ (24 - 8 * k))).toNat : Int));have e : (bys (outN L (4 * i + k))).toArray.setIfInBounds (4 * i + k) (.int .u8 ((UInt8.ofNat (v / 2 ^ (24 - 8 * k))).toNat : Int)) = (bys (outN L (4 * i + (k + 1)))).toArray := by
         rw [← Nat.add_assoc, HNS.out, show (4 * i + k) / 4 = i by omega, show (4 * i + k) % 4 = k by omega, HV.out]
         simp [bys, List.map_set]
        rw [e] at hb;have e2 : ((UInt8.ofNat (v / 2 ^ (24 - 8 * k))).toNat : Int) = (v : Int) / 2 ^ (24 - 8 * k) % 256 := by rw [UInt8.toNat_ofNat']; simp
        rw [e2] at hb;exact Lib.hid ⟨hb, H.out.2.setCell (.inl rfl) _⟩
       case measure => simp [intOf]; omega
     · obtain rfl : k = 4 := by omega
       have hlk' : ¬ ((4 : Nat) : Int) < 4 := by decide
       go_wp2_with fail
       go_roundw
       case rel => exact ⟨i + 1, by go_num, by omega, H⟩
       case measure => simp [intOf]; omega
  · obtain rfl : i = 8 := by omega
    have hlt' : ¬ ((8 : Nat) : Int) < 8 := by decide
    have hb4 := H.out.1;have HRB := Lib.hid ((HR5.out.fr H.out.2 (fun e => by have e : B = S4 := e; omega)))
    have HFB := Lib.hid (HF5.out.trans' H.out.2 (fun i hi e => by have e : i = S4 := e; have := HB.out; omega))
    have hl32 := HNL.out (4 * 8);have hss := HSS.out;obtain ⟨O, hO⟩ : ∃ O, outN L (4 * 8) = O := ⟨_, rfl⟩;rw [hO] at hb4 hl32;have hSO : shaSum R ⟨s, d, n⟩ = O := hss.trans hO;have hsz : (bys O).toArray.size = 32 := by rw [List.size_toArray, bys_length, hl32]
    have hall : (bys O).toArray.all (·.oneCell') = true := by rw [Array.all_eq_true_iff_forall_mem]; intro u hu; exact bys_one O u (by simpa using hu)
    obtain ⟨D, hD⟩ : ∃ D, (bys O).toArray = D := ⟨_, rfl⟩;rw [hD] at hb4 hsz hall;have HSO := Lib.hid (show (bys (shaSum R ⟨s, d, n⟩)).toArray = D by rw [hSO]; exact hD)
    have HB4 := Lib.hid hb4;have s435 : (Tryz.prog.info? 435).map (·.size) = some D.size := by rw [hsz]; kernel_rfl
    have HS4 := Lib.hid (show (Tryz.prog.info? 435).map (·.size) = some D.size ∧ (bys (List.replicate 32 0)).toArray.size = D.size ∧ D.all (·.oneCell') = true from ⟨s435, by rw [hsz]; simp [bys], hall⟩)
    clear hb4 hl32 hss hO hSO hsz hall hD s435 HSS H;go_wp2_with (first | (refine wpList_load_row rfl 435 (.tmp 4) rfl S4 rfl 435 D (0, 0) _ HB4.out Tryz.underlying435 rfl HS4.out.1 ?_) | (refine wpList_store_row rfl 435 (.tmp 2) (.tmp 39) rfl B D rfl rfl 435 (bys (List.replicate 32 0)).toArray HRB.out HS4.out.1 HS4.out.2.1 HS4.out.2.2 ?_))
    have hz : (wr.setRow B D).heap[B]? = some (.cells D 435 (0, 0)) := setRow_heap _ _ _ _ _ _ HRB.out;exact bodyPost_ret (v := .agg D) (results_cell_row rfl _ _ B 435 D (0, 0) _ rfl hz Tryz.underlying435 rfl HS4.out.1) rfl ⟨by rw [HSO.out], (HFB.out.below (Nat.le_refl _) (fun _ h => h.elim)).trans ⟨rfl, rfl, rfl, by simp [World.setRow], fun k hk => setRow_other wr B k D (by have := HB.out; omega)⟩⟩
end Go.Proofs.YtcjehjdehdoaeaaGreatDoor
