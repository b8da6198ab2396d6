/-
  Laws on the way to the claim (OpD OpE). Conditions: those that each theorem states.
-/
import Derived.Test.YtcjehjdehdoaeaaGreatDoorOm04
import Derived.Deep.RegionWith
set_option linter.unusedVariables false
set_option linter.unusedSimpArgs false
set_option maxRecDepth 1000000
set_option maxHeartbeats 16000000
namespace Go.Proofs.YtcjehjdehdoaeaaGreatDoor
open Go.RowKit
theorem bound_bd (rng p : Int) : 0 ≤ boundI rng p ∧ boundI rng p ≤ 4294967295 := by unfold boundI; rw [IntKind.wrap_u32]; omega
def bit0 (s : RcS) (p : Int) : Int := if s.now < boundI s.rng p then 0 else 1
structure Five (x : RcX) (sb : Nat) (i : Int) (D S I B E : Nat) (b e : Int) (w : World) : Prop where
 d : Blk w D 371 #[.pointer (some ⟨x.db, 0, none⟩)]
 s : Blk w S 248 #[.pointer (some ⟨sb, 0, none⟩)]
 i : Blk w I 3 #[.int .i64 i]
 b : Blk w B 3 #[.int .i64 b]
 e : Blk w E 54 #[.int .i64 e]
section
variable {x : RcX} {sb D S I B E : Nat} {i b e : Int} {w w' : World}
theorem Five.fr {T : Nat → Prop} (h : Five x sb i D S I B E b e w) (hf : Fr T w w') (hT : ∀ g, g = D ∨ g = S ∨ g = I ∨ g = B ∨ g = E → ¬ T g) : Five x sb i D S I B E b e w' :=
 ⟨h.d.fr hf (hT D (by simp)), h.s.fr hf (hT S (by simp)), h.i.fr hf (hT I (by simp)), h.b.fr hf (hT B (by simp)), h.e.fr hf (hT E (by simp))⟩
theorem Five.drewN (h : Five x sb i D S I B E b e w) (n : Nat) : Five x sb i D S I B E b e (w.drewN n) := ⟨h.d, h.s, h.i, h.b, h.e⟩
end
theorem five_new (x : RcX) (sb : Nat) (i : Int) (w : World) {D S I B E : Nat} (hD : w.heap.size = D) (hS : D + 1 = S) (hI : S + 1 = I) (hB : I + 1 = B) (hE : B + 1 = E) {w5 : World}
 (h : ((((w.alloc (.cells #[.pointer (some ⟨x.db, 0, none⟩)] 371)).alloc (.cells #[.pointer (some ⟨sb, 0, none⟩)] 248)).alloc (.cells #[.int .i64 i] 3)).alloc (.cells #[.int .i64 0] 3)).alloc (.cells #[.int .i64 0] 54) = w5) :
 Five x sb i D S I B E 0 0 w5 ∧ Below w.heap.size w w5 := by
 subst h hD hS hI hB hE;refine ⟨⟨((((Blk.new _ _ _).alloc _).alloc _).alloc _).alloc _, ((((Blk.new_at (by simp)).alloc _).alloc _).alloc _), (((Blk.new_at (by simp)).alloc _).alloc _), ((Blk.new_at (by simp)).alloc _), Blk.new_at (by simp)⟩, ?_⟩
 exact (((((Below.refl _ _).alloc (Nat.le_refl _) _).alloc (by simp) _).alloc (by simp <;> omega) _).alloc (by simp <;> omega) _).alloc (by simp <;> omega) _
theorem Bit_idx (x : RcX) (sb rb : Nat) (ps : List Int) (i : Int) (w : World) (hp : Ps sb rb ps w) (hi : i < 0 ∨ (ps.length : Int) ≤ i) :
 Calls Tryz.prog 225 #[.pointer (some ⟨x.db, 0, none⟩), .pointer (some ⟨sb, 0, none⟩), .int .i64 i] w fun e w' => e = .returned (.tuple #[.int .i64 0, .int .i64 7]) ∧ Below w.heap.size w w' := by
 go_enter_defers Tryz.func225, Tryz.ntmps225
 go_wp2_with fail;obtain ⟨D, hD⟩ : ∃ D, w.heap.size = D := ⟨_, rfl⟩;obtain ⟨S, hS⟩ : ∃ S, D + 1 = S := ⟨_, rfl⟩;obtain ⟨I, hI⟩ : ∃ I, S + 1 = I := ⟨_, rfl⟩;obtain ⟨B, hB⟩ : ∃ B, I + 1 = B := ⟨_, rfl⟩;obtain ⟨E, hE⟩ : ∃ E, B + 1 = E := ⟨_, rfl⟩;obtain ⟨w5, hw5⟩ : ∃ w5, ((((w.alloc (.cells #[.pointer (some ⟨x.db, 0, none⟩)] 371)).alloc (.cells #[.pointer (some ⟨sb, 0, none⟩)] 248)).alloc (.cells #[.int .i64 i] 3)).alloc (.cells #[.int .i64 0] 3)).alloc (.cells #[.int .i64 0] 54) = w5 := ⟨_, rfl⟩
 obtain ⟨h5, hb5⟩ := five_new x sb i w hD hS hI hB hE hw5;rw [hw5];rw [hD, hS, hI, hB, hE];have b0 := h5.b.one;have e0 := h5.e.one;have f1 := h5.b.frozen 0;have f2 := h5.e.frozen 0;have H5 := Lib.hid (And.intro h5 hb5);have HA := Lib.hid (At_no sb rb ps i w5 (hp.below hb5) hi);have hEB : ¬ E = B := by omega
 clear hw5 h5 hb5 hp hi;refine HA.out.mono ?_;rintro e w' ⟨rfl, rfl⟩;go_wp2_with fail;obtain ⟨w6, hw6⟩ : ∃ w6, w'.setCell ⟨E, 0, none⟩ (.int .i64 7) = w6 := ⟨_, rfl⟩;have hE6 := H5.out.1.e.set_ 0 (.int .i64 7);have hB6 := H5.out.1.b.far (p := ⟨E, 0, none⟩) (fun e => hEB e.symm) (.int .i64 7)
 have hL6 := H5.out.2.setCell (p := ⟨E, 0, none⟩) (by show w.heap.size ≤ E; omega) (.int .i64 7)
 rw [hw6] at hE6 hB6 hL6 ⊢;have e6 : w6.cell? ⟨E, 0, none⟩ = some (.int .i64 7) := hE6.cell 0;have b6 := hB6.one;have g1 := hB6.frozen 0;have g2 := hE6.frozen 0;have HL := Lib.hid (And.intro hL6 (And.intro hB6 hE6));have hDE : w.heap.size ≤ E := by omega
 have hDB : w.heap.size ≤ B := by omega
 clear hw6 b0 e0 f1 f2 H5 HA hE6 hB6 hL6
 go_region
 all_goals
  go_wp2_with fail;obtain ⟨hL, hB6, hE6⟩ := HL.out;have k1 := ((hB6.set_ 0 (.int .i64 0)).far (p := ⟨E, 0, none⟩) (fun e => hEB e.symm) (.int .i64 7)).drew.cell 0
  have k2 := ((hE6.far (p := ⟨B, 0, none⟩) hEB (.int .i64 0)).set_ 0 (.int .i64 7)).drew.cell 0;have k3 := ((hL.setCell (p := ⟨B, 0, none⟩) hDB (.int .i64 0)).setCell (p := ⟨E, 0, none⟩) hDE (.int .i64 7)).drew;simp [bodyPostD, Leaves, results, Tryz.results225, go_sem, k1, k2];exact k3
theorem Five.setE {x : RcX} {sb D S I B E : Nat} {i b e : Int} {w : World} (h : Five x sb i D S I B E b e w) (v : Int) : Five x sb i D S I B E b v (w.setCell ⟨E, 0, none⟩ (.int .i64 v)) :=
 ⟨h.d.far (p := ⟨E, 0, none⟩) (BT.ne ⟨_, h.d⟩ ⟨_, h.e⟩ (by decide)) _, h.s.far (p := ⟨E, 0, none⟩) (BT.ne ⟨_, h.s⟩ ⟨_, h.e⟩ (by decide)) _, h.i.far (p := ⟨E, 0, none⟩) (BT.ne ⟨_, h.i⟩ ⟨_, h.e⟩ (by decide)) _, h.b.far (p := ⟨E, 0, none⟩) (BT.ne ⟨_, h.b⟩ ⟨_, h.e⟩ (by decide)) _, h.e.set_ 0 _⟩
theorem Five.setB {x : RcX} {sb D S I B E : Nat} {i b e : Int} {w : World} (h : Five x sb i D S I B E b e w) (hIB : ¬ I = B) (v : Int) : Five x sb i D S I B E v e (w.setCell ⟨B, 0, none⟩ (.int .i64 v)) :=
 ⟨h.d.far (p := ⟨B, 0, none⟩) (BT.ne ⟨_, h.d⟩ ⟨_, h.b⟩ (by decide)) _, h.s.far (p := ⟨B, 0, none⟩) (BT.ne ⟨_, h.s⟩ ⟨_, h.b⟩ (by decide)) _, h.i.far (p := ⟨B, 0, none⟩) hIB _, h.b.set_ 0 _, h.e.far (p := ⟨B, 0, none⟩) (BT.ne ⟨_, h.e⟩ ⟨_, h.b⟩ (by decide)) _⟩
structure Bt (x : RcX) (s : RcS) (sb rb : Nat) (ps : List Int) (i : Nat) (D S I B E : Nat) (b e : Int) (w w' : World) : Prop where
 f : Five x sb i D S I B E b e w'
 r : Rc x s w'
 p : Ps sb rb ps w'
 k : Fr (fun g => g = x.db ∨ g = rb) w w'
 n : w.heap.size ≤ D ∧ D < S ∧ S < I ∧ I < B ∧ B < E ∧ sb < w.heap.size ∧ rb < w.heap.size ∧ x.db < w.heap.size
theorem Bt.setE {x : RcX} {s : RcS} {sb rb : Nat} {ps : List Int} {i D S I B E : Nat} {b e : Int} {w w' : World} (h : Bt x s sb rb ps i D S I B E b e w w') (v : Int) : Bt x s sb rb ps i D S I B E b v w (w'.setCell ⟨E, 0, none⟩ (.int .i64 v)) := by
 obtain ⟨h1, h2, h3, h4, h5⟩ := h;have hf : Fr (fun g => g = E) w' (w'.setCell ⟨E, 0, none⟩ (.int .i64 v)) := Fr.set1 (Fr.refl _ _) 0 _
 exact ⟨h1.setE v, h2.fr hf (by omega) (fun g hg => BT.ne hg ⟨_, h1.e⟩ (by decide)), h3.fr hf (by omega) (by omega), h4.setCell (p := ⟨E, 0, none⟩) (.inr (by show w.heap.size ≤ E; omega)) _, h5⟩
theorem Bt.setB {x : RcX} {s : RcS} {sb rb : Nat} {ps : List Int} {i D S I B E : Nat} {b e : Int} {w w' : World} (h : Bt x s sb rb ps i D S I B E b e w w') (v : Int) : Bt x s sb rb ps i D S I B E v e w (w'.setCell ⟨B, 0, none⟩ (.int .i64 v)) := by
 obtain ⟨h1, h2, h3, h4, h5⟩ := h;have hf : Fr (fun g => g = B) w' (w'.setCell ⟨B, 0, none⟩ (.int .i64 v)) := Fr.set1 (Fr.refl _ _) 0 _
 exact ⟨h1.setB (by omega) v, h2.fr hf (by omega) (fun g hg => BT.ne hg ⟨_, h1.b⟩ (by decide)), h3.fr hf (by omega) (by omega), h4.setCell (p := ⟨B, 0, none⟩) (.inr (by show w.heap.size ≤ B; omega)) _, h5⟩
theorem Bt.rc {x : RcX} {s s' : RcS} {sb rb : Nat} {ps : List Int} {i D S I B E : Nat} {b e : Int} {w w' w'' : World} (h : Bt x s sb rb ps i D S I B E b e w w') (hr : Rc x s' w'') (hf : Fr (fun g => g = x.db) w' w'') : Bt x s' sb rb ps i D S I B E b e w w'' := by
 have hrd : ¬ rb = x.db := BT.ne ⟨_, h.p.r⟩ ⟨_, h.r.b⟩ (by decide)
 have hsd : ¬ sb = x.db := BT.ne ⟨_, h.p.s⟩ ⟨_, h.r.b⟩ (by decide)
 obtain ⟨h1, h2, h3, h4, h5⟩ := h;exact ⟨h1.fr hf (fun g hg e => by omega), hr, h3.fr hf hsd hrd, h4.trans' hf (fun _ _ h => .inl h), h5⟩
theorem Bt.drewN {x : RcX} {s : RcS} {sb rb : Nat} {ps : List Int} {i D S I B E : Nat} {b e : Int} {w w' : World} (h : Bt x s sb rb ps i D S I B E b e w w') (n : Nat) : Bt x s sb rb ps i D S I B E b e w (w'.drewN n) :=
 ⟨h.f.drewN n, h.r.below (below_drewN (Below.refl _ _) n), h.p.below (below_drewN (Below.refl _ _) n), h.k.drewN n, h.n⟩
theorem bit_tail {x : RcX} {s s1 : RcS} {sb rb : Nat} {ps : List Int} {i D S I B E : Nat} {b : Int} {w w' : World} {R : Ending → World → Prop} {tmps : Array Value} (h : Bt x s1 sb rb ps i D S I B E b 0 w w') (hi : i < ps.length)
 (hR : ∀ w'', Rc x s1 w'' → Ps sb rb (ps.set i (pnext (ps.getD i 0) b)) w'' → Fr (fun g => g = x.db ∨ g = rb) w w'' → R (.returned (.tuple #[.int .i64 b, .int .i64 0])) w'')
 (ht : tmps[6]? = some (.pointer (some ⟨B, 0, none⟩)) ∧ tmps[7]? = some (.pointer (some ⟨E, 0, none⟩))) :
 Leaves Tryz.prog Tryz.f225 tmps R [{ target := .fn (.func 230) #[.pointer (some ⟨D, 0, none⟩), .pointer (some ⟨E, 0, none⟩), .pointer (some ⟨B, 0, none⟩), .pointer (some ⟨S, 0, none⟩), .pointer (some ⟨I, 0, none⟩)], args := #[.agg #[.int .i64 s.rd, .int .u32 s.rng, .int .u32 s.now]] }] .returning w' := by
 have hn := h.n;refine leaves_cons (by simp) rfl ((Bit1_idle x.db sb rb s ps i 0 b D E B S I w' h.p hi h.f.d h.f.e h.f.b h.f.s h.f.i ⟨by omega, by omega⟩).mono ?_)
 rintro e u w11 ⟨rfl, rfl, hp11, hE11, hB11, hF11⟩;have e11 := hE11.one;have b11 := hB11.one;refine ⟨.tuple #[.int .i64 b, .int .i64 0], by simp [results, Tryz.results225, go_sem, ht.1, ht.2, e11, b11], hR _ ?_ hp11 ?_⟩
 · refine h.r.fr hF11 (by have := BT.ne ⟨_, h.p.r⟩ ⟨_, h.r.b⟩ (by decide); omega) (fun g hg e => ?_)
   rcases e with e | e
   · exact BT.ne hg ⟨_, h.p.r⟩ (by decide) e
   · exact BT.ne hg ⟨_, h.f.e⟩ (by decide) e
 · exact h.k.trans' hF11 fun k hk h => by omega
theorem Bit_core (x : RcX) (s : RcS) (sb rb : Nat) (ps : List Int) (i : Nat) (w : World) (h : Rc x s w) (hp : Ps sb rb ps w) (hi : i < ps.length) (s1 : RcS) (hs1 : upperF s (boundI s.rng (ps.getD i 0)) = s1) (b : Int) (hb : bit0 s (ps.getD i 0) = b) :
 Calls Tryz.prog 225 #[.pointer (some ⟨x.db, 0, none⟩), .pointer (some ⟨sb, 0, none⟩), .int .i64 i] w fun e w' =>
  (16777216 ≤ s1.rng ∧ e = .returned (.tuple #[.int .i64 b, .int .i64 0]) ∧ Rc x s1 w' ∧ Ps sb rb (ps.set i (pnext (ps.getD i 0) b)) w' ∧ Fr (fun g => g = x.db ∨ g = rb) w w') ∨
  (s1.rng < 16777216 ∧ s1.rd < x.n ∧ e = .returned (.tuple #[.int .i64 b, .int .i64 0]) ∧ Rc x (widenF x.l s1) w' ∧ Ps sb rb (ps.set i (pnext (ps.getD i 0) b)) w' ∧ Fr (fun g => g = x.db ∨ g = rb) w w') ∨
  (s1.rng < 16777216 ∧ s1.rd = x.n ∧ e = .returned (.tuple #[.int .i64 0, .int .i64 1]) ∧ Rc x s w' ∧ Ps sb rb ps w' ∧ Fr (fun g => g = x.db ∨ g = rb) w w') := by
 have hmf : ∀ (fn : Fn) (first cap : Array Value) (w : World), (Instr.makeFunc fn first cap).run Tryz.prog w = .ok (.func fn first cap) w := fun _ _ _ _ => rfl
 obtain ⟨p, hpp⟩ : ∃ p, ps.getD i 0 = p := ⟨_, rfl⟩;rw [hpp] at hs1 hb ⊢;have HP := Lib.hid hpp;have HS := Lib.hid (And.intro h.rd (And.intro h.r h.v));clear hpp
 go_enter_defers Tryz.func225, Tryz.ntmps225
 go_wp2_with fail;obtain ⟨D, hD⟩ : ∃ D, w.heap.size = D := ⟨_, rfl⟩;obtain ⟨S, hS⟩ : ∃ S, D + 1 = S := ⟨_, rfl⟩;obtain ⟨I, hI⟩ : ∃ I, S + 1 = I := ⟨_, rfl⟩;obtain ⟨B, hB⟩ : ∃ B, I + 1 = B := ⟨_, rfl⟩;obtain ⟨E, hE⟩ : ∃ E, B + 1 = E := ⟨_, rfl⟩;obtain ⟨w5, hw5⟩ : ∃ w5, ((((w.alloc (.cells #[.pointer (some ⟨x.db, 0, none⟩)] 371)).alloc (.cells #[.pointer (some ⟨sb, 0, none⟩)] 248)).alloc (.cells #[.int .i64 i] 3)).alloc (.cells #[.int .i64 0] 3)).alloc (.cells #[.int .i64 0] 54) = w5 := ⟨_, rfl⟩
 obtain ⟨h5, hb5⟩ := five_new x sb i w hD hS hI hB hE hw5;have H5 : Hid (Bt x s sb rb ps i D S I B E 0 0 w w5) := ⟨h5, h.below hb5, hp.below hb5, (Fr.refl _ _).of_below' hb5, by have := hp.s.lt; have := hp.r.lt; have := h.b.lt; omega⟩
 rw [hw5];rw [hD, hS, hI, hB, hE];have hHs := Lib.hid (And.intro hs1 (And.intro hb hi));have HA := Lib.hid (At_yes sb rb ps i w5 (hp.below hb5) hi);have e0 := h5.e.one;have f2 := h5.e.frozen 0;clear hw5 h5 hb5 hp hi hs1 hb h hD hS hI hB hE;refine HA.out.mono ?_;rintro e w' ⟨rfl, rfl⟩;rw [HP.out];clear HA;go_upto_region 4 with (fail);obtain ⟨w6, hw6⟩ : ∃ w6, w'.setCell ⟨E, 0, none⟩ (.int .i64 0) = w6 := ⟨_, rfl⟩
 have h6 := H5.out.setE 0;rw [hw6] at h6 ⊢;have H6 := Lib.hid h6;have d6 := h6.f.d.one;have r1 : w6.cell? ⟨x.db, 1, none⟩ = some (.int .i64 s.rd) := h6.r.b.cell 1;have r2 : w6.cell? ⟨x.db, 2, none⟩ = some (.int .u32 s.rng) := h6.r.b.cell 2;have r3 : w6.cell? ⟨x.db, 3, none⟩ = some (.int .u32 s.now) := h6.r.b.cell 3;have hr := h6.r.r;clear hw6 h6 H5 e0 f2;go_upto_region 5 with (fail);have HBo := Lib.hid (Bound_any s.rng p w6.drew hr)
 have HUp := Lib.hid (upper_any x s (boundI s.rng p) w6.drew (H6.out.drewN 1).r (bound_bd _ _));go_cut [31] from 23 to 30 (fun s31 wx => s31 = .bool (decide (boundI s.rng p ≤ s.now)) ∧ Hid (Bt x s1 sb rb ps i D S I B E 0 0 w wx))
 case first =>
  refine wp_region_noPanic ?_;go_region_with (first
   | (go_at_call 234; refine HBo.out.mono ?_; rintro e w7 ⟨rfl, rfl⟩)
   | (go_at_call 233; refine HUp.out.mono ?_; rintro e w7 ⟨rfl, hr7, hf7⟩; have H7 := Lib.hid ((H6.out.drewN 1).rc hr7 hf7); clear hr7 hf7))
  all_goals
   refine NoPanic.normal ?_;go_wp2_with fail
   go_meet
   exact ⟨rfl, by rw [← hHs.out.1]; exact H7.out⟩
 case rest =>
  obtain ⟨rfl, H7⟩ := hcut;clear HBo HUp H6 d6 r1 r2 r3 hr;obtain ⟨b0, hb0⟩ : ∃ b0, decide (boundI s.rng p ≤ s.now) = b0 := ⟨_, rfl⟩;have HB0 : Hid ((if b0 = true then (1 : Int) else 0) = b) := by
   show _ = _;rw [← hHs.out.2.1, ← hb0];unfold bit0;by_cases h : boundI s.rng p ≤ s.now
   · rw [if_pos (decide_eq_true h), if_neg (by omega)]
   · rw [if_neg (by simp [h]), if_pos (by omega)]
  rw [hb0];clear hb0;have d7 := H7.out.f.d.one;have b7 := H7.out.f.b.one;have f7 := H7.out.f.b.frozen 0;have hDB : ¬ D = B := BT.ne ⟨_, H7.out.f.d⟩ ⟨_, H7.out.f.b⟩ (by decide)
  have HN : Hid (Bt x s1 sb rb ps i D S I B E b 0 w (if b0 = true then wc.setCell ⟨B, 0, none⟩ (.int .i64 1) else wc)) := by
   show Bt _ _ _ _ _ _ _ _ _ _ _ _ _ _ _;cases b0
   · rw [← HB0.out]; exact H7.out
   · rw [← HB0.out]; exact H7.out.setB 1
  cases b0;all_goals
   go_wp2_with fail
   (first
    | (obtain ⟨w8, hw8⟩ : ∃ w8, wc.setCell ⟨B, 0, none⟩ (.int .i64 1) = w8 := ⟨_, rfl⟩
       rw [hw8];have H8 : Hid (Bt x s1 sb rb ps i D S I B E b 0 w w8) := by rw [← hw8]; exact HN.out
       clear hw8)
    | (obtain ⟨w8, rfl⟩ : ∃ w8, wc = w8 := ⟨_, rfl⟩
       have H8 : Hid (Bt x s1 sb rb ps i D S I B E b 0 w wc) := HN.out;obtain ⟨w8, rfl⟩ : ∃ w8, w8 = wc := ⟨_, rfl⟩))
   clear HN HB0 d7 b7 f7 H7;have e9 := (H8.out.setB b).f.e.one;have b9 := H8.out.f.b.one;have g1 := H8.out.f.b.frozen 0;have g2 := (H8.out.setB b).f.e.frozen 0;by_cases hr : 16777216 ≤ s1.rng
   · refine (widen_idle x s1 w8 H8.out.r hr).mono ?_;rintro e w9 ⟨rfl, rfl⟩;go_wp2_with fail;exact bit_tail ((H8.out.setB b).setE 0) hHs.out.2.2 (fun w' h1 h2 h3 => Or.inl ⟨hr, rfl, h1, by rw [← HP.out]; exact h2, h3⟩) ⟨rfl, rfl⟩
   · by_cases hrd : s1.rd < x.n
     · refine (widen_step x s1 w8 H8.out.r (by omega) hrd).mono ?_
       rintro e w9 ⟨rfl, hr9, hf9⟩;have H9 := Lib.hid (H8.out.rc hr9 hf9);clear b9 e9 g1 g2 hr9 hf9;have b9 := H9.out.f.b.one;have e9 := (H9.out.setB b).f.e.one;have g1 := H9.out.f.b.frozen 0;have g2 := (H9.out.setB b).f.e.frozen 0;go_wp2_with fail;exact bit_tail ((H9.out.setB b).setE 0) hHs.out.2.2 (fun w' h1 h2 h3 => Or.inr (Or.inl ⟨by omega, hrd, rfl, h1, by rw [← HP.out]; exact h2, h3⟩)) ⟨rfl, rfl⟩
     · refine (widen_end x s1 w8 H8.out.r (by omega) (by have := H8.out.r.rd; omega)).mono ?_
       rintro e w9 ⟨rfl, n, rfl⟩;go_wp2_with fail;have h9 := H8.out.drewN n;show Leaves _ _ _ _ _ _ _;refine leaves_cons (by simp) rfl ((Bit1_panics x s s1 1 0 b D E B _ _ [] (w8.drewN n) h9.r.b h9.f.d h9.f.e h9.f.b (by decide)).mono ?_)
       rintro e u w10 ⟨rfl, rfl, hb10, hE10, hB10, hF10⟩;show Leaves _ _ _ _ [] _ _;have e10 := hE10.one;have b10 := hB10.one;have hn := h9.n;refine ⟨.tuple #[.int .i64 0, .int .i64 1], by simp [results, Tryz.results225, go_sem, e10, b10], .inr (.inr ⟨by omega, by have := H8.out.r.rd; omega, rfl, ?_, ?_, ?_⟩)⟩
       · have hA : ∀ g, BT (w8.drewN n) g 5 → ¬ (g = x.db ∨ g = E ∨ g = B) := fun g hg e => by
          rcases e with e | e | e
          · exact BT.ne hg ⟨_, h9.r.b⟩ (by decide) e
          · exact BT.ne hg ⟨_, h9.f.e⟩ (by decide) e
          · exact BT.ne hg ⟨_, h9.f.b⟩ (by decide) e
         exact ⟨hb10, h9.r.d.fr hF10 (fun h0 ad had => hA _ (h9.r.bt h0 ad had)), h9.r.c, h9.r.ad, fun h0 ad had => (h9.r.bt h0 ad had).fr hF10 (hA _ (h9.r.bt h0 ad had)), HS.out.1, HS.out.2.1, HS.out.2.2⟩
       · have h1 : ¬ sb = x.db := BT.ne ⟨_, h9.p.s⟩ ⟨_, h9.r.b⟩ (by decide)
         have h2 : ¬ rb = x.db := BT.ne ⟨_, h9.p.r⟩ ⟨_, h9.r.b⟩ (by decide)
         exact h9.p.fr hF10 (by omega) (by omega)
       · exact h9.k.trans' hF10 fun k hk h => by omega
end Go.Proofs.YtcjehjdehdoaeaaGreatDoor
namespace Go.Proofs.YtcjehjdehdoaeaaGreatDoor
open Go.RowKit
structure BitR where
 v : Int
 e : Int
 s : RcS
 ps : List Int
def bitT (l : List UInt8) (s : RcS) (ps : List Int) (i : Int) : BitR :=
 if 0 ≤ i ∧ i < (ps.length : Int) then
  if 16777216 ≤ (upperF s (boundI s.rng (ps.getD i.toNat 0))).rng then ⟨bit0 s (ps.getD i.toNat 0), 0, upperF s (boundI s.rng (ps.getD i.toNat 0)), ps.set i.toNat (pnext (ps.getD i.toNat 0) (bit0 s (ps.getD i.toNat 0)))⟩
  else if (upperF s (boundI s.rng (ps.getD i.toNat 0))).rd < l.length then ⟨bit0 s (ps.getD i.toNat 0), 0, widenF l (upperF s (boundI s.rng (ps.getD i.toNat 0))), ps.set i.toNat (pnext (ps.getD i.toNat 0) (bit0 s (ps.getD i.toNat 0)))⟩
  else ⟨0, 1, s, ps⟩
 else ⟨0, 7, s, ps⟩
theorem bitT_bit (l : List UInt8) (s : RcS) (ps : List Int) (i : Int) : (bitT l s ps i).v = 0 ∨ (bitT l s ps i).v = 1 := by
 unfold bitT
 repeat' split
 all_goals first | exact .inl rfl | (show bit0 _ _ = 0 ∨ bit0 _ _ = 1; unfold bit0; split; exact .inl rfl; exact .inr rfl)
theorem Bit_any (x : RcX) (s : RcS) (sb rb : Nat) (ps : List Int) (i : Int) (w : World) (h : Rc x s w) (hp : Ps sb rb ps w) :
 Calls Tryz.prog 225 #[.pointer (some ⟨x.db, 0, none⟩), .pointer (some ⟨sb, 0, none⟩), .int .i64 i] w fun e w' =>
  e = .returned (.tuple #[.int .i64 (bitT x.l s ps i).v, .int .i64 (bitT x.l s ps i).e]) ∧ Rc x (bitT x.l s ps i).s w' ∧ Ps sb rb (bitT x.l s ps i).ps w' ∧ Fr (fun g => g = x.db ∨ g = rb) w w' := by
 by_cases hi : 0 ≤ i ∧ i < (ps.length : Int)
 · obtain ⟨k, rfl⟩ : ∃ k : Nat, i = k := ⟨i.toNat, by omega⟩
   have hk : k < ps.length := by omega
   refine (Bit_core x s sb rb ps k w h hp hk _ rfl _ rfl).mono ?_;rintro e w' (⟨h1, rfl, h2, h3, h4⟩ | ⟨h1, h0, rfl, h2, h3, h4⟩ | ⟨h1, h0, rfl, h2, h3, h4⟩)
   · rw [bitT, if_pos hi, Int.toNat_natCast, if_pos h1]; exact ⟨rfl, h2, h3, h4⟩
   · rw [bitT, if_pos hi, Int.toNat_natCast, if_neg (by omega), if_pos (by rw [h.len]; exact h0)]; exact ⟨rfl, h2, h3, h4⟩
   · rw [bitT, if_pos hi, Int.toNat_natCast, if_neg (by omega), if_neg (by rw [h.len]; omega)]; exact ⟨rfl, h2, h3, h4⟩
 · refine (Bit_idx x sb rb ps i w hp (by omega)).mono ?_
   rintro e w' ⟨rfl, hb⟩;rw [bitT, if_neg hi];exact ⟨rfl, h.below hb, hp.below hb, Fr.of_below hb⟩
def doneB (n : Nat) (s : RcS) : Bool := decide (s.rd = n) && decide (s.now = 0)
theorem Done_any (x : RcX) (s : RcS) (w : World) (h : Rc x s w) :
 Calls Tryz.prog 210 #[.pointer (some ⟨x.db, 0, none⟩)] w fun e w' => e = .returned (.bool (doneB x.n s)) ∧ ∃ n, w' = w.drewN n := by
 have c0 : w.cell? ⟨x.db, 0, none⟩ = some (.slice x.A x.n x.c) := h.b.cell 0;have c1 : w.cell? ⟨x.db, 1, none⟩ = some (.int .i64 s.rd) := h.b.cell 1;have c3 : w.cell? ⟨x.db, 3, none⟩ = some (.int .u32 s.now) := h.b.cell 3;obtain ⟨rd, rng, now⟩ := s;simp only [] at c1 c3;clear h;unfold doneB;by_cases h1 : rd = x.n
 · rw [decide_eq_true h1, Bool.true_and];have h1' : ((rd : Int) == (x.n : Int)) = true := beq_iff_eq.2 (by omega)
   have h1'' : (rd == x.n) = true := beq_iff_eq.2 h1;show Calls _ _ _ _ _;obtain ⟨b, hb⟩ : ∃ b, decide (now = 0) = b := ⟨_, rfl⟩;rw [hb];have hb' : (now == 0) = b := by rw [← hb]; rfl
   clear hb h1;go_enter Tryz.func210, Tryz.ntmps210;go_wp2_with fail
   go_quiet (fail)
   go_wp2_with fail;go_ret;exact ⟨rfl, _, rfl⟩
 · rw [decide_eq_false h1, Bool.false_and];have h1' : ((rd : Int) == (x.n : Int)) = false := beq_eq_false_iff_ne.2 (by omega)
   have h1'' : (rd == x.n) = false := beq_eq_false_iff_ne.2 h1;clear h1;go_enter Tryz.func210, Tryz.ntmps210;go_wp2_with fail
   go_quiet (fail)
   go_wp2_with fail;go_ret;exact ⟨rfl, _, rfl⟩
theorem wpList_dup {ops : Array Oper} {rest : List Oper} {o : Oper} {a : Act} {Q : Exit → Act → World → Prop} (hgd : o.guard = none) (s x : Operand)
 (ho : o.op = .call { callee := .builtin .append, args := #[s, x], argTypes := #[22, 22] }) {w : World} (hs : a.eval s = .slice none 0 0)
 (A : Option Addr) (m c : Nat) (l : List UInt8) (hx : a.eval x = .slice A m c) (hr : In w A m l)
 (h : ∀ a' c' w', Fresh w w' a' m c' l → wpList Tryz.prog ops Q rest (a.put o.dst (.slice a' m c')) w') : wpList Tryz.prog ops Q (o :: rest) a w := by
 obtain ⟨i0, hi0, hz0, hz1, hz2⟩ := info_parts infou8;refine wpList_append_rd hgd s x 22 ho w.heap.size 5 i0 _ 1 1 Tryz.underlying22 hi0 hz0 hz1 hz2 rfl (by decide) _ 0 [] hs (World.ownsRow_nil _ _ _ _) A m c (bys l) hx hr.1 (bys_one _) (by have := hr.2.2; simp only [maxLen]; omega) (by have := hr.2.2; omega) (Nat.le_refl _) ?_
 intro a1 c1 w1 hown hg hat;simp only [Nat.zero_add, List.nil_append] at hown hat ⊢;refine h a1 c1 w1 ⟨hown, ?_⟩;refine Below.grown (Below.refl _ w) hg (Nat.le_refl _) ?_;intro k hk;simp [Value.ownBlock] at hk
theorem Fresh.in_ {w w' : World} {a : Option Addr} {n c : Nat} {l : List UInt8} (h : Fresh w w' a n c l) (hn : n ≤ 140737488351232) : In w' a n l :=
 ⟨Rd.of_own h.1, fun h0 ad had => (own_lt h.1 (own_addr h.1 had)).2, hn⟩
def nowN (l : List UInt8) : Nat → Int
 | 0 => 0
 | k + 1 => bits .or .u32 (nowN l k * 256 % 4294967296) (((l.getD (k + 1) 0).toNat : Int) % 4294967296)
theorem nowN_bd (l : List UInt8) (k : Nat) : 0 ≤ nowN l k ∧ nowN l k ≤ 4294967295 := by
 cases k with
 | zero => simp [nowN]
 | succ k => exact or32_bd _ _
def rcNewE (l : List UInt8) : Int := if l.length < 5 then 1 else if l.getD 0 0 ≠ 0 ∨ nowN l 4 = 4294967295 then 2 else 0
def rcX0 (db : Nat) (A : Option Addr) (n c : Nat) (l : List UInt8) : RcX := ⟨db, A, n, c, l⟩
def rcS0 (l : List UInt8) : RcS := ⟨5, 4294967295, nowN l 4⟩
def RcNewPost (l : List UInt8) (w : World) (e : Ending) (w' : World) : Prop :=
 Below w.heap.size w w' ∧ ((rcNewE l ≠ 0 ∧ e = .returned (.tuple #[.pointer none, .int .i64 (rcNewE l)])) ∨
  (rcNewE l = 0 ∧ ∃ db A c, e = .returned (.tuple #[.pointer (some ⟨db, 0, none⟩), .int .i64 0]) ∧ w.heap.size ≤ db ∧ (0 < l.length → ∀ ad, A = some ad → w.heap.size ≤ ad.block) ∧ Rc (rcX0 db A l.length c l) (rcS0 l) w'))
theorem rcNew_mk {w w2 wr : World} {A2 : Option Addr} {n c2 D : Nat} {l : List UInt8} (hF : Fresh w w2 A2 n c2 l) (hn : l.length = n) (h5 : 5 ≤ n) (hm : n ≤ 140737488351232) (hD : w2.heap.size = D)
 (hB : Blk wr D 388 #[.slice A2 n c2, .int .i64 5, .int .u32 4294967295, .int .u32 (nowN l 4)]) (hb : Below w2.heap.size w2 wr) (hE : rcNewE l = 0) (k : Nat) :
 RcNewPost l w (.returned (.tuple #[.pointer (some ⟨D, 0, none⟩), .int .i64 0])) (wr.drewN k) := by
 subst hn hD;have hO := hF.1;refine ⟨below_drewN (bup hF.2 hb) _, .inr ⟨hE, _, A2, c2, rfl, hF.2.size, fun h0 ad had => (own_lt hO (own_addr hO had)).1, ?_⟩⟩
 exact ⟨hB, (hF.in_ hm).below (below_drewN hb _), own_le hO, fun h0 ad had => (own_lt hO (own_addr hO had)).2, fun h0 ad had => (own_bt hO (own_addr hO had)).fr (Fr.of_below (S := fun _ => False) (below_drewN hb _)) id, h5, ⟨by show (0 : Int) ≤ 4294967295; decide, by show (4294967295 : Int) ≤ 4294967295; decide⟩, nowN_bd l 4⟩
theorem rcNew_any (A : Option Addr) (n c : Nat) (l : List UInt8) (w : World) (h : In w A n l) (hc : n ≤ c) :
 Calls Tryz.prog 219 #[.slice A n c] w (RcNewPost l w) := by
 have hlen := h.len;have hm := h.2.2;by_cases h5 : n < 5
 · have he : rcNewE l = 1 := by unfold rcNewE; rw [if_pos (by omega)]
   have HE := Lib.hid he;clear he hlen;go_enter Tryz.func219, Tryz.ntmps219;go_wp2_with fail
   go_ret2
   exact ⟨Below.refl _ _, .inl ⟨by rw [HE.out]; decide, by rw [HE.out]; rfl⟩⟩
 · have h5' : ¬ (n : Int) < 5 := by omega
   have HI := Lib.hid h;have HL := Lib.hid hlen;obtain ⟨ab, ao, rfl, hco⟩ := h.1.cells_at (by omega)
   have hab := h.2.1 (by omega) _ rfl
   clear hlen h hco;go_enter Tryz.func219, Tryz.ntmps219;go_wp2_with (with_reducible refine wpList_dup rfl _ _ rfl rfl (some ⟨ab, ao, none⟩) n c l rfl HI.out ?_);intro A2 c2 w2 hF;have HF := Lib.hid hF;clear hF;go_wp2_with fail;obtain ⟨D, hD⟩ : ∃ D, w2.heap.size = D := ⟨_, rfl⟩;obtain ⟨w3, hw3⟩ : ∃ w3, w2.alloc (.cells #[.slice A2 n c2, .int .i64 5, .int .u32 4294967295, .int .u32 0] 388) = w3 := ⟨_, rfl⟩
   have H3 : Hid (Blk w3 D 388 #[.slice A2 n c2, .int .i64 5, .int .u32 4294967295, .int .u32 (nowN l 0)] ∧ Below w2.heap.size w2 w3) := by rw [← hw3, ← hD]; exact ⟨Blk.new _ _ _, (Below.refl _ _).alloc (Nat.le_refl _) _⟩
   have HDz := Lib.hid hD;rw [hw3, hD];clear hw3 hD
   go_loopw [18] (fun s18 wr => ∃ (i : Nat), s18 = .int .i64 (i : Int) ∧ i ≤ 4 ∧ Hid (Blk wr D 388 #[.slice A2 n c2, .int .i64 5, .int .u32 4294967295, .int .u32 (nowN l i)] ∧ Below w2.heap.size w2 wr)) (fun s18 _ => 4 - (intOf s18).toNat)
   case atStart => exact ⟨0, rfl, by omega, H3⟩
   case round =>
    clear H3;obtain ⟨i, rfl, hi, H⟩ := hrel;have hB : Below w.heap.size w wr := bup HF.out.2 H.out.2;have hIr := HI.out.below hB;obtain ⟨ab', ao', he, hco⟩ := hIr.1.cells_at (by omega)
    obtain ⟨rfl, rfl⟩ : ab' = ab ∧ ao' = ao := by injection he with he; injection he with h1 h2; exact ⟨h1.symm, h2.symm⟩
    by_cases hlt : i < 4
    · have hlt' : (i : Int) < 4 := by omega
      obtain ⟨z, hz⟩ : ∃ z, l[i + 1]? = some z := ⟨_, List.getElem?_eq_getElem (by have := HL.out; omega)⟩
      have hzg : l.getD (i + 1) 0 = z := by simp [List.getD, hz]
      have b0 := hco (i + 1) z hz;rw [show ao' + (i + 1) = ao' + 1 + i by omega] at b0
      have hst : nowN l (i + 1) = bits .or .u32 (nowN l i * 256 % 4294967296) ((z.toNat : Int) % 4294967296) := by rw [nowN, hzg]
      have Hst := Lib.hid hst;obtain ⟨hn0, hn1⟩ := nowN_bd l i;obtain ⟨q, hq⟩ : ∃ q, nowN l i = q := ⟨_, rfl⟩;rw [hq] at H Hst hn0 hn1;have c3 : wr.cell? ⟨D, 3, none⟩ = some (.int .u32 q) := H.out.1.cell 3;have f3 := H.out.1.frozen 3;clear hst hz hzg hq hco he hB hIr;go_wp2_with fail
      go_roundw
      case rel => exact ⟨i + 1, by go_num, by omega, by rw [Hst.out]; exact H.out.1.set_ 3 _, H.out.2.setCell (by have := HDz.out; show w2.heap.size ≤ D; omega) _⟩
      case measure => simp [intOf]; omega
    · obtain rfl : i = 4 := by omega
      obtain ⟨z, hz⟩ : ∃ z, l[0]? = some z := ⟨_, List.getElem?_eq_getElem (by have := HL.out; omega)⟩
      have hzg : l.getD 0 0 = z := by simp [List.getD, hz]
      have b0 := hco 0 z hz;rw [Nat.add_zero] at b0;obtain ⟨q, hq⟩ : ∃ q, nowN l 4 = q := ⟨_, rfl⟩;have HQ := Lib.hid hq;rw [hq] at H;have c3 : wr.cell? ⟨D, 3, none⟩ = some (.int .u32 q) := H.out.1.cell 3;have c2' : wr.cell? ⟨D, 2, none⟩ = some (.int .u32 4294967295) := H.out.1.cell 2;have HB := Lib.hid hB;have HZ := Lib.hid hzg;have hlt' : ¬ ((4 : Nat) : Int) < 4 := by decide
      clear hz hzg hq hco he hB hIr hlt;by_cases hz0 : z = 0
      · subst hz0;by_cases hq0 : q = 4294967295
        · subst hq0;have HE : Hid (rcNewE l = 2) := by show _ = _; unfold rcNewE; rw [if_neg (by have := HL.out; omega), if_pos (.inr HQ.out)]
          go_wp2_with fail
          go_quiet (fail)
          go_wp2_with fail
          go_ret2
          exact ⟨below_drewN HB.out _, .inl ⟨by rw [HE.out]; decide, by rw [HE.out]; rfl⟩⟩
        · have HE : Hid (rcNewE l = 0) := by
           show _ = _; unfold rcNewE; rw [if_neg (by have := HL.out; omega), if_neg]
           rintro (h | h)
           · exact h HZ.out
           · exact hq0 (HQ.out.symm.trans h)
          have hq1 : (q == 4294967295) = false := beq_eq_false_iff_ne.2 hq0;clear hq0;go_wp2_with fail
          go_quiet (fail)
          go_wp2_with fail
          go_ret2
          exact rcNew_mk HF.out HL.out (by omega) hm HDz.out (by rw [HQ.out]; exact H.out.1) H.out.2 HE.out _
      · have HE : Hid (rcNewE l = 2) := by
         show _ = _; unfold rcNewE; rw [if_neg (by have := HL.out; omega), if_pos (.inl (by rw [HZ.out]; exact hz0))]
        have hz1 : ((z.toNat : Int) == 0) = false := beq_eq_false_iff_ne.2 fun h => hz0 (UInt8.toNat_inj.1 (by show z.toNat = 0; omega))
        have hz2 : ((z.toNat : Int) != 0) = true := by unfold bne; rw [hz1]; rfl
        clear hz0;go_wp2_with fail
        go_quiet (fail)
        go_wp2_with fail
        go_ret2
        exact ⟨below_drewN HB.out _, .inl ⟨by rw [HE.out]; decide, by rw [HE.out]; rfl⟩⟩
end Go.Proofs.YtcjehjdehdoaeaaGreatDoor
