/-
  Laws on the way to the claim (OpF OpG OpH). Conditions: those that each theorem states.
-/
import Derived.Test.YtcjehjdehdoaeaaGreatDoorOm05
set_option linter.unusedVariables false
set_option linter.unusedSimpArgs false
set_option maxRecDepth 1000000
set_option maxHeartbeats 16000000
namespace Go.Proofs.YtcjehjdehdoaeaaGreatDoor
open Go.RowKit
theorem Dir1_panics (x : RcX) (s t : RcS) (k e0 b0 : Int) (D E B : Nat) (older : List PanicEntry) (w : World) (hb : Blk w x.db 388 #[.slice x.A x.n x.c, .int .i64 t.rd, .int .u32 t.rng, .int .u32 t.now])
 (hD : Blk w D 371 #[.pointer (some ⟨x.db, 0, none⟩)]) (hE : Blk w E 54 #[.int .i64 e0]) (hB : Blk w B 42 #[.int .u32 b0]) (hk : ¬ k = 0) :
 CallsD Tryz.prog 243 #[.agg #[.int .i64 s.rd, .int .u32 s.rng, .int .u32 s.now], .pointer (some ⟨D, 0, none⟩), .pointer (some ⟨E, 0, none⟩), .pointer (some ⟨B, 0, none⟩)] (.panicking ({ v := .iface 400 (.int .i64 k), recovered := false } :: older)) w fun e u' w' =>
  e = .returned (.tuple #[]) ∧ u' = .panicking ({ v := .iface 400 (.int .i64 k), recovered := true } :: older) ∧ Blk w' x.db 388 #[.slice x.A x.n x.c, .int .i64 s.rd, .int .u32 s.rng, .int .u32 s.now] ∧ Blk w' E 54 #[.int .i64 k] ∧ Blk w' B 42 #[.int .u32 0] ∧ Fr (fun g => g = x.db ∨ g = E ∨ g = B) w w' := by
 have hsz : ∀ {g t cs}, Blk w g t cs → ¬ g = w.heap.size := fun h e => by have := h.lt; omega
 obtain ⟨w1, hw1⟩ : ∃ w1, w.alloc (.cells #[.int .i64 s.rd, .int .u32 s.rng, .int .u32 s.now] 386) = w1 := ⟨_, rfl⟩;have hF1 : Fr (fun g => g = x.db ∨ g = E ∨ g = B) w w1 := by rw [← hw1]; exact (Fr.refl _ _).alloc _
 have hb1 := hb.alloc (.cells #[.int .i64 s.rd, .int .u32 s.rng, .int .u32 s.now] 386);have hD1 := hD.alloc (.cells #[.int .i64 s.rd, .int .u32 s.rng, .int .u32 s.now] 386);have hE1 := hE.alloc (.cells #[.int .i64 s.rd, .int .u32 s.rng, .int .u32 s.now] 386);have hB1 := hB.alloc (.cells #[.int .i64 s.rd, .int .u32 s.rng, .int .u32 s.now] 386);rw [hw1] at hb1 hD1 hE1 hB1;obtain ⟨W, hW⟩ : ∃ W, w.heap.size = W := ⟨_, rfl⟩
 have hN1 : Blk w1 W 386 #[.int .i64 s.rd, .int .u32 s.rng, .int .u32 s.now] := by rw [← hw1, ← hW]; exact Blk.new _ _ _
 have n0 := hN1.three.1;have n1 := hN1.three.2.1;have n2 := hN1.three.2.2;have d0 := hD1.one;have e1 := hE1.one;have b1 := hB1.one;have f1 := hE1.frozen 0;have f2 := hB1.frozen 0;refine callsD_of_wpS Tryz.func243 rfl fun c₀ cs hu => ?_
 apply wpS_seq;apply wpS_region;simp [wpOpsS, go_sem, Exit.thenS, Tryz.ntmps243, hw1, hW];apply wpS_seq;apply wpS_region_draw [[0, 1, 2, 3, 4], [0, 2, 1, 3, 4], [1, 0, 2, 3, 4], [1, 2, 0, 3, 4], [2, 0, 1, 3, 4], [2, 1, 0, 3, 4]] (by kernel_rfl) (by kernel_rfl)
 intro l hl;simp only [List.mem_cons, List.not_mem_nil, or_false] at hl;rcases hl with rfl | rfl | rfl | rfl | rfl | rfl
 all_goals
  simp [wpOpsS, go_sem, Exit.thenS, recoverD, hu, d0, n0, n1, n2];refine (rback_err x s t k w1.drew hb1).mono ?_;rintro e w2 ⟨rfl, hb2, hF2⟩;have hF12 : Fr (fun g => g = x.db ∨ g = E ∨ g = B) w w2 := hF1.drew.trans' hF2 (fun i _ h => .inl h)
  have hEd : ¬ E = x.db := fun e => by subst e; unfold Blk at hE hb; rw [hE] at hb; injection hb with hb; injection hb with _ h2; exact absurd h2 (by decide)
  have hBd : ¬ B = x.db := fun e => by subst e; unfold Blk at hB hb; rw [hB] at hb; injection hb with hb; injection hb with _ h2; exact absurd h2 (by decide)
  have hEB : ¬ E = B := fun e => by subst e; unfold Blk at hB hE; rw [hE] at hB; injection hB with hb; injection hb with _ h2; exact absurd h2 (by decide)
  have hE2 := Blk.fr hE1.drew hF2 hEd;have hB2 := Blk.fr hB1.drew hF2 hBd;have e2 := hE2.one;have b2 := hB2.one;have g1 := hE2.frozen 0;have g2 := hB2.frozen 0;simp [go_sem, e2, g1];obtain ⟨w3, hw3⟩ : ∃ w3, w2.setCell ⟨E, 0, none⟩ (.int .i64 k) = w3 := ⟨_, rfl⟩;have hE3 := hE2.set_ 0 (.int .i64 k);have hB3 := hB2.far (p := ⟨E, 0, none⟩) (fun e => hEB e.symm) (.int .i64 k)
  have hb3 := hb2.far (p := ⟨E, 0, none⟩) (fun e => hEd e.symm) (.int .i64 k)
  have hF3 := hF12.setCell (p := ⟨E, 0, none⟩) (.inl (.inr (.inl rfl))) (.int .i64 k);rw [hw3] at hE3 hB3 hb3 hF3 ⊢;have e3 : w3.cell? ⟨E, 0, none⟩ = some (.int .i64 k) := hE3.cell 0;have b3 := hB3.one;have g3 := hB3.frozen 0;apply wpS_seq;apply wpS_region;simp [wpOpsS, go_sem, e3, hk, Exit.thenS];refine wpS_cond (t := true) (by simp [Act.eval, Array.replicate, hk]) ?_
  simp only [if_true];apply wpS_region;simp [wpOpsS, go_sem, b3, g3, bodyPostS, results, Tryz.results243];exact ⟨hb3.far (p := ⟨B, 0, none⟩) (fun e => hBd e.symm) _, hE3.far (p := ⟨B, 0, none⟩) hEB _, hB3.set_ 0 _, hF3.setCell (p := ⟨B, 0, none⟩) (.inl (.inr (.inr rfl))) _⟩
theorem Dir1_idle (db : Nat) (s : RcS) (e0 : Int) (D E B : Nat) (w : World) (hD : Blk w D 371 #[.pointer (some ⟨db, 0, none⟩)]) (hE : Blk w E 54 #[.int .i64 e0]) :
 CallsD Tryz.prog 243 #[.agg #[.int .i64 s.rd, .int .u32 s.rng, .int .u32 s.now], .pointer (some ⟨D, 0, none⟩), .pointer (some ⟨E, 0, none⟩), .pointer (some ⟨B, 0, none⟩)] .returning w fun e u' w' =>
  e = .returned (.tuple #[]) ∧ u' = .returning ∧ Blk w' E 54 #[.int .i64 0] ∧ Fr (fun g => g = E) w w' := by
 obtain ⟨w1, hw1⟩ : ∃ w1, w.alloc (.cells #[.int .i64 s.rd, .int .u32 s.rng, .int .u32 s.now] 386) = w1 := ⟨_, rfl⟩;have hF1 : Fr (fun g => g = E) w w1 := by rw [← hw1]; exact (Fr.refl _ _).alloc _
 have hD1 := hD.alloc (.cells #[.int .i64 s.rd, .int .u32 s.rng, .int .u32 s.now] 386);have hE1 := hE.alloc (.cells #[.int .i64 s.rd, .int .u32 s.rng, .int .u32 s.now] 386);rw [hw1] at hD1 hE1;obtain ⟨W, hW⟩ : ∃ W, w.heap.size = W := ⟨_, rfl⟩;have hN1 : Blk w1 W 386 #[.int .i64 s.rd, .int .u32 s.rng, .int .u32 s.now] := by rw [← hw1, ← hW]; exact Blk.new _ _ _
 have n0 := hN1.three.1;have n1 := hN1.three.2.1;have n2 := hN1.three.2.2;have d0 := hD1.one;refine callsD_of_wpS Tryz.func243 rfl fun c₀ cs hu => ?_
 apply wpS_seq;apply wpS_region;simp [wpOpsS, go_sem, Exit.thenS, Tryz.ntmps243, hw1, hW];apply wpS_seq;apply wpS_region_draw [[0, 1, 2, 3, 4], [0, 2, 1, 3, 4], [1, 0, 2, 3, 4], [1, 2, 0, 3, 4], [2, 0, 1, 3, 4], [2, 1, 0, 3, 4]] (by kernel_rfl) (by kernel_rfl)
 intro l hl;simp only [List.mem_cons, List.not_mem_nil, or_false] at hl;rcases hl with rfl | rfl | rfl | rfl | rfl | rfl
 all_goals
  simp [wpOpsS, go_sem, Exit.thenS, recoverD, hu, d0, n0, n1, n2];refine (rback_nil db s w1.drew).mono ?_;rintro e w2 ⟨rfl, hw2⟩;have hb2 : Below w1.heap.size w1 w2 := by rw [hw2]; exact (below_drewN (Below.refl _ _) 1).alloc (Nat.le_refl _) _
  clear hw2;have hF12 := hF1.of_below' hb2;have hE2 := hE1.below hb2;have g1 := hE2.frozen 0;have e2 := hE2.one;simp [go_sem, e2, g1];obtain ⟨w3, hw3⟩ : ∃ w3, w2.setCell ⟨E, 0, none⟩ (.int .i64 0) = w3 := ⟨_, rfl⟩;have hE3 := hE2.set_ 0 (.int .i64 0);have hF3 := hF12.setCell (p := ⟨E, 0, none⟩) (.inl rfl) (.int .i64 0);rw [hw3] at hE3 hF3 ⊢;have e3 : w3.cell? ⟨E, 0, none⟩ = some (.int .i64 0) := hE3.cell 0
  apply wpS_seq;apply wpS_region;simp [wpOpsS, go_sem, e3, Exit.thenS];refine wpS_cond (t := false) (by simp [Act.eval, Array.replicate]) ?_
  simp only [Bool.false_eq_true, if_false];refine wpS_of_wp (wp_skip ?_);simp [bodyPostS, results, Tryz.results243];refine ⟨.returning, by cases c₀; simp_all, rfl, hE3, hF3⟩
structure DirR where
 v : Int
 e : Int
 s : RcS
def dirNow (s : RcS) : Int := if s.rng / 2 ≤ s.now then s.now - s.rng / 2 else s.now
def dirV (s : RcS) (v : Int) : Int := if s.rng / 2 ≤ s.now then bits .or .u32 (v * 2 % 4294967296) 1 else v * 2 % 4294967296
def dirGo (l : List UInt8) : Nat → Int → RcS → DirR
 | 0, v, s => ⟨v, 0, s⟩
 | k + 1, v, s =>
  if dirNow s = s.rng / 2 then ⟨0, 2, s⟩
  else if 16777216 ≤ s.rng / 2 then dirGo l k (dirV s v) ⟨s.rd, s.rng / 2, dirNow s⟩
  else if s.rd < l.length then dirGo l k (dirV s v) (widenF l ⟨s.rd, s.rng / 2, dirNow s⟩)
  else ⟨0, 1, s⟩
def dirT (l : List UInt8) (s : RcS) (n : Int) : DirR :=
 if n < 0 ∨ 32 < n then ⟨0, 7, s⟩ else if (dirGo l n.toNat 0 s).e = 0 then dirGo l n.toNat 0 s else ⟨0, (dirGo l n.toNat 0 s).e, s⟩
theorem Direct_out (x : RcX) (s : RcS) (n : Int) (w : World) (hn : n < 0 ∨ 32 < n) :
 Calls Tryz.prog 238 #[.pointer (some ⟨x.db, 0, none⟩), .int .i64 n] w fun e w' => e = .returned (.tuple #[.int .u32 0, .int .i64 7]) ∧ Below w.heap.size w w' := by
 by_cases h0 : n < 0;all_goals
  go_enter_defers Tryz.func238, Tryz.ntmps238
  go_wp2_with fail;have hb : Below w.heap.size w (((w.alloc (.cells #[.pointer (some ⟨x.db, 0, none⟩)] 371)).alloc (.cells #[.int .u32 0] 42)).alloc (.cells #[.int .i64 7] 54)) :=
   (((Below.refl _ _).alloc (Nat.le_refl _) _).alloc (by simp) _).alloc (by simp <;> omega) _
  simp [bodyPostD, Leaves, results, Tryz.results238, go_sem];exact hb
end Go.Proofs.YtcjehjdehdoaeaaGreatDoor
namespace Go.Proofs.YtcjehjdehdoaeaaGreatDoor
open Go.RowKit
structure Dt (x : RcX) (s : RcS) (D V E : Nat) (v : Int) (w w' : World) : Prop where
 d : Blk w' D 371 #[.pointer (some ⟨x.db, 0, none⟩)]
 v : Blk w' V 42 #[.int .u32 v]
 e : Blk w' E 54 #[.int .i64 0]
 r : Rc x s w'
 k : Fr (fun g => g = x.db) w w'
 n : w.heap.size ≤ D ∧ D < V ∧ V < E ∧ x.db < w.heap.size
section
variable {x : RcX} {s s' : RcS} {D V E : Nat} {v : Int} {w w' w'' : World}
theorem Dt.drewN (h : Dt x s D V E v w w') (n : Nat) : Dt x s D V E v w (w'.drewN n) := ⟨h.d, h.v, h.e, h.r.below (below_drewN (Below.refl _ _) n), h.k.drewN n, h.n⟩
theorem Dt.setV (h : Dt x s D V E v w w') (u : Int) : Dt x s D V E u w (w'.setCell ⟨V, 0, none⟩ (.int .u32 u)) := by
 have hn := h.n;exact ⟨h.d.far (p := ⟨V, 0, none⟩) (by show D ≠ V; omega) _, h.v.set_ 0 _, h.e.far (p := ⟨V, 0, none⟩) (by show E ≠ V; omega) _, h.r.fr (Fr.set1 (Fr.refl (fun k => k = V) _) 0 _) (by omega) (fun g hg => BT.ne hg ⟨_, h.v⟩ (by decide)), h.k.setCell (p := ⟨V, 0, none⟩) (.inr (by show w.heap.size ≤ V; omega)) _, h.n⟩
theorem Dt.setE (h : Dt x s D V E v w w') : Dt x s D V E v w (w'.setCell ⟨E, 0, none⟩ (.int .i64 0)) := by
 have hn := h.n;exact ⟨h.d.far (p := ⟨E, 0, none⟩) (by show D ≠ E; omega) _, h.v.far (p := ⟨E, 0, none⟩) (by show V ≠ E; omega) _, h.e.set_ 0 _, h.r.fr (Fr.set1 (Fr.refl (fun k => k = E) _) 0 _) (by omega) (fun g hg => BT.ne hg ⟨_, h.e⟩ (by decide)), h.k.setCell (p := ⟨E, 0, none⟩) (.inr (by show w.heap.size ≤ E; omega)) _, h.n⟩
theorem Dt.rc (h : Dt x s D V E v w w') (hr : Rc x s' w'') (hf : Fr (fun g => g = x.db) w' w'') : Dt x s' D V E v w w'' := by
 have hn := h.n;exact ⟨h.d.fr hf (by omega), h.v.fr hf (by omega), h.e.fr hf (by omega), hr, h.k.trans hf, h.n⟩
theorem Dt.setNow (h : Dt x s D V E v w w') (u : Int) (hu : 0 ≤ u ∧ u ≤ 4294967295) : Dt x ⟨s.rd, s.rng, u⟩ D V E v w (w'.setCell ⟨x.db, 3, none⟩ (.int .u32 u)) :=
 h.rc (h.r.to ⟨s.rd, s.rng, u⟩ (Fr.set1 (Fr.refl _ _) 3 _) (h.r.b.set_ 3 _) h.r.rd h.r.r hu) (Fr.set1 (Fr.refl _ _) 3 _)
theorem Dt.setRng (h : Dt x s D V E v w w') (u : Int) (hu : 0 ≤ u ∧ u ≤ 4294967295) : Dt x ⟨s.rd, u, s.now⟩ D V E v w (w'.setCell ⟨x.db, 2, none⟩ (.int .u32 u)) :=
 h.rc (h.r.to ⟨s.rd, u, s.now⟩ (Fr.set1 (Fr.refl _ _) 2 _) (h.r.b.set_ 2 _) h.r.rd hu h.r.v) (Fr.set1 (Fr.refl _ _) 2 _)
end
def DirPost (x : RcX) (T : DirR) (w : World) (e : Ending) (w' : World) : Prop := e = .returned (.tuple #[.int .u32 T.v, .int .i64 T.e]) ∧ Rc x T.s w' ∧ Fr (fun g => g = x.db) w w'
theorem dir_ok {x : RcX} {s s0 : RcS} {D V E : Nat} {v : Int} {w w' : World} {R : Ending → World → Prop} {tmps : Array Value} (h : Dt x s D V E v w w')
 (hR : ∀ w'', Rc x s w'' → Fr (fun g => g = x.db) w w'' → R (.returned (.tuple #[.int .u32 v, .int .i64 0])) w'')
 (ht : tmps[4]? = some (.pointer (some ⟨V, 0, none⟩)) ∧ tmps[5]? = some (.pointer (some ⟨E, 0, none⟩))) :
 Leaves Tryz.prog Tryz.f238 tmps R [{ target := .fn (.func 243) #[.pointer (some ⟨D, 0, none⟩), .pointer (some ⟨E, 0, none⟩), .pointer (some ⟨V, 0, none⟩)], args := #[.agg #[.int .i64 s0.rd, .int .u32 s0.rng, .int .u32 s0.now]] }] .returning w' := by
 have hn := h.n;refine leaves_cons (by simp) rfl ((Dir1_idle x.db s0 0 D E V w' h.d h.e).mono ?_)
 rintro e u w11 ⟨rfl, rfl, hE11, hF11⟩;have e11 := hE11.one;have v11 := (h.v.fr hF11 (by omega)).one
 refine ⟨.tuple #[.int .u32 v, .int .i64 0], by simp [results, Tryz.results238, go_sem, ht.1, ht.2, e11, v11], hR _ ?_ ?_⟩
 · exact h.r.fr hF11 (by omega) (fun g hg => BT.ne hg ⟨_, h.e⟩ (by decide))
 · exact h.k.trans' hF11 fun k hk h => by omega
theorem dir_bad {x : RcX} {s s0 : RcS} {D V E : Nat} {v k : Int} {w w' : World} {R : Ending → World → Prop} {tmps : Array Value} (h : Dt x s D V E v w w') (h0 : s0.rd ≤ x.n ∧ (0 ≤ s0.rng ∧ s0.rng ≤ 4294967295) ∧ 0 ≤ s0.now ∧ s0.now ≤ 4294967295) (hk : ¬ k = 0)
 (hR : ∀ w'', Rc x s0 w'' → Fr (fun g => g = x.db) w w'' → R (.returned (.tuple #[.int .u32 0, .int .i64 k])) w'')
 (ht : tmps[4]? = some (.pointer (some ⟨V, 0, none⟩)) ∧ tmps[5]? = some (.pointer (some ⟨E, 0, none⟩))) :
 Leaves Tryz.prog Tryz.f238 tmps R [{ target := .fn (.func 243) #[.pointer (some ⟨D, 0, none⟩), .pointer (some ⟨E, 0, none⟩), .pointer (some ⟨V, 0, none⟩)], args := #[.agg #[.int .i64 s0.rd, .int .u32 s0.rng, .int .u32 s0.now]] }] (.panicking [{ v := .iface 400 (.int .i64 k), recovered := false }]) w' := by
 have hn := h.n;refine leaves_cons (by simp) rfl ((Dir1_panics x s0 s k 0 v D E V [] w' h.r.b h.d h.e h.v hk).mono ?_)
 rintro e u w10 ⟨rfl, rfl, hb10, hE10, hV10, hF10⟩;show Leaves _ _ _ _ [] _ _;have e10 := hE10.one;have v10 := hV10.one;refine ⟨.tuple #[.int .u32 0, .int .i64 k], by simp [results, Tryz.results238, go_sem, ht.1, ht.2, e10, v10], hR _ ?_ ?_⟩
 · have hA : ∀ g, BT w' g 5 → ¬ (g = x.db ∨ g = E ∨ g = V) := fun g hg e => by
    rcases e with e | e | e
    · exact BT.ne hg ⟨_, h.r.b⟩ (by decide) e
    · exact BT.ne hg ⟨_, h.e⟩ (by decide) e
    · exact BT.ne hg ⟨_, h.v⟩ (by decide) e
   exact ⟨hb10, h.r.d.fr hF10 (fun h0 ad had => hA _ (h.r.bt h0 ad had)), h.r.c, h.r.ad, fun h0 ad had => (h.r.bt h0 ad had).fr hF10 (hA _ (h.r.bt h0 ad had)), h0.1, h0.2.1, h0.2.2⟩
 · exact h.k.trans' hF10 fun k hk h => by omega
theorem dirT_bad {T r : DirR} {s : RcS} {k : Int} (hT : T = if r.e = 0 then r else ⟨0, r.e, s⟩) (hr : r.e = k) (hk : ¬ k = 0) : T = ⟨0, k, s⟩ := by
 rw [hT, if_neg (by rw [hr]; exact hk), hr]
theorem dirGo_step {l : List UInt8} {n i : Nat} {v now2 v2 : Int} {s : RcS} {r : DirR} (h : dirGo l (n - i) v s = r) (hi : i < n) (hn : dirNow s = now2 ∧ dirV s v = v2) :
 r = if now2 = s.rng / 2 then ⟨0, 2, s⟩ else if 16777216 ≤ s.rng / 2 then dirGo l (n - (i + 1)) v2 ⟨s.rd, s.rng / 2, now2⟩ else if s.rd < l.length then dirGo l (n - (i + 1)) v2 (widenF l ⟨s.rd, s.rng / 2, now2⟩) else ⟨0, 1, s⟩ := by
 rw [← h, show n - i = (n - (i + 1)) + 1 by omega, dirGo, hn.1, hn.2]
theorem Direct_in (x : RcX) (s : RcS) (n : Nat) (w : World) (h : Rc x s w) (hn : n ≤ 32) :
 Calls Tryz.prog 238 #[.pointer (some ⟨x.db, 0, none⟩), .int .i64 n] w (DirPost x (dirT x.l s n) w) := by
 obtain ⟨r, hr⟩ : ∃ r, dirGo x.l n 0 s = r := ⟨_, rfl⟩;have hT : dirT x.l s n = if r.e = 0 then r else ⟨0, r.e, s⟩ := by rw [dirT, if_neg (by omega), Int.toNat_natCast, hr]
 obtain ⟨T, hT0⟩ : ∃ T, dirT x.l s n = T := ⟨_, rfl⟩;rw [hT0] at hT ⊢;have HT := Lib.hid hT;have HL := Lib.hid h.len;have h32 : ¬ 32 < (n : Int) := by omega
 have h33 : (n : Int) ≤ 32 := by omega
 have h34 : ¬ (n : Int) < 0 := by omega
 have HS := Lib.hid (And.intro h.rd (And.intro h.r h.v));have HR := Lib.hid h;have hdb := h.b.lt;have Hr := Lib.hid hr;clear hr hT h hT0
 go_enter_defers Tryz.func238, Tryz.ntmps238
 go_upto_region 3 with (fail);obtain ⟨D, hD⟩ : ∃ D, w.heap.size = D := ⟨_, rfl⟩;obtain ⟨V, hV⟩ : ∃ V, D + 1 = V := ⟨_, rfl⟩;obtain ⟨E, hE⟩ : ∃ E, V + 1 = E := ⟨_, rfl⟩;obtain ⟨w3, hw3⟩ : ∃ w3, ((w.alloc (.cells #[.pointer (some ⟨x.db, 0, none⟩)] 371)).alloc (.cells #[.int .u32 0] 42)).alloc (.cells #[.int .i64 0] 54) = w3 := ⟨_, rfl⟩;have H3 : Hid (Dt x s D V E 0 w w3) := by
  show Dt _ _ _ _ _ _ _ _;subst hw3 hD hV hE;have hb : Below w.heap.size w (((w.alloc (.cells #[.pointer (some ⟨x.db, 0, none⟩)] 371)).alloc (.cells #[.int .u32 0] 42)).alloc (.cells #[.int .i64 0] 54)) :=
   (((Below.refl _ _).alloc (Nat.le_refl _) _).alloc (by simp) _).alloc (by simp <;> omega) _
  exact ⟨((Blk.new _ _ _).alloc _).alloc _, (Blk.new_at (by simp)).alloc _, Blk.new_at (by simp), HR.out.below hb, Fr.of_below hb, by omega⟩
 rw [hw3, hD, hV, hE];clear hw3 hD hV hE;have d0 := H3.out.d.one;have c1 : w3.cell? ⟨x.db, 1, none⟩ = some (.int .i64 s.rd) := H3.out.r.b.cell 1;have c2 : w3.cell? ⟨x.db, 2, none⟩ = some (.int .u32 s.rng) := H3.out.r.b.cell 2;have c3 : w3.cell? ⟨x.db, 3, none⟩ = some (.int .u32 s.now) := H3.out.r.b.cell 3;have hmf : ∀ (fn : Fn) (first cap : Array Value) (w : World), (Instr.makeFunc fn first cap).run Tryz.prog w = .ok (.func fn first cap) w := fun _ _ _ _ => rfl
 go_wp2_with fail;clear d0 c1 c2 c3
 go_loopw [19] (fun s19 wr => ∃ (i : Nat) (v : Int) (s' : RcS), s19 = .int .i64 (i : Int) ∧ i ≤ n ∧ Hid (Dt x s' D V E v w wr ∧ dirGo x.l (n - i) v s' = r)) (fun s19 _ => n - (intOf s19).toNat)
 case atStart => exact ⟨0, 0, s, rfl, Nat.zero_le _, H3.out, Hr.out⟩
 case round =>
  clear H3;obtain ⟨i, v, s', rfl, hi, H⟩ := hrel;by_cases hlt : i < n
  · have hlt' : (i : Int) < (n : Int) := by omega
    have d0 := H.out.1.d.one;have v0 := H.out.1.v.one;have fv := H.out.1.v.frozen 0;have c2 : wr.cell? ⟨x.db, 2, none⟩ = some (.int .u32 s'.rng) := H.out.1.r.b.cell 2;have c3 : wr.cell? ⟨x.db, 3, none⟩ = some (.int .u32 s'.now) := H.out.1.r.b.cell 3;have f2 := H.out.1.r.b.frozen 2;have f3 := H.out.1.r.b.frozen 3;have hr' := H.out.1.r.r;have hv' := H.out.1.r.v;have hDV : ¬ D = V := by have := H.out.1.n; omega
    have hdV : ¬ x.db = V := by have := H.out.1.n; omega
    have hdD : ¬ x.db = D := by have := H.out.1.n; omega
    have hDd : ¬ D = x.db := fun e => hdD e.symm
    have hVd : ¬ V = x.db := fun e => hdV e.symm
    obtain ⟨rd, rng, now⟩ := s';simp only [] at c2 c3 hr' hv';have HE := Lib.hid H.out.2;have H0 := Lib.hid H.out.1;clear H;by_cases hge : rng / 2 ≤ now
    · have H1 : Hid (Dt x ⟨rd, rng, now - rng / 2⟩ D V E (bits .or .u32 (v * 2 % 4294967296) 1) w (((wr.setCell ⟨V, 0, none⟩ (.int .u32 (v * 2 % 4294967296))).setCell ⟨x.db, 3, none⟩ (.int .u32 (now - rng / 2))).setCell ⟨V, 0, none⟩ (.int .u32 (bits .or .u32 (v * 2 % 4294967296) 1)))) :=
       ((H0.out.setV _).setNow _ (by omega)).setV _
      have HN : Hid (dirNow ⟨rd, rng, now⟩ = now - rng / 2 ∧ dirV ⟨rd, rng, now⟩ v = bits .or .u32 (v * 2 % 4294967296) 1) := ⟨if_pos hge, if_pos hge⟩;have HS2 := Lib.hid (dirGo_step HE.out hlt HN.out);clear HE HN H0;by_cases heq : now - rng / 2 = rng / 2
      · have heqb : ((now - rng / 2) == rng / 2) = true := beq_iff_eq.2 heq;have HQ := Lib.hid heq;clear heq;go_wp2_with fail;have hT2 := dirT_bad HT.out (k := 2) (by rw [HS2.out, if_pos HQ.out]) (by decide)
        show Leaves _ _ _ _ _ _ _;exact dir_bad H1.out HS.out (by decide) (fun w'' h1 h2 => by rw [hT2]; exact ⟨rfl, h1, h2⟩) ⟨rfl, rfl⟩
      · have H2 := Lib.hid (H1.out.setRng (rng / 2) (by omega))
        go_wp2_with fail;by_cases hbig : 16777216 ≤ rng / 2
        · refine (widen_idle x _ _ H2.out.r hbig).mono ?_;rintro e w9 ⟨rfl, rfl⟩;have H9 := Lib.hid (by have := HS2.out; rw [if_neg heq, if_pos hbig] at this; exact this)
          clear HS2 H1;go_wp2_with fail
          go_roundw
          case rel => exact ⟨i + 1, _, _, by go_num, by omega, H2.out, H9.out.symm⟩
          case measure => simp [intOf]; omega
        · by_cases hrd : rd < x.n
          · refine (widen_step x _ _ H2.out.r (by show rng / 2 < _; omega) hrd).mono ?_
            rintro e w9 ⟨rfl, hr9, hf9⟩;have H9 := Lib.hid (by have := HS2.out; rw [if_neg heq, if_neg (by omega), if_pos (by rw [HL.out]; exact hrd)] at this; exact this)
            have H3 := Lib.hid (H2.out.rc hr9 hf9);clear HS2 H1 H2 hr9 hf9;go_wp2_with fail
            go_roundw
            case rel => exact ⟨i + 1, _, _, by go_num, by omega, H3.out, H9.out.symm⟩
            case measure => simp [intOf]; omega
          · have hrd' : rd = x.n := by have := H2.out.r.rd; simp only [] at this; omega
            refine (widen_end x _ _ H2.out.r (by show rng / 2 < _; omega) hrd').mono ?_
            rintro e w9 ⟨rfl, m, rfl⟩;go_wp2_with fail;have hT2 := dirT_bad HT.out (k := 1) (by rw [HS2.out, if_neg heq, if_neg (by omega), if_neg (by rw [HL.out]; exact hrd)]) (by decide)
            show Leaves _ _ _ _ _ _ _;exact dir_bad (H2.out.drewN m) HS.out (by decide) (fun w'' h1 h2 => by rw [hT2]; exact ⟨rfl, h1, h2⟩) ⟨rfl, rfl⟩
    · have H1 : Hid (Dt x ⟨rd, rng, now⟩ D V E (v * 2 % 4294967296) w (wr.setCell ⟨V, 0, none⟩ (.int .u32 (v * 2 % 4294967296)))) := H0.out.setV _;have HN : Hid (dirNow ⟨rd, rng, now⟩ = now ∧ dirV ⟨rd, rng, now⟩ v = v * 2 % 4294967296) := ⟨if_neg hge, if_neg hge⟩;have HS2 := Lib.hid (dirGo_step HE.out hlt HN.out);clear HE HN H0;by_cases heq : now = rng / 2
      · exact absurd heq (by omega)
      · have H2 := Lib.hid (H1.out.setRng (rng / 2) (by omega))
        go_wp2_with fail;by_cases hbig : 16777216 ≤ rng / 2
        · refine (widen_idle x _ _ H2.out.r hbig).mono ?_;rintro e w9 ⟨rfl, rfl⟩;have H9 := Lib.hid (by have := HS2.out; rw [if_neg heq, if_pos hbig] at this; exact this)
          clear HS2 H1;go_wp2_with fail
          go_roundw
          case rel => exact ⟨i + 1, _, _, by go_num, by omega, H2.out, H9.out.symm⟩
          case measure => simp [intOf]; omega
        · by_cases hrd : rd < x.n
          · refine (widen_step x _ _ H2.out.r (by show rng / 2 < _; omega) hrd).mono ?_
            rintro e w9 ⟨rfl, hr9, hf9⟩;have H9 := Lib.hid (by have := HS2.out; rw [if_neg heq, if_neg (by omega), if_pos (by rw [HL.out]; exact hrd)] at this; exact this)
            have H3 := Lib.hid (H2.out.rc hr9 hf9);clear HS2 H1 H2 hr9 hf9;go_wp2_with fail
            go_roundw
            case rel => exact ⟨i + 1, _, _, by go_num, by omega, H3.out, H9.out.symm⟩
            case measure => simp [intOf]; omega
          · have hrd' : rd = x.n := by have := H2.out.r.rd; simp only [] at this; omega
            refine (widen_end x _ _ H2.out.r (by show rng / 2 < _; omega) hrd').mono ?_
            rintro e w9 ⟨rfl, m, rfl⟩;go_wp2_with fail;have hT2 := dirT_bad HT.out (k := 1) (by rw [HS2.out, if_neg heq, if_neg (by omega), if_neg (by rw [HL.out]; exact hrd)]) (by decide)
            show Leaves _ _ _ _ _ _ _;exact dir_bad (H2.out.drewN m) HS.out (by decide) (fun w'' h1 h2 => by rw [hT2]; exact ⟨rfl, h1, h2⟩) ⟨rfl, rfl⟩
  · obtain rfl : i = n := by omega
    have hge : ¬ (i : Int) < (i : Int) := by omega
    have v0 := H.out.1.v.one;have fv := H.out.1.v.frozen 0;have e0 : (wr.setCell ⟨V, 0, none⟩ (.int .u32 v)).cell? ⟨E, 0, none⟩ = some (.int .i64 0) := (H.out.1.setV v).e.one;have fe := (H.out.1.setV v).e.frozen 0;go_wp2_with fail;show Leaves _ _ _ _ _ _ _;have hT2 : T = ⟨v, 0, s'⟩ := by
     have h1 := H.out.2;rw [Nat.sub_self, dirGo] at h1;rw [HT.out, ← h1];exact if_pos rfl
    exact dir_ok ((H.out.1.setV v).setE) (fun w'' h1 h2 => by rw [hT2]; exact ⟨rfl, h1, h2⟩) ⟨rfl, rfl⟩
theorem Direct_any (x : RcX) (s : RcS) (n : Int) (w : World) (h : Rc x s w) : Calls Tryz.prog 238 #[.pointer (some ⟨x.db, 0, none⟩), .int .i64 n] w (DirPost x (dirT x.l s n) w) := by
 by_cases hn : n < 0 ∨ 32 < n
 · refine (Direct_out x s n w hn).mono ?_;rintro e w' ⟨rfl, hb⟩;rw [dirT, if_pos hn];exact ⟨rfl, h.below hb, Fr.of_below hb⟩
 · obtain ⟨k, rfl⟩ : ∃ k : Nat, n = k := ⟨n.toNat, by omega⟩
   exact Direct_in x s k w h (by omega)
end Go.Proofs.YtcjehjdehdoaeaaGreatDoor
namespace Go.Proofs.YtcjehjdehdoaeaaGreatDoor
open Go.RowKit
def thereB (len : Nat) (at_ n : Int) : Bool := decide (0 ≤ n ∧ n ≤ 16 ∧ 0 ≤ at_ ∧ at_ ≤ (len : Int) ∧ wrap64 (2 ^ n.toNat) ≤ (len : Int) - at_)
theorem there_any (sb rb : Nat) (ps : List Int) (at_ n : Int) (w : World) (h : Ps sb rb ps w) :
 Calls Tryz.prog 244 #[.pointer (some ⟨sb, 0, none⟩), .int .i64 at_, .int .i64 n] w fun e w' => e = .returned (.bool (thereB ps.length at_ n)) ∧ ∃ k, w' = w.drewN k := by
 have hn := h.n;have HL := Lib.hid (fun w' (hb : Below w.heap.size w w') => PLen_any sb rb ps w' (h.below hb))
 obtain ⟨L, hL⟩ : ∃ L, ps.length = L := ⟨_, rfl⟩;rw [hL] at HL hn ⊢;clear h hL;by_cases h0 : 0 ≤ n
 · by_cases h1 : n ≤ 16
   · obtain ⟨k, rfl⟩ : ∃ k : Nat, n = k := ⟨n.toNat, by omega⟩
     by_cases h2 : 0 ≤ at_
     · by_cases h3 : at_ ≤ (L : Int)
       · have hr : thereB L at_ k = decide (wrap64 (2 ^ k) ≤ (L : Int) - at_) := by unfold thereB; simp [h1, h2, h3]
         rw [hr];have hk : k ≤ 16 := by omega
         go_enter Tryz.func244, Tryz.ntmps244;go_wp2_with fail
         go_quiet ((go_at_call 248; exact Calls.quiet_of_same (HL.out _ (below_drewN (Below.refl _ _) _))))
         go_wp2_with fail;go_ret;refine ⟨?_, _, rfl⟩;rfl
       · have hr : thereB L at_ k = false := by unfold thereB; simp [h3]
         rw [hr];have h3' : decide (at_ ≤ (L : Int)) = false := decide_eq_false h3;clear h3 hr;go_enter Tryz.func244, Tryz.ntmps244;go_wp2_with fail
         go_quiet ((go_at_call 248; exact Calls.quiet_of_same (HL.out _ (below_drewN (Below.refl _ _) _))))
         go_wp2_with fail;go_ret;exact ⟨rfl, _, rfl⟩
     · have hr : thereB L at_ k = false := by unfold thereB; simp [h2]
       rw [hr];have h2' : decide (0 ≤ at_) = false := decide_eq_false h2;clear h2 hr;go_enter Tryz.func244, Tryz.ntmps244;go_wp2_with fail
       go_quiet (fail)
       go_wp2_with fail;go_ret;exact ⟨rfl, _, rfl⟩
   · have hr : thereB L at_ n = false := by unfold thereB; simp [h1]
     rw [hr];have h1' : decide (n ≤ 16) = false := decide_eq_false h1;clear h1 hr;go_enter Tryz.func244, Tryz.ntmps244;go_wp2_with fail
     go_quiet (fail)
     go_wp2_with fail;go_ret;exact ⟨rfl, _, rfl⟩
 · have hr : thereB L at_ n = false := by unfold thereB; simp [h0]
   rw [hr];have h0' : decide (0 ≤ n) = false := decide_eq_false h0;clear h0 hr;go_enter Tryz.func244, Tryz.ntmps244;go_wp2_with fail
   go_quiet (fail)
   go_wp2_with fail;go_ret;exact ⟨rfl, _, rfl⟩
theorem order_any (b : Bool) (n k : Nat) (w : World) (h : k < n) (hn : n ≤ 16) :
 Calls Tryz.prog 247 #[.bool b, .int .i64 n, .int .i64 k] w fun e w' => e = .returned (.int .i64 ((if b then k else n - 1 - k : Nat) : Int)) ∧ w' = w := by
 cases b
 · go_enter Tryz.func247, Tryz.ntmps247;go_wp2_with fail;go_ret;refine ⟨?_, rfl⟩;show Ending.returned (.int .i64 _) = _
   congr 2
   show _ = ((n - 1 - k : Nat) : Int);omega
 · go_enter Tryz.func247, Tryz.ntmps247;go_wp2_with fail;go_ret;exact ⟨rfl, rfl⟩
structure Tv (x : RcX) (sb : Nat) (b : Bool) (n : Nat) (D S V C N : Nat) (v : Int) (w : World) : Prop where
 d : Blk w D 371 #[.pointer (some ⟨x.db, 0, none⟩)]
 s : Blk w S 248 #[.pointer (some ⟨sb, 0, none⟩)]
 v : Blk w V 3 #[.int .i64 v]
 c : Blk w C 4 #[.bool b]
 n : Blk w N 3 #[.int .i64 n]
structure Tg (x : RcX) (s : RcS) (sb rb : Nat) (ps : List Int) (b : Bool) (n : Nat) (D S V C N : Nat) (v : Int) (w w' : World) : Prop where
 t : Tv x sb b n D S V C N v w'
 r : Rc x s w'
 p : Ps sb rb ps w'
 k : Fr (fun g => g = x.db ∨ g = rb) w w'
 o : w.heap.size ≤ D ∧ w.heap.size ≤ S ∧ w.heap.size ≤ V ∧ w.heap.size ≤ C ∧ w.heap.size ≤ N ∧ sb < w.heap.size ∧ rb < w.heap.size ∧ x.db < w.heap.size ∧ V ≠ N
section
variable {x : RcX} {s s' : RcS} {sb rb : Nat} {ps ps' : List Int} {b : Bool} {n D S V C N : Nat} {v : Int} {w w' w'' : World}
theorem Tg.drewN (h : Tg x s sb rb ps b n D S V C N v w w') (m : Nat) : Tg x s sb rb ps b n D S V C N v w (w'.drewN m) :=
 ⟨⟨h.t.d, h.t.s, h.t.v, h.t.c, h.t.n⟩, h.r.below (below_drewN (Below.refl _ _) m), h.p.below (below_drewN (Below.refl _ _) m), h.k.drewN m, h.o⟩
theorem Tg.rc (h : Tg x s sb rb ps b n D S V C N v w w') (hr : Rc x s' w'') (hp : Ps sb rb ps' w'') (hf : Fr (fun g => g = x.db ∨ g = rb) w' w'') : Tg x s' sb rb ps' b n D S V C N v w w'' := by
 have ho := h.o;exact ⟨⟨h.t.d.fr hf (by omega), h.t.s.fr hf (by omega), h.t.v.fr hf (by omega), h.t.c.fr hf (by omega), h.t.n.fr hf (by omega)⟩, hr, hp, h.k.trans hf, h.o⟩
theorem Tg.setV (h : Tg x s sb rb ps b n D S V C N v w w') (u : Int) : Tg x s sb rb ps b n D S V C N u w (w'.setCell ⟨V, 0, none⟩ (.int .i64 u)) := by
 have ho := h.o;have hf : Fr (fun g => g = V) w' (w'.setCell ⟨V, 0, none⟩ (.int .i64 u)) := Fr.set1 (Fr.refl _ _) 0 _
 refine ⟨⟨h.t.d.fr hf (BT.ne ⟨_, h.t.d⟩ ⟨_, h.t.v⟩ (by decide)), h.t.s.fr hf (BT.ne ⟨_, h.t.s⟩ ⟨_, h.t.v⟩ (by decide)), h.t.v.set_ 0 _, h.t.c.fr hf (BT.ne ⟨_, h.t.c⟩ ⟨_, h.t.v⟩ (by decide)), h.t.n.fr hf (by omega)⟩, h.r.fr hf (by omega) (fun g hg => BT.ne hg ⟨_, h.t.v⟩ (by decide)), h.p.fr hf (by omega) (by omega), h.k.setCell (p := ⟨V, 0, none⟩) (.inr (by show w.heap.size ≤ V; omega)) _, h.o⟩
end
def ordN (b : Bool) (n k : Nat) : Nat := if b then k else n - 1 - k
theorem ordN_lt {b : Bool} {n k : Nat} (h : k < n) : ordN b n k < n := by unfold ordN; split <;> omega
def G1Post (x : RcX) (R : BitR) (sb rb : Nat) (b : Bool) (n k D S V C N : Nat) (v : Int) (w0 : World) (e : Ending) (w' : World) : Prop :=
 e = .returned (.tuple #[.int .i64 R.v, .int .i64 R.e]) ∧ Tg x R.s sb rb R.ps b n D S V C N (bits .or .i64 v (IntKind.i64.wrap (R.v * 2 ^ ordN b n k))) w0 w'
theorem get1_any (x : RcX) (s : RcS) (sb rb : Nat) (ps : List Int) (b : Bool) (n k D S V C N : Nat) (v i : Int) (w0 w : World) (h : Tg x s sb rb ps b n D S V C N v w0 w) (hk : k < n) (hn : n ≤ 16) :
 Calls Tryz.prog 246 #[.int .i64 i, .int .i64 k, .pointer (some ⟨D, 0, none⟩), .pointer (some ⟨S, 0, none⟩), .pointer (some ⟨V, 0, none⟩), .pointer (some ⟨C, 0, none⟩), .pointer (some ⟨N, 0, none⟩)] w (G1Post x (bitT x.l s ps i) sb rb b n k D S V C N v w0) := by
 have d0 := h.t.d.one;have s0 := h.t.s.one;have HB := Lib.hid (Bit_any x s sb rb ps i w h.r h.p);have H := Lib.hid h;obtain ⟨R, hR⟩ : ∃ R, bitT x.l s ps i = R := ⟨_, rfl⟩;have hv := bitT_bit x.l s ps i;rw [hR] at HB hv ⊢;clear h hR;go_enter Tryz.func246, Tryz.ntmps246;go_wp2_with fail;refine HB.out.mono ?_;rintro e w1 ⟨rfl, h1, h2, h3⟩;have H1 := Lib.hid (H.out.rc h1 h2 h3);clear h1 h2 h3 HB H d0 s0
 have v1 := H1.out.t.v.one;have c1 := H1.out.t.c.one;have n1 := H1.out.t.n.one;have fv := H1.out.t.v.frozen 0;go_upto_region 2 with (fail);have hO := Lib.hid (fun w => order_any b n k w hk hn)
 obtain ⟨sh, hsh⟩ : ∃ sh, ordN b n k = sh := ⟨_, rfl⟩;have hs1 : sh ≤ 15 := by have := ordN_lt (b := b) hk; omega
 have hO : Hid (∀ w, Calls Tryz.prog 247 #[.bool b, .int .i64 n, .int .i64 k] w fun e w' => e = .returned (.int .i64 (sh : Int)) ∧ w' = w) := by rw [← hsh]; exact hO.out
 have HS := Lib.hid hsh;clear hsh;go_region_with (first | (go_at_call 247; refine (hO.out _).mono ?_; rintro e w2 ⟨rfl, rfl⟩))
 all_goals
  go_wp2_with fail
  go_ret2
  refine ⟨rfl, ?_⟩;rw [HS.out];exact (H1.out.setV _).drewN 1
structure TrR where
 v : Int
 e : Int
 s : RcS
 ps : List Int
def trGo (l : List UInt8) (at_ : Int) (n : Nat) (b : Bool) : Nat → Int → Int → RcS → List Int → TrR
 | 0, _, v, s, ps => ⟨v, 0, s, ps⟩
 | r + 1, m, v, s, ps =>
  if (bitT l s ps (at_ + m)).e = 0 then trGo l at_ n b r (2 * m + (bitT l s ps (at_ + m)).v) (bits .or .i64 v (IntKind.i64.wrap ((bitT l s ps (at_ + m)).v * 2 ^ ordN b n (n - (r + 1))))) (bitT l s ps (at_ + m)).s (bitT l s ps (at_ + m)).ps
  else ⟨0, (bitT l s ps (at_ + m)).e, (bitT l s ps (at_ + m)).s, (bitT l s ps (at_ + m)).ps⟩
def trT (l : List UInt8) (s : RcS) (ps : List Int) (at_ n : Int) (b : Bool) : TrR :=
 if thereB ps.length at_ n then trGo l at_ n.toNat b n.toNat 1 0 s ps else ⟨0, 7, s, ps⟩
end Go.Proofs.YtcjehjdehdoaeaaGreatDoor
