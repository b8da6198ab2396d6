/-
  (State).Next at a repeat, distance 0 to 3 (copy over itself), and the document's Formed. No condition beyond each theorem's own.
-/
import Derived.Test.YthfmomhcalppfaaDoorMem
import Derived.Test.YthfmomhcalppfaaDoorStNext
import Derived.Laws.CopyOwn
import Derived.Laws.CopyRow
import Derived.Deep.RegionLaw
import Derived.BigRegion
import Derived.Test.YthfmomhcalppfaaDoorChecked
import Derived.WalkKit
import Derived.WalkSpells
import Derived.WalkLawsBesides
import Derived.Lib.Strings
import Derived.Lib.Slices
import Derived.Lib.Small
import Derived.Lib.Walk
import Derived.Lib.BitFns
import Derived.Lib.Hide
import Derived.Deep.Light
namespace Go.Proofs.YthfmomhcalppfaaDoor
open Go.RowKit

theorem Formed_any (k y l x : Int) (w : World) : Calls Tryd.prog 14 #[yV k y l x] w fun e w' => e = .returned (.int .i64 (formedN k l x)) ∧ Below w.heap.size w w' := by
  unfold yV formedN
  by_cases k1 : k = 1
  · rw [if_pos k1]
    subst k1
    by_cases l1 : 2 ≤ l
    all_goals
      go_enter Tryd.func14, Tryd.ntmps14
      go_wp2
      all_goals
        go_ret
        exact ⟨rfl, (Below.refl _ _).alloc (Nat.le_refl _) _⟩
  · rw [if_neg k1]
    by_cases k4 : k = 4
    · rw [if_pos k4]
      subst k4
      by_cases l1 : 2 ≤ l
      all_goals
        go_enter Tryd.func14, Tryd.ntmps14
        go_wp2
        all_goals
          go_ret
          exact ⟨rfl, (Below.refl _ _).alloc (Nat.le_refl _) _⟩
    · rw [if_neg k4]
      by_cases k2 : k = 2
      · rw [if_pos k2]
        subst k2
        by_cases hf : isL l ∧ isD x
        · rw [if_pos hf]
          obtain ⟨⟨l1, l2⟩, x1, x2⟩ := hf
          go_enter Tryd.func14, Tryd.ntmps14
          go_wp2
          go_ret
          exact ⟨rfl, (Below.refl _ _).alloc (Nat.le_refl _) _⟩
        · rw [if_neg hf]
          have hh : ¬ 2 ≤ l ∨ (2 ≤ l ∧ ¬ l ≤ 273) ∨ (2 ≤ l ∧ l ≤ 273 ∧ x < 1) ∨ (2 ≤ l ∧ l ≤ 273 ∧ ¬ x < 1 ∧ 4294967295 < x) := by unfold isL isD at hf; omega
          clear hf
          rcases hh with h1 | ⟨h1, h2⟩ | ⟨h1, h2, h3⟩ | ⟨h1, h2, h3, h4⟩
          all_goals
            go_enter Tryd.func14, Tryd.ntmps14
            go_wp2
            go_ret
            exact ⟨rfl, (Below.refl _ _).alloc (Nat.le_refl _) _⟩
      · rw [if_neg k2]
        by_cases k3 : k = 3
        · rw [if_pos k3]
          subst k3
          by_cases hf : isL l ∧ repOk x
          · rw [if_pos hf]
            obtain ⟨⟨l1, l2⟩, x1, x2⟩ := hf
            go_enter Tryd.func14, Tryd.ntmps14
            go_wp2
            go_ret
            exact ⟨rfl, (Below.refl _ _).alloc (Nat.le_refl _) _⟩
          · rw [if_neg hf]
            have hh : ¬ 2 ≤ l ∨ (2 ≤ l ∧ ¬ l ≤ 273) ∨ (2 ≤ l ∧ l ≤ 273 ∧ x < 0) ∨ (2 ≤ l ∧ l ≤ 273 ∧ ¬ x < 0 ∧ 3 < x) := by unfold isL repOk at hf; omega
            clear hf
            rcases hh with h1 | ⟨h1, h2⟩ | ⟨h1, h2, h3⟩ | ⟨h1, h2, h3, h4⟩
            all_goals
              go_enter Tryd.func14, Tryd.ntmps14
              go_wp2
              go_ret
              exact ⟨rfl, (Below.refl _ _).alloc (Nat.le_refl _) _⟩
        · rw [if_neg k3]
          by_cases l1 : 2 ≤ l
          all_goals
            go_enter Tryd.func14, Tryd.ntmps14
            go_wp2
            all_goals
              go_ret
              exact ⟨rfl, (Below.refl _ _).alloc (Nat.le_refl _) _⟩
theorem copy_rep0 {w1 : World} {w : World} {n a b c d kk y l x : Int} (h : Three 36 w n a b c d kk y l x w1) (m : Int) : ∃ w2,
    (Builtin.copy_ #[48, 48] 3 #[.slice (some ⟨w.heap.size, 2, none⟩) 3 3, .slice (some ⟨w.heap.size, 1, none⟩) 0 4]).run Tryd.prog (w1.setCell ⟨w.heap.size, 0, none⟩ (.int .i64 m)).drew = .ok (.int .i64 0) w2 ∧ Three 36 w m a b c d kk y l x w2 := by
  have hb : Blk (w1.setCell ⟨w.heap.size, 0, none⟩ (.int .i64 m)).drew w.heap.size 36 (stC m a b c d) := by
    have := (h.1.set_ 0 (.int .i64 m)).drew
    simpa using this
  have hr := run_copy_row Tryd.prog (w1.setCell ⟨w.heap.size, 0, none⟩ (.int .i64 m)).drew 48 48 3 3 w.heap.size 2 3 3 ⟨w.heap.size, 1, none⟩ 0 4 (stC m a b c d) 36 [] Tryd.underlying48 (by kernel_rfl) hb (by rfl) (by simp) (by simp) (by simp [Value.oneCell'])
  refine ⟨_, hr, ?_, ?_, ?_, ?_⟩
  · exact setRow_heap _ _ _ _ _ _ hb
  · refine Blk.same ?_ (setRow_other _ _ _ _ (by omega))
    exact (h.2.1.far (by simp) _).drew
  · refine Blk.same ?_ (setRow_other _ _ _ _ (by omega))
    exact (h.2.2.1.far (by simp) _).drew
  · exact below_setRow ((below1 h.2.2.2 (Nat.le_refl _) _).drew) (Nat.le_refl _) _
theorem copy_rep1 {w1 : World} {w : World} {n a b c d kk y l x : Int} (h : Three 36 w n a b c d kk y l x w1) (m : Int) : ∃ w2,
    (Builtin.copy_ #[48, 48] 3 #[.slice (some ⟨w.heap.size, 2, none⟩) 3 3, .slice (some ⟨w.heap.size, 1, none⟩) 1 4]).run Tryd.prog (w1.setCell ⟨w.heap.size, 0, none⟩ (.int .i64 m)).drew = .ok (.int .i64 1) w2 ∧ Three 36 w m a a c d kk y l x w2 := by
  have hb : Blk (w1.setCell ⟨w.heap.size, 0, none⟩ (.int .i64 m)).drew w.heap.size 36 (stC m a b c d) := by
    have := (h.1.set_ 0 (.int .i64 m)).drew
    simpa using this
  have hr := run_copy_row Tryd.prog (w1.setCell ⟨w.heap.size, 0, none⟩ (.int .i64 m)).drew 48 48 3 3 w.heap.size 2 3 3 ⟨w.heap.size, 1, none⟩ 1 4 (stC m a b c d) 36 [.int .i64 a] Tryd.underlying48 (by kernel_rfl) hb (by rfl) (fun j v hj => by match j, hj with | 0, hj => (simp at hj; subst hj; exact hb.cell 1)) (by simp) (by simp [Value.oneCell'])
  refine ⟨_, hr, ?_, ?_, ?_, ?_⟩
  · exact setRow_heap _ _ _ _ _ _ hb
  · refine Blk.same ?_ (setRow_other _ _ _ _ (by omega))
    exact (h.2.1.far (by simp) _).drew
  · refine Blk.same ?_ (setRow_other _ _ _ _ (by omega))
    exact (h.2.2.1.far (by simp) _).drew
  · exact below_setRow ((below1 h.2.2.2 (Nat.le_refl _) _).drew) (Nat.le_refl _) _
theorem copy_rep2 {w1 : World} {w : World} {n a b c d kk y l x : Int} (h : Three 36 w n a b c d kk y l x w1) (m : Int) : ∃ w2,
    (Builtin.copy_ #[48, 48] 3 #[.slice (some ⟨w.heap.size, 2, none⟩) 3 3, .slice (some ⟨w.heap.size, 1, none⟩) 2 4]).run Tryd.prog (w1.setCell ⟨w.heap.size, 0, none⟩ (.int .i64 m)).drew = .ok (.int .i64 2) w2 ∧ Three 36 w m a a b d kk y l x w2 := by
  have hb : Blk (w1.setCell ⟨w.heap.size, 0, none⟩ (.int .i64 m)).drew w.heap.size 36 (stC m a b c d) := by
    have := (h.1.set_ 0 (.int .i64 m)).drew
    simpa using this
  have hr := run_copy_row Tryd.prog (w1.setCell ⟨w.heap.size, 0, none⟩ (.int .i64 m)).drew 48 48 3 3 w.heap.size 2 3 3 ⟨w.heap.size, 1, none⟩ 2 4 (stC m a b c d) 36 [.int .i64 a, .int .i64 b] Tryd.underlying48 (by kernel_rfl) hb (by rfl) (fun j v hj => by match j, hj with | 0, hj => (simp at hj; subst hj; exact hb.cell 1) | 1, hj => (simp at hj; subst hj; exact hb.cell 2)) (by simp) (by simp [Value.oneCell'])
  refine ⟨_, hr, ?_, ?_, ?_, ?_⟩
  · exact setRow_heap _ _ _ _ _ _ hb
  · refine Blk.same ?_ (setRow_other _ _ _ _ (by omega))
    exact (h.2.1.far (by simp) _).drew
  · refine Blk.same ?_ (setRow_other _ _ _ _ (by omega))
    exact (h.2.2.1.far (by simp) _).drew
  · exact below_setRow ((below1 h.2.2.2 (Nat.le_refl _) _).drew) (Nat.le_refl _) _
theorem copy_rep3 {w1 : World} {w : World} {n a b c d kk y l x : Int} (h : Three 36 w n a b c d kk y l x w1) (m : Int) : ∃ w2,
    (Builtin.copy_ #[48, 48] 3 #[.slice (some ⟨w.heap.size, 2, none⟩) 3 3, .slice (some ⟨w.heap.size, 1, none⟩) 3 4]).run Tryd.prog (w1.setCell ⟨w.heap.size, 0, none⟩ (.int .i64 m)).drew = .ok (.int .i64 3) w2 ∧ Three 36 w m a a b c kk y l x w2 := by
  have hb : Blk (w1.setCell ⟨w.heap.size, 0, none⟩ (.int .i64 m)).drew w.heap.size 36 (stC m a b c d) := by
    have := (h.1.set_ 0 (.int .i64 m)).drew
    simpa using this
  have hr := run_copy_row Tryd.prog (w1.setCell ⟨w.heap.size, 0, none⟩ (.int .i64 m)).drew 48 48 3 3 w.heap.size 2 3 3 ⟨w.heap.size, 1, none⟩ 3 4 (stC m a b c d) 36 [.int .i64 a, .int .i64 b, .int .i64 c] Tryd.underlying48 (by kernel_rfl) hb (by rfl) (fun j v hj => by match j, hj with | 0, hj => (simp at hj; subst hj; exact hb.cell 1) | 1, hj => (simp at hj; subst hj; exact hb.cell 2) | 2, hj => (simp at hj; subst hj; exact hb.cell 3)) (by simp) (by simp [Value.oneCell'])
  refine ⟨_, hr, ?_, ?_, ?_, ?_⟩
  · exact setRow_heap _ _ _ _ _ _ hb
  · refine Blk.same ?_ (setRow_other _ _ _ _ (by omega))
    exact (h.2.1.far (by simp) _).drew
  · refine Blk.same ?_ (setRow_other _ _ _ _ (by omega))
    exact (h.2.2.1.far (by simp) _).drew
  · exact below_setRow ((below1 h.2.2.2 (Nat.le_refl _) _).drew) (Nat.le_refl _) _
set_option maxHeartbeats 2000000 in
theorem Next_rep0 (n : Nat) (a b c d y l : Int) (h : rightP n a b c d) (hf : isL l) (w : World) (hl : Laid w) : Calls Tryd.prog 10 #[stV n a b c d, yV 3 y l 0] w (NPost (stV (movedN n 3) a b c d) 0 w) := by
  have hcl := isLen_any l
  rw [decide_eq_true hf] at hcl
  have n12 : n < 12 := by have := h.2.2.2.2.2; omega
  have n12' : (n : Int) < 12 := by omega
  have hc := right_any n a b c d
  rw [decide_eq_true h] at hc
  have h3 := three_new 36 w n a b c d 3 y l 0
  unfold stV at hc ⊢
  unfold yV
  obtain ⟨w0, hw0⟩ : ∃ w0, (((w.alloc (.cells (stC n a b c d) 36)).alloc (.cells #[.int .i64 3, .int .u8 y, .int .i64 l, .int .i64 0] 24)).alloc (.cells (stC 0 0 0 0 0) 36)) = w0 := ⟨_, rfl⟩
  rw [hw0] at h3
  have hcc := hc w0
  clear hc
  obtain ⟨m, hm⟩ : ∃ m, movedN n 3 = m := ⟨_, rfl⟩
  rw [hm]
  go_enter Tryd.func10, Tryd.ntmps10
  obtain ⟨⟨s0, s1, s2, s3, s4⟩, ⟨y0, y1, y2, y3⟩, ⟨r0, r1, r2, r3, r4⟩, ⟨f0, f1, f2, f3, f4⟩, ⟨g0, g1, g2, g3, g4⟩⟩ := h3.cells
  go_wp2_with (first | (go_at_call 17; first | (rw [hw0]; refine hcc.mono ?_) | refine hcc.mono ?_; rintro e w1 ⟨rfl, hb1⟩; clear s0 s1 s2 s3 s4 y0 y1 y2 y3 r0 r1 r2 r3 r4 f0 f1 f2 f3 f4 g0 g1 g2 g3 g4; have h31 := h3.below hb1; have hB := h31.2.2.2; obtain ⟨⟨s0, s1, s2, s3, s4⟩, ⟨y0, y1, y2, y3⟩, ⟨r0, r1, r2, r3, r4⟩, ⟨f0, f1, f2, f3, f4⟩, ⟨g0, g1, g2, g3, g4⟩⟩ := h31.cells; clear h3 hw0; have lt0 := ((hl.below hB).2 n n12).2.2.2; rw [hm] at lt0) | (go_at_call 18; refine (hcl _).mono ?_; rintro e w' ⟨rfl, rfl⟩))
  obtain ⟨w2, hrun, h32⟩ := copy_rep0 h31 m
  have hB2 := h32.2.2.2
  go_region
  clear s0 s1 s2 s3 s4 y0 y1 y2 y3 r0 r1 r2 r3 r4 f0 f1 f2 f3 f4 g0 g1 g2 g3 g4 hrun lt0
  obtain ⟨⟨s0, s1, s2, s3, s4⟩, ⟨y0, y1, y2, y3⟩, ⟨r0, r1, r2, r3, r4⟩, ⟨f0, f1, f2, f3, f4⟩, ⟨g0, g1, g2, g3, g4⟩⟩ := h32.cells
  go_wp2
  exact bodyPost_ret (v := .tuple #[.agg (stC m a b c d), .int .i64 0]) (by simp [results, Tryd.results10, go_sem, *]) rfl ⟨rfl, below5 (below1 hB2 (Nat.le_refl _) _) (up2 _) _ _ _ _ _⟩
set_option maxHeartbeats 2000000 in
theorem Next_rep1 (n : Nat) (a b c d y l : Int) (h : rightP n a b c d) (hf : isL l) (w : World) (hl : Laid w) : Calls Tryd.prog 10 #[stV n a b c d, yV 3 y l 1] w (NPost (stV (movedN n 3) b a c d) 0 w) := by
  have hcl := isLen_any l
  rw [decide_eq_true hf] at hcl
  have n12 : n < 12 := by have := h.2.2.2.2.2; omega
  have n12' : (n : Int) < 12 := by omega
  have hc := right_any n a b c d
  rw [decide_eq_true h] at hc
  have h3 := three_new 36 w n a b c d 3 y l 1
  unfold stV at hc ⊢
  unfold yV
  obtain ⟨w0, hw0⟩ : ∃ w0, (((w.alloc (.cells (stC n a b c d) 36)).alloc (.cells #[.int .i64 3, .int .u8 y, .int .i64 l, .int .i64 1] 24)).alloc (.cells (stC 0 0 0 0 0) 36)) = w0 := ⟨_, rfl⟩
  rw [hw0] at h3
  have hcc := hc w0
  clear hc
  obtain ⟨m, hm⟩ : ∃ m, movedN n 3 = m := ⟨_, rfl⟩
  rw [hm]
  go_enter Tryd.func10, Tryd.ntmps10
  obtain ⟨⟨s0, s1, s2, s3, s4⟩, ⟨y0, y1, y2, y3⟩, ⟨r0, r1, r2, r3, r4⟩, ⟨f0, f1, f2, f3, f4⟩, ⟨g0, g1, g2, g3, g4⟩⟩ := h3.cells
  go_wp2_with (first | (go_at_call 17; first | (rw [hw0]; refine hcc.mono ?_) | refine hcc.mono ?_; rintro e w1 ⟨rfl, hb1⟩; clear s0 s1 s2 s3 s4 y0 y1 y2 y3 r0 r1 r2 r3 r4 f0 f1 f2 f3 f4 g0 g1 g2 g3 g4; have h31 := h3.below hb1; have hB := h31.2.2.2; obtain ⟨⟨s0, s1, s2, s3, s4⟩, ⟨y0, y1, y2, y3⟩, ⟨r0, r1, r2, r3, r4⟩, ⟨f0, f1, f2, f3, f4⟩, ⟨g0, g1, g2, g3, g4⟩⟩ := h31.cells; clear h3 hw0; have lt0 := ((hl.below hB).2 n n12).2.2.2; rw [hm] at lt0) | (go_at_call 18; refine (hcl _).mono ?_; rintro e w' ⟨rfl, rfl⟩))
  obtain ⟨w2, hrun, h32⟩ := copy_rep1 h31 m
  have hB2 := h32.2.2.2
  go_region
  clear s0 s1 s2 s3 s4 y0 y1 y2 y3 r0 r1 r2 r3 r4 f0 f1 f2 f3 f4 g0 g1 g2 g3 g4 hrun lt0
  obtain ⟨⟨s0, s1, s2, s3, s4⟩, ⟨y0, y1, y2, y3⟩, ⟨r0, r1, r2, r3, r4⟩, ⟨f0, f1, f2, f3, f4⟩, ⟨g0, g1, g2, g3, g4⟩⟩ := h32.cells
  go_wp2
  exact bodyPost_ret (v := .tuple #[.agg (stC m b a c d), .int .i64 0]) (by simp [results, Tryd.results10, go_sem, *]) rfl ⟨rfl, below5 (below1 hB2 (Nat.le_refl _) _) (up2 _) _ _ _ _ _⟩
set_option maxHeartbeats 2000000 in
theorem Next_rep2 (n : Nat) (a b c d y l : Int) (h : rightP n a b c d) (hf : isL l) (w : World) (hl : Laid w) : Calls Tryd.prog 10 #[stV n a b c d, yV 3 y l 2] w (NPost (stV (movedN n 3) c a b d) 0 w) := by
  have hcl := isLen_any l
  rw [decide_eq_true hf] at hcl
  have n12 : n < 12 := by have := h.2.2.2.2.2; omega
  have n12' : (n : Int) < 12 := by omega
  have hc := right_any n a b c d
  rw [decide_eq_true h] at hc
  have h3 := three_new 36 w n a b c d 3 y l 2
  unfold stV at hc ⊢
  unfold yV
  obtain ⟨w0, hw0⟩ : ∃ w0, (((w.alloc (.cells (stC n a b c d) 36)).alloc (.cells #[.int .i64 3, .int .u8 y, .int .i64 l, .int .i64 2] 24)).alloc (.cells (stC 0 0 0 0 0) 36)) = w0 := ⟨_, rfl⟩
  rw [hw0] at h3
  have hcc := hc w0
  clear hc
  obtain ⟨m, hm⟩ : ∃ m, movedN n 3 = m := ⟨_, rfl⟩
  rw [hm]
  go_enter Tryd.func10, Tryd.ntmps10
  obtain ⟨⟨s0, s1, s2, s3, s4⟩, ⟨y0, y1, y2, y3⟩, ⟨r0, r1, r2, r3, r4⟩, ⟨f0, f1, f2, f3, f4⟩, ⟨g0, g1, g2, g3, g4⟩⟩ := h3.cells
  go_wp2_with (first | (go_at_call 17; first | (rw [hw0]; refine hcc.mono ?_) | refine hcc.mono ?_; rintro e w1 ⟨rfl, hb1⟩; clear s0 s1 s2 s3 s4 y0 y1 y2 y3 r0 r1 r2 r3 r4 f0 f1 f2 f3 f4 g0 g1 g2 g3 g4; have h31 := h3.below hb1; have hB := h31.2.2.2; obtain ⟨⟨s0, s1, s2, s3, s4⟩, ⟨y0, y1, y2, y3⟩, ⟨r0, r1, r2, r3, r4⟩, ⟨f0, f1, f2, f3, f4⟩, ⟨g0, g1, g2, g3, g4⟩⟩ := h31.cells; clear h3 hw0; have lt0 := ((hl.below hB).2 n n12).2.2.2; rw [hm] at lt0) | (go_at_call 18; refine (hcl _).mono ?_; rintro e w' ⟨rfl, rfl⟩))
  obtain ⟨w2, hrun, h32⟩ := copy_rep2 h31 m
  have hB2 := h32.2.2.2
  go_region
  clear s0 s1 s2 s3 s4 y0 y1 y2 y3 r0 r1 r2 r3 r4 f0 f1 f2 f3 f4 g0 g1 g2 g3 g4 hrun lt0
  obtain ⟨⟨s0, s1, s2, s3, s4⟩, ⟨y0, y1, y2, y3⟩, ⟨r0, r1, r2, r3, r4⟩, ⟨f0, f1, f2, f3, f4⟩, ⟨g0, g1, g2, g3, g4⟩⟩ := h32.cells
  go_wp2
  exact bodyPost_ret (v := .tuple #[.agg (stC m c a b d), .int .i64 0]) (by simp [results, Tryd.results10, go_sem, *]) rfl ⟨rfl, below5 (below1 hB2 (Nat.le_refl _) _) (up2 _) _ _ _ _ _⟩
set_option maxHeartbeats 2000000 in
theorem Next_rep3 (n : Nat) (a b c d y l : Int) (h : rightP n a b c d) (hf : isL l) (w : World) (hl : Laid w) : Calls Tryd.prog 10 #[stV n a b c d, yV 3 y l 3] w (NPost (stV (movedN n 3) d a b c) 0 w) := by
  have hcl := isLen_any l
  rw [decide_eq_true hf] at hcl
  have n12 : n < 12 := by have := h.2.2.2.2.2; omega
  have n12' : (n : Int) < 12 := by omega
  have hc := right_any n a b c d
  rw [decide_eq_true h] at hc
  have h3 := three_new 36 w n a b c d 3 y l 3
  unfold stV at hc ⊢
  unfold yV
  obtain ⟨w0, hw0⟩ : ∃ w0, (((w.alloc (.cells (stC n a b c d) 36)).alloc (.cells #[.int .i64 3, .int .u8 y, .int .i64 l, .int .i64 3] 24)).alloc (.cells (stC 0 0 0 0 0) 36)) = w0 := ⟨_, rfl⟩
  rw [hw0] at h3
  have hcc := hc w0
  clear hc
  obtain ⟨m, hm⟩ : ∃ m, movedN n 3 = m := ⟨_, rfl⟩
  rw [hm]
  go_enter Tryd.func10, Tryd.ntmps10
  obtain ⟨⟨s0, s1, s2, s3, s4⟩, ⟨y0, y1, y2, y3⟩, ⟨r0, r1, r2, r3, r4⟩, ⟨f0, f1, f2, f3, f4⟩, ⟨g0, g1, g2, g3, g4⟩⟩ := h3.cells
  go_wp2_with (first | (go_at_call 17; first | (rw [hw0]; refine hcc.mono ?_) | refine hcc.mono ?_; rintro e w1 ⟨rfl, hb1⟩; clear s0 s1 s2 s3 s4 y0 y1 y2 y3 r0 r1 r2 r3 r4 f0 f1 f2 f3 f4 g0 g1 g2 g3 g4; have h31 := h3.below hb1; have hB := h31.2.2.2; obtain ⟨⟨s0, s1, s2, s3, s4⟩, ⟨y0, y1, y2, y3⟩, ⟨r0, r1, r2, r3, r4⟩, ⟨f0, f1, f2, f3, f4⟩, ⟨g0, g1, g2, g3, g4⟩⟩ := h31.cells; clear h3 hw0; have lt0 := ((hl.below hB).2 n n12).2.2.2; rw [hm] at lt0) | (go_at_call 18; refine (hcl _).mono ?_; rintro e w' ⟨rfl, rfl⟩))
  obtain ⟨w2, hrun, h32⟩ := copy_rep3 h31 m
  have hB2 := h32.2.2.2
  go_region
  clear s0 s1 s2 s3 s4 y0 y1 y2 y3 r0 r1 r2 r3 r4 f0 f1 f2 f3 f4 g0 g1 g2 g3 g4 hrun lt0
  obtain ⟨⟨s0, s1, s2, s3, s4⟩, ⟨y0, y1, y2, y3⟩, ⟨r0, r1, r2, r3, r4⟩, ⟨f0, f1, f2, f3, f4⟩, ⟨g0, g1, g2, g3, g4⟩⟩ := h32.cells
  go_wp2
  exact bodyPost_ret (v := .tuple #[.agg (stC m d a b c), .int .i64 0]) (by simp [results, Tryd.results10, go_sem, *]) rfl ⟨rfl, below5 (below1 hB2 (Nat.le_refl _) _) (up2 _) _ _ _ _ _⟩
end Go.Proofs.YthfmomhcalppfaaDoor
