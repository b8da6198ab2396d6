/-
  Both Nexts answer alike; the law StateNext as a walk. No condition beyond each theorem's own.
-/
import Derived.Test.YtchoiedgnmhjeaaDoorMem
import Derived.Test.YtchoiedgnmhjeaaDoorNext
import Derived.Test.YtchoiedgnmhjeaaDoorNextR
import Derived.Test.YtchoiedgnmhjeaaDoorEasy
import Derived.Test.YtchoiedgnmhjeaaDoorRep
import Derived.Laws.CopyOwn
import Derived.Laws.CopyRow
import Derived.Deep.RegionLaw
import Derived.Deep.RegionHeld3
import Derived.Deep.DeepCutAuto
import Derived.Deep.QuietTactic
import Derived.BigQuiet
import Derived.BigRegion
import Derived.Test.YtchoiedgnmhjeaaDoorProps
import Derived.Test.YtchoiedgnmhjeaaDoorChecked
import Derived.WalkKit
import Derived.WalkSpells
import Derived.WalkLawsBesides
import Derived.Lib.Strings
import Derived.Lib.Slices
import Derived.Lib.Small
import Derived.Lib.Walk
import Derived.Lib.BitFns
import Derived.Lib.Hide
import Derived.Deep.Light
namespace Go.Proofs.YtchoiedgnmhjeaaDoor
open Go.RowKit

theorem rightP_n {n a b c d : Int} (h : rightP n a b c d) : ∃ k : Nat, n = (k : Int) ∧ k < 12 := ⟨n.toNat, by have := h.2.2.2.2.1; omega, by have := h.2.2.2.2.2; omega⟩
theorem movedN_ok {n k : Int} (h0 : 0 ≤ n) (h1 : n < 12) : 0 ≤ movedN n k ∧ movedN n k < 12 := by
  unfold movedN
  split
  · split
    · omega
    · split <;> omega
  · split
    · split <;> omega
    · split
      · omega
      · split <;> omega
/-- both Nexts answer alike; where there is no mistake the number is one that can be, and the distances are among the old ones and the one named -/
def Both (n a b c d k y l x m' a' b' c' d' e : Int) : Prop :=
  (∀ w, Laid w → Calls Tryd.prog 10 #[.agg (stC n a b c d), .agg #[.int .i64 k, .int .u8 y, .int .i64 l, .int .i64 x]] w (NPost (.agg (stC m' a' b' c' d')) e w)) ∧
  (∀ w, Calls Tryd.prog 11 #[.agg (stC n a b c d), .agg #[.int .i64 k, .int .u8 y, .int .i64 l, .int .i64 x]] w (NPost (.agg (stC m' a' b' c' d')) e w))
/-- what Next answers -/
inductive Way (n a b c d k l x : Int) : Int → Int → Int → Int → Int → Int → Prop
  | bad (e : Int) : e ≠ 0 → Way n a b c d k l x 0 0 0 0 0 e
  | plain : rightP n a b c d → (k = 1 ∨ k = 4) → Way n a b c d k l x (movedN n k) a b c d 0
  | mat : rightP n a b c d → k = 2 → isD x → Way n a b c d k l x (movedN n 2) x a b c 0
  | rep0 : rightP n a b c d → k = 3 → x = 0 → Way n a b c d k l x (movedN n 3) a b c d 0
  | rep1 : rightP n a b c d → k = 3 → x = 1 → Way n a b c d k l x (movedN n 3) b a c d 0
  | rep2 : rightP n a b c d → k = 3 → x = 2 → Way n a b c d k l x (movedN n 3) c a b d 0
  | rep3 : rightP n a b c d → k = 3 → x = 3 → Way n a b c d k l x (movedN n 3) d a b c 0
theorem Next_both (n a b c d k y l x : Int) : ∃ m' a' b' c' d' e, Both n a b c d k y l x m' a' b' c' d' e ∧ Way n a b c d k l x m' a' b' c' d' e := by
  by_cases h : rightP n a b c d
  · obtain ⟨q, rfl, hq⟩ := rightP_n h
    by_cases k1 : k = 1
    · subst k1
      exact ⟨_, _, _, _, _, _, ⟨fun w hl => Next_lit q a b c d y l x h w hl, fun w => NextR_plain q a b c d 1 y l x h rfl (.inl rfl) w⟩, .plain h (.inl rfl)⟩
    · by_cases k4 : k = 4
      · subst k4
        exact ⟨_, _, _, _, _, _, ⟨fun w hl => Next_short q a b c d y l x h w hl, fun w => NextR_plain q a b c d 4 y l x h rfl (.inr rfl) w⟩, .plain h (.inr rfl)⟩
      · by_cases k2 : k = 2
        · subst k2
          by_cases hf : isL l ∧ isD x
          · have hf0 : formedN 2 l x = 0 := by unfold formedN; rw [if_neg (by decide), if_neg (by decide), if_pos rfl, if_pos hf]
            exact ⟨_, _, _, _, _, _, ⟨fun w hl => Next_match q a b c d y l x h hf w hl, fun w => NextR_match q a b c d y l x h hf0 w⟩, .mat h rfl hf.2⟩
          · have hf0 : formedN 2 l x = 7 := by unfold formedN; rw [if_neg (by decide), if_neg (by decide), if_pos rfl, if_neg hf]
            exact ⟨_, _, _, _, _, _, ⟨fun w _ => Next_match_bad q a b c d y l x h hf w, fun w => NextR_unformed q a b c d 2 y l x 7 h hf0 (by decide) w⟩, .bad 7 (by decide)⟩
        · by_cases k3 : k = 3
          · subst k3
            by_cases hf : isL l ∧ repOk x
            · have hf0 : formedN 3 l x = 0 := by unfold formedN; rw [if_neg (by decide), if_neg (by decide), if_neg (by decide), if_pos rfl, if_pos hf]
              have hx : x = 0 ∨ x = 1 ∨ x = 2 ∨ x = 3 := by have := hf.2; unfold repOk at this; omega
              rcases hx with rfl | rfl | rfl | rfl
              · exact ⟨_, _, _, _, _, _, ⟨fun w hl => Next_rep0 q a b c d y l h hf.1 w hl, fun w => NextR_rep0 q a b c d y l h hf0 w⟩, .rep0 h rfl rfl⟩
              · exact ⟨_, _, _, _, _, _, ⟨fun w hl => Next_rep1 q a b c d y l h hf.1 w hl, fun w => NextR_rep1 q a b c d y l h hf0 w⟩, .rep1 h rfl rfl⟩
              · exact ⟨_, _, _, _, _, _, ⟨fun w hl => Next_rep2 q a b c d y l h hf.1 w hl, fun w => NextR_rep2 q a b c d y l h hf0 w⟩, .rep2 h rfl rfl⟩
              · exact ⟨_, _, _, _, _, _, ⟨fun w hl => Next_rep3 q a b c d y l h hf.1 w hl, fun w => NextR_rep3 q a b c d y l h hf0 w⟩, .rep3 h rfl rfl⟩
            · have hf0 : formedN 3 l x = 7 := by unfold formedN; rw [if_neg (by decide), if_neg (by decide), if_neg (by decide), if_pos rfl, if_neg hf]
              exact ⟨_, _, _, _, _, _, ⟨fun w _ => Next_rep_bad q a b c d y l x h hf w, fun w => NextR_unformed q a b c d 3 y l x 7 h hf0 (by decide) w⟩, .bad 7 (by decide)⟩
          · have hf0 : formedN k l x = 6 := by unfold formedN; rw [if_neg k1, if_neg k4, if_neg k2, if_neg k3]
            exact ⟨_, _, _, _, _, _, ⟨fun w _ => Next_kind q a b c d k y l x h k1 k2 k3 k4 w, fun w => NextR_unformed q a b c d k y l x 6 h hf0 (by decide) w⟩, .bad 6 (by decide)⟩
  · exact ⟨_, _, _, _, _, _, ⟨fun w _ => Next_bad n a b c d k y l x h w, fun w => NextR_bad n a b c d k y l x h w⟩, .bad 7 (by decide)⟩
theorem bup {w w1 w2 : World} (h : Below w.heap.size w w1) (k : Below w1.heap.size w1 w2) : Below w.heap.size w w2 := h.trans (k.mono h.size)
theorem bmk {w w1 : World} (h : Below w.heap.size w w1) (o : Obj) : Below w.heap.size w (w1.alloc o) := h.alloc h.size _
set_option maxHeartbeats 4000000 in
theorem next_law (n a b c d k y l x : Int) (w : World) (hl : Laid w) : Calls Tryd.prog 3 #[.int .i64 n, .agg #[.int .i64 a, .int .i64 b, .int .i64 c, .int .i64 d], .agg #[.int .i64 k, .int .u8 y, .int .i64 l, .int .i64 x]] w fun e w' => e = .returned (.bool true) ∧ Below w.heap.size w w' := by
  obtain ⟨m', a', b', c', d', e, ⟨h10, h11⟩, _⟩ := Next_both n a b c d k y l x
  have hlit : ∃ t : Bool, (∀ w, Calls Tryd.prog 12 #[.agg (stC n a b c d)] w fun e w' => e = .returned (.bool t) ∧ Below w.heap.size w w') ∧ t = decide (0 ≤ n ∧ n < 7) := ⟨_, Literal_any n a b c d, rfl⟩
  obtain ⟨t, h12, ht⟩ := hlit
  have he := eq22
  have he' : ∀ (a b c d : Int) (w : World), (Op.equalIn 10000 22 (.agg #[.int .i64 a, .int .i64 b, .int .i64 c, .int .i64 d]) (.agg #[.int .i64 a, .int .i64 b, .int .i64 c, .int .i64 d])).run Tryd.prog w = .ok true w := eq22'
  obtain ⟨w0, hw0⟩ : ∃ w0, (((w.alloc (.cells #[.int .i64 a, .int .i64 b, .int .i64 c, .int .i64 d] 22)).alloc (.cells #[.int .i64 k, .int .u8 y, .int .i64 l, .int .i64 x] 24)).alloc (.cells (stC n a b c d) 26)) = w0 := ⟨_, rfl⟩
  have hB0 : Below w.heap.size w w0 := hw0 ▸ bmk (bmk (bmk (Below.refl _ _) _) _) _
  have bR : Blk w0 w.heap.size 22 #[.int .i64 a, .int .i64 b, .int .i64 c, .int .i64 d] := hw0 ▸ ((Blk.new _ _ _).alloc _).alloc _
  have bY : Blk w0 (w.heap.size + 1) 24 #[.int .i64 k, .int .u8 y, .int .i64 l, .int .i64 x] := by
    have := (Blk.new (w.alloc (.cells #[.int .i64 a, .int .i64 b, .int .i64 c, .int .i64 d] 22)) 24 #[.int .i64 k, .int .u8 y, .int .i64 l, .int .i64 x]).alloc (.cells (stC n a b c d) 26)
    rw [hw0] at this
    simpa using this
  have bS : Blk w0 (w.heap.size + 1 + 1) 26 (stC n a b c d) := by
    have := Blk.new ((w.alloc (.cells #[.int .i64 a, .int .i64 b, .int .i64 c, .int .i64 d] 22)).alloc (.cells #[.int .i64 k, .int .u8 y, .int .i64 l, .int .i64 x] 24)) 26 (stC n a b c d)
    rw [hw0] at this
    simpa using this
  have p0 := bY.cell 0; have p1 := bY.cell 1; have p2 := bY.cell 2; have p3 := bY.cell 3
  have s0 := bS.cell 0; have s1 := bS.cell 1; have s2 := bS.cell 2; have s3 := bS.cell 3; have s4 := bS.cell 4
  simp at p0 p1 p2 p3 s0 s1 s2 s3 s4
  have hcc := h10 w0 (hl.below hB0)
  have n0 : 0 ≤ n ∨ n < 0 := by omega
  have key : (n < 0 ∧ t = false) ∨ (0 ≤ n ∧ n ≤ 6 ∧ t = true) ∨ (0 ≤ n ∧ decide (n ≤ 6) = false ∧ t = false) := by
    by_cases h1 : 0 ≤ n
    · by_cases h2 : n ≤ 6
      · exact .inr (.inl ⟨h1, h2, by rw [ht]; exact decide_eq_true ⟨h1, by omega⟩⟩)
      · exact .inr (.inr ⟨h1, decide_eq_false h2, by rw [ht]; exact decide_eq_false (fun h => by omega)⟩)
    · exact .inl ⟨by omega, by rw [ht]; exact decide_eq_false (fun h => by omega)⟩
  clear ht n0
  rcases key with ⟨n1, rfl⟩ | ⟨n1, n2, rfl⟩ | ⟨n1, n2, rfl⟩
  all_goals
    go_enter Tryd.func3, Tryd.ntmps3
    go_wp2_with (first
      | (go_at_call 10; first | (rw [hw0]; refine hcc.mono ?_) | refine hcc.mono ?_; rintro e w1 ⟨rfl, hb1⟩; clear p0 p1 p2 p3 s0 s1 s2 s3 s4 hw0; have hB1 := bup hB0 hb1; have bR1 := (bR.same (hb1.block _ bR.lt)).alloc (.cells (stC m' a' b' c' d') 26); have bY1 := (bY.same (hb1.block _ bY.lt)).alloc (.cells (stC m' a' b' c' d') 26); have bS1 := (bS.same (hb1.block _ bS.lt)).alloc (.cells (stC m' a' b' c' d') 26); have r0 := bR1.cell 0; have r1 := bR1.cell 1; have r2 := bR1.cell 2; have r3 := bR1.cell 3; have p0 := bY1.cell 0; have p1 := bY1.cell 1; have p2 := bY1.cell 2; have p3 := bY1.cell 3; simp at r0 r1 r2 r3 p0 p1 p2 p3)
      | (go_at_call 11; refine (h11 _).mono ?_; rintro e w2 ⟨rfl, hb2⟩; clear r0 r1 r2 r3 p0 p1 p2 p3; have hB2 := bup (bmk hB1 (.cells (stC m' a' b' c' d') 26)) hb2; have bS2 := (bS1.same (hb2.block _ bS1.lt)).alloc (.cells (stC m' a' b' c' d') 30); have bT2 := ((Blk.new w1 26 (stC m' a' b' c' d')).same (hb2.block _ (by simp))).alloc (.cells (stC m' a' b' c' d') 30); have t0 := bT2.cell 0; have t1 := bT2.cell 1; have t2 := bT2.cell 2; have t3 := bT2.cell 3; have t4 := bT2.cell 4; have s0 := bS2.cell 0; have s1 := bS2.cell 1; have s2 := bS2.cell 2; have s3 := bS2.cell 3; have s4 := bS2.cell 4; simp at t0 t1 t2 t3 t4 s0 s1 s2 s3 s4)
      | (go_at_call 12; refine (h12 _).mono ?_; rintro e w3 ⟨rfl, hb3⟩; have hB3 := bup (bmk hB2 (.cells (stC m' a' b' c' d') 30)) hb3)
      | (go_at_call 13; refine (fixed_any _ (hl.below hB3)).mono ?_; rintro e w4 ⟨rfl, hb4⟩))
    go_ret
    exact ⟨rfl, bup hB3 hb4⟩
end Go.Proofs.YtchoiedgnmhjeaaDoor
