/-
  Both Nexts answer alike; the law StateNext as a walk. No condition beyond each theorem's own.
-/
import Derived.Test.YthcgchkcanhmnaaDoorMem
import Derived.Test.YthcgchkcanhmnaaDoorStNext
import Derived.Test.YthcgchkcanhmnaaDoorStNextR
import Derived.Test.YthcgchkcanhmnaaDoorStRep
import Derived.Laws.CopyOwn
import Derived.Laws.CopyRow
import Derived.Deep.RegionLaw
import Derived.Deep.RegionHeld3
import Derived.Deep.DeepCutAuto
import Derived.Deep.QuietTactic
import Derived.BigQuiet
import Derived.BigRegion
import Derived.Test.YthcgchkcanhmnaaDoorChecked
import Derived.WalkKit
import Derived.WalkSpells
import Derived.WalkLawsBesides
import Derived.Lib.Strings
import Derived.Lib.Slices
import Derived.Lib.Small
import Derived.Lib.Walk
import Derived.Lib.BitFns
import Derived.Lib.Hide
import Derived.Deep.Light
namespace Go.Proofs.YthcgchkcanhmnaaDoor
open Go.RowKit

theorem rightP_n {n a b c d : Int} (h : rightP n a b c d) : ∃ k : Nat, n = (k : Int) ∧ k < 12 := ⟨n.toNat, by have := h.2.2.2.2.1; omega, by have := h.2.2.2.2.2; omega⟩
theorem movedN_ok {n k : Int} (h0 : 0 ≤ n) (h1 : n < 12) : 0 ≤ movedN n k ∧ movedN n k < 12 := by
  unfold movedN
  split
  · split
    · omega
    · split <;> omega
  · split
    · split <;> omega
    · split
      · omega
      · split <;> omega
/-- both Nexts answer alike; where there is no mistake the number is one that can be, and the distances are among the old ones and the one named -/
def Both (n a b c d k y l x m' a' b' c' d' e : Int) : Prop :=
  (∀ w, Laid w → Calls Tryd.prog 27 #[.agg (stC n a b c d), .agg #[.int .i64 k, .int .u8 y, .int .i64 l, .int .i64 x]] w (NPost (.agg (stC m' a' b' c' d')) e w)) ∧
  (∀ w, Calls Tryd.prog 38 #[.agg (stC n a b c d), .agg #[.int .i64 k, .int .u8 y, .int .i64 l, .int .i64 x]] w (NPost (.agg (stC m' a' b' c' d')) e w))
/-- what Next answers -/
inductive Way (n a b c d k l x : Int) : Int → Int → Int → Int → Int → Int → Prop
  | bad (e : Int) : e ≠ 0 → Way n a b c d k l x 0 0 0 0 0 e
  | plain : rightP n a b c d → (k = 1 ∨ k = 4) → Way n a b c d k l x (movedN n k) a b c d 0
  | mat : rightP n a b c d → k = 2 → isD x → Way n a b c d k l x (movedN n 2) x a b c 0
  | rep0 : rightP n a b c d → k = 3 → x = 0 → Way n a b c d k l x (movedN n 3) a b c d 0
  | rep1 : rightP n a b c d → k = 3 → x = 1 → Way n a b c d k l x (movedN n 3) b a c d 0
  | rep2 : rightP n a b c d → k = 3 → x = 2 → Way n a b c d k l x (movedN n 3) c a b d 0
  | rep3 : rightP n a b c d → k = 3 → x = 3 → Way n a b c d k l x (movedN n 3) d a b c 0
theorem Next_both (n a b c d k y l x : Int) : ∃ m' a' b' c' d' e, Both n a b c d k y l x m' a' b' c' d' e ∧ Way n a b c d k l x m' a' b' c' d' e := by
  by_cases h : rightP n a b c d
  · obtain ⟨q, rfl, hq⟩ := rightP_n h
    by_cases k1 : k = 1
    · subst k1
      exact ⟨_, _, _, _, _, _, ⟨fun w hl => Next_lit q a b c d y l x h w hl, fun w => NextR_plain q a b c d 1 y l x h rfl (.inl rfl) w⟩, .plain h (.inl rfl)⟩
    · by_cases k4 : k = 4
      · subst k4
        exact ⟨_, _, _, _, _, _, ⟨fun w hl => Next_short q a b c d y l x h w hl, fun w => NextR_plain q a b c d 4 y l x h rfl (.inr rfl) w⟩, .plain h (.inr rfl)⟩
      · by_cases k2 : k = 2
        · subst k2
          by_cases hf : isL l ∧ isD x
          · have hf0 : formedN 2 l x = 0 := by unfold formedN; rw [if_neg (by decide), if_neg (by decide), if_pos rfl, if_pos hf]
            exact ⟨_, _, _, _, _, _, ⟨fun w hl => Next_match q a b c d y l x h hf w hl, fun w => NextR_match q a b c d y l x h hf0 w⟩, .mat h rfl hf.2⟩
          · have hf0 : formedN 2 l x = 7 := by unfold formedN; rw [if_neg (by decide), if_neg (by decide), if_pos rfl, if_neg hf]
            exact ⟨_, _, _, _, _, _, ⟨fun w _ => Next_match_bad q a b c d y l x h hf w, fun w => NextR_unformed q a b c d 2 y l x 7 h hf0 (by decide) w⟩, .bad 7 (by decide)⟩
        · by_cases k3 : k = 3
          · subst k3
            by_cases hf : isL l ∧ repOk x
            · have hf0 : formedN 3 l x = 0 := by unfold formedN; rw [if_neg (by decide), if_neg (by decide), if_neg (by decide), if_pos rfl, if_pos hf]
              have hx : x = 0 ∨ x = 1 ∨ x = 2 ∨ x = 3 := by have := hf.2; unfold repOk at this; omega
              rcases hx with rfl | rfl | rfl | rfl
              · exact ⟨_, _, _, _, _, _, ⟨fun w hl => Next_rep0 q a b c d y l h hf.1 w hl, fun w => NextR_rep0 q a b c d y l h hf0 w⟩, .rep0 h rfl rfl⟩
              · exact ⟨_, _, _, _, _, _, ⟨fun w hl => Next_rep1 q a b c d y l h hf.1 w hl, fun w => NextR_rep1 q a b c d y l h hf0 w⟩, .rep1 h rfl rfl⟩
              · exact ⟨_, _, _, _, _, _, ⟨fun w hl => Next_rep2 q a b c d y l h hf.1 w hl, fun w => NextR_rep2 q a b c d y l h hf0 w⟩, .rep2 h rfl rfl⟩
              · exact ⟨_, _, _, _, _, _, ⟨fun w hl => Next_rep3 q a b c d y l h hf.1 w hl, fun w => NextR_rep3 q a b c d y l h hf0 w⟩, .rep3 h rfl rfl⟩
            · have hf0 : formedN 3 l x = 7 := by unfold formedN; rw [if_neg (by decide), if_neg (by decide), if_neg (by decide), if_pos rfl, if_neg hf]
              exact ⟨_, _, _, _, _, _, ⟨fun w _ => Next_rep_bad q a b c d y l x h hf w, fun w => NextR_unformed q a b c d 3 y l x 7 h hf0 (by decide) w⟩, .bad 7 (by decide)⟩
          · have hf0 : formedN k l x = 6 := by unfold formedN; rw [if_neg k1, if_neg k4, if_neg k2, if_neg k3]
            exact ⟨_, _, _, _, _, _, ⟨fun w _ => Next_kind q a b c d k y l x h k1 k2 k3 k4 w, fun w => NextR_unformed q a b c d k y l x 6 h hf0 (by decide) w⟩, .bad 6 (by decide)⟩
  · exact ⟨_, _, _, _, _, _, ⟨fun w _ => Next_bad n a b c d k y l x h w, fun w => NextR_bad n a b c d k y l x h w⟩, .bad 7 (by decide)⟩
theorem bup {w w1 w2 : World} (h : Below w.heap.size w w1) (k : Below w1.heap.size w1 w2) : Below w.heap.size w w2 := h.trans (k.mono h.size)
theorem bmk {w w1 : World} (h : Below w.heap.size w w1) (o : Obj) : Below w.heap.size w (w1.alloc o) := h.alloc h.size _
end Go.Proofs.YthcgchkcanhmnaaDoor
