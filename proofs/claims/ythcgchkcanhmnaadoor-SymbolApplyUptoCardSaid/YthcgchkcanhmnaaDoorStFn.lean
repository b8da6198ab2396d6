/-
  What both Nexts answer, as plain functions of the state and the symbol. No condition beyond each theorem's own.
-/
import Derived.Test.YthcgchkcanhmnaaDoorStBoth
namespace Go.Proofs.YthcgchkcanhmnaaDoor
open Go.RowKit

structure St where
  (n a b c d : Int)
structure Sy where
  (k : Int)
  (y : UInt8)
  (l x : Int)
def St.v (s : St) : Value := .agg (stC s.n s.a s.b s.c s.d)
def Sy.cs (y : Sy) : Array Value := #[.int .i64 y.k, .int .u8 (y.y.toNat : Int), .int .i64 y.l, .int .i64 y.x]
def Sy.v (y : Sy) : Value := .agg y.cs
def St.zero : St := ⟨0, 0, 0, 0, 0⟩
def St.start : St := ⟨0, 1, 1, 1, 1⟩
def St.right (s : St) : Prop := rightP s.n s.a s.b s.c s.d
instance (s : St) : Decidable s.right := by unfold St.right; infer_instance
def St.rep (s : St) (i : Int) : Int := if i = 0 then s.a else if i = 1 then s.b else if i = 2 then s.c else s.d
def nextE (s : St) (y : Sy) : Int := if s.right then formedN y.k y.l y.x else 7
def nextS (s : St) (y : Sy) : St :=
  if nextE s y = 0 then
    (if y.k = 2 then ⟨movedN s.n 2, y.x, s.a, s.b, s.c⟩
     else if y.k = 3 then
      (if y.x = 0 then ⟨movedN s.n 3, s.a, s.b, s.c, s.d⟩ else if y.x = 1 then ⟨movedN s.n 3, s.b, s.a, s.c, s.d⟩
       else if y.x = 2 then ⟨movedN s.n 3, s.c, s.a, s.b, s.d⟩ else ⟨movedN s.n 3, s.d, s.a, s.b, s.c⟩)
     else ⟨movedN s.n y.k, s.a, s.b, s.c, s.d⟩)
  else St.zero
def BothF (s : St) (y : Sy) (t : St) (e : Int) : Prop := Both s.n s.a s.b s.c s.d y.k (y.y.toNat : Int) y.l y.x t.n t.a t.b t.c t.d e
theorem Next_fn (s : St) (y : Sy) : BothF s y (nextS s y) (nextE s y) := by
  obtain ⟨n, a, b, c, d⟩ := s
  obtain ⟨k, z, l, x⟩ := y
  unfold BothF
  simp only []
  by_cases h : rightP n a b c d
  · have hE : nextE ⟨n, a, b, c, d⟩ ⟨k, z, l, x⟩ = formedN k l x := if_pos h
    unfold nextS
    rw [hE]
    obtain ⟨q, rfl, hq⟩ := rightP_n h
    by_cases k1 : k = 1
    · subst k1
      exact ⟨fun w hl => Next_lit q a b c d _ l x h w hl, fun w => NextR_plain q a b c d 1 _ l x h rfl (.inl rfl) w⟩
    · by_cases k4 : k = 4
      · subst k4
        exact ⟨fun w hl => Next_short q a b c d _ l x h w hl, fun w => NextR_plain q a b c d 4 _ l x h rfl (.inr rfl) w⟩
      · by_cases k2 : k = 2
        · subst k2
          by_cases hf : isL l ∧ isD x
          · have hf0 : formedN 2 l x = 0 := by unfold formedN; rw [if_neg (by decide), if_neg (by decide), if_pos rfl, if_pos hf]
            rw [if_pos hf0, if_pos rfl, hf0]
            exact ⟨fun w hl => Next_match q a b c d _ l x h hf w hl, fun w => NextR_match q a b c d _ l x h hf0 w⟩
          · have hf0 : formedN 2 l x = 7 := by unfold formedN; rw [if_neg (by decide), if_neg (by decide), if_pos rfl, if_neg hf]
            rw [hf0, if_neg (by decide)]
            exact ⟨fun w _ => Next_match_bad q a b c d _ l x h hf w, fun w => NextR_unformed q a b c d 2 _ l x 7 h hf0 (by decide) w⟩
        · by_cases k3 : k = 3
          · subst k3
            by_cases hf : isL l ∧ repOk x
            · have hf0 : formedN 3 l x = 0 := by unfold formedN; rw [if_neg (by decide), if_neg (by decide), if_neg (by decide), if_pos rfl, if_pos hf]
              rw [if_pos hf0, if_neg (show ¬ (3 : Int) = 2 by decide), if_pos (show (3 : Int) = 3 from rfl), hf0]
              have hx : x = 0 ∨ x = 1 ∨ x = 2 ∨ x = 3 := by have := hf.2; unfold repOk at this; omega
              rcases hx with rfl | rfl | rfl | rfl
              · exact ⟨fun w hl => Next_rep0 q a b c d _ l h hf.1 w hl, fun w => NextR_rep0 q a b c d _ l h hf0 w⟩
              · exact ⟨fun w hl => Next_rep1 q a b c d _ l h hf.1 w hl, fun w => NextR_rep1 q a b c d _ l h hf0 w⟩
              · exact ⟨fun w hl => Next_rep2 q a b c d _ l h hf.1 w hl, fun w => NextR_rep2 q a b c d _ l h hf0 w⟩
              · exact ⟨fun w hl => Next_rep3 q a b c d _ l h hf.1 w hl, fun w => NextR_rep3 q a b c d _ l h hf0 w⟩
            · have hf0 : formedN 3 l x = 7 := by unfold formedN; rw [if_neg (by decide), if_neg (by decide), if_neg (by decide), if_pos rfl, if_neg hf]
              rw [hf0, if_neg (by decide)]
              exact ⟨fun w _ => Next_rep_bad q a b c d _ l x h hf w, fun w => NextR_unformed q a b c d 3 _ l x 7 h hf0 (by decide) w⟩
          · have hf0 : formedN k l x = 6 := by unfold formedN; rw [if_neg k1, if_neg k4, if_neg k2, if_neg k3]
            rw [hf0, if_neg (by decide)]
            exact ⟨fun w _ => Next_kind q a b c d k _ l x h k1 k2 k3 k4 w, fun w => NextR_unformed q a b c d k _ l x 6 h hf0 (by decide) w⟩
  · have hE : nextE ⟨n, a, b, c, d⟩ ⟨k, z, l, x⟩ = 7 := if_neg h
    unfold nextS
    rw [hE, if_neg (by decide)]
    exact ⟨fun w _ => Next_bad n a b c d k _ l x h w, fun w => NextR_bad n a b c d k _ l x h w⟩
theorem Next_p (s : St) (y : Sy) (w : World) (hl : Laid w) : Calls Tryd.prog 27 #[s.v, y.v] w (NPost (nextS s y).v (nextE s y) w) := (Next_fn s y).1 w hl
theorem Next_r (s : St) (y : Sy) (w : World) : Calls Tryd.prog 38 #[s.v, y.v] w (NPost (nextS s y).v (nextE s y) w) := (Next_fn s y).2 w
theorem formedN_zero {k l x : Int} (h : formedN k l x = 0) : k = 1 ∨ k = 4 ∨ (k = 2 ∧ isL l ∧ isD x) ∨ (k = 3 ∧ isL l ∧ repOk x) := by
  unfold formedN at h
  by_cases k1 : k = 1
  · exact .inl k1
  · by_cases k4 : k = 4
    · exact .inr (.inl k4)
    · rw [if_neg k1, if_neg k4] at h
      by_cases k2 : k = 2
      · rw [if_pos k2] at h
        split at h
        · exact .inr (.inr (.inl ⟨k2, by assumption⟩))
        · cases h
      · rw [if_neg k2] at h
        by_cases k3 : k = 3
        · rw [if_pos k3] at h
          split at h
          · exact .inr (.inr (.inr ⟨k3, by assumption⟩))
          · cases h
        · rw [if_neg k3] at h
          cases h
theorem nextE_zero {s : St} {y : Sy} (h : nextE s y = 0) : s.right ∧ formedN y.k y.l y.x = 0 := by
  unfold nextE at h
  split at h
  · exact ⟨by assumption, h⟩
  · cases h
theorem nextS_right {s : St} {y : Sy} (h : nextE s y = 0) : (nextS s y).right := by
  obtain ⟨hr, hf⟩ := nextE_zero h
  have hr' := hr
  obtain ⟨ha, hb, hc, hd, h0, h1⟩ := hr'
  unfold nextS
  rw [if_pos h]
  have hm : ∀ k, 0 ≤ movedN s.n k ∧ movedN s.n k < 12 := fun k => movedN_ok h0 h1
  rcases formedN_zero hf with k1 | k4 | ⟨k2, hl, hx⟩ | ⟨k3, hl, hx⟩
  · rw [if_neg (by omega), if_neg (by omega)]
    exact ⟨ha, hb, hc, hd, hm y.k⟩
  · rw [if_neg (by omega), if_neg (by omega)]
    exact ⟨ha, hb, hc, hd, hm y.k⟩
  · rw [if_pos k2]
    exact ⟨hx, ha, hb, hc, hm 2⟩
  · rw [if_neg (by omega), if_pos k3]
    split
    · exact ⟨ha, hb, hc, hd, hm 3⟩
    · split
      · exact ⟨hb, ha, hc, hd, hm 3⟩
      · split
        · exact ⟨hc, ha, hb, hd, hm 3⟩
        · exact ⟨hd, ha, hb, hc, hm 3⟩
theorem start_right : St.start.right := by decide
end Go.Proofs.YthcgchkcanhmnaaDoor
