/-
  Prices of rows of literals and matches against the plan's; the told plan is not dearer: plain. Conditions: none.
-/
import Derived.Test.YthlflcnpmabmbaaDoorPaM
namespace Go.Proofs.YthlflcnpmabmbaaDoor
open Go.RowKit

/-- a row of the finder's steps costs no less than the table says -/
theorem steps_price (l : List UInt8) (hi : Nat) (dict : Int) (hd : dict ≤ 4294967295) (r : List Sy) : ∀ p a, steps l hi dict p r → ∃ S, prsGo a r = (S, 0) ∧ a + (planT l hi dict p).2 ≤ S := by
  induction r with
  | nil =>
    intro p a h
    have hp : p = hi := h
    refine ⟨a, rfl, ?_⟩
    rw [planT_end l hi dict p (by omega)]
    show a + 0 ≤ a
    omega
  | cons y r ih =>
    intro p a ⟨h1, h2, h3⟩
    have hyp := ysz_pos y
    have hlt : p < hi := by omega
    obtain ⟨o1, o2⟩ := planT_opt l hi dict hd p hlt
    rcases h1 with rfl | ⟨n, d, rfl, e2, e3⟩
    · have hz : ysz ⟨1, l.getD p 0, 0, 0⟩ = 1 := rfl
      rw [hz] at h3
      obtain ⟨S, s1, s2⟩ := ih (p + 1) (a + 9) h3
      refine ⟨S, by rw [prs_lit]; exact s1, by omega⟩
    · obtain ⟨m1, m2, m3, m4, m5⟩ := planSt_match e3
      have hz : ysz ⟨2, 0, (n : Int), (d : Int)⟩ = n := by unfold ysz; simp only []; omega
      rw [hz] at h3
      obtain ⟨S, s1, s2⟩ := ih (p + n) (a + mPr n d) h3
      obtain ⟨m, hm, q1, q2⟩ := e3
      have := o2 m hm n e2 q1
      rw [q2] at this
      refine ⟨S, by rw [prs_match _ _ _ _ e2 m4 m1 (by omega)]; exact s1, by omega⟩
/-- one told step costs no more -/
theorem told_price (l : List UInt8) (hi : Nat) (dict : Int) (p : Nat) (s : St) (y : Sy) (hs : s.right) (hd : dict ≤ 4294967295) (h : planSt l hi dict p y) (hz : p + ysz y ≤ hi) (a : Int) (r : List Sy) :
    ∃ c b : Int, (∀ r', prsGo a (toldP l hi dict p y s :: r') = prsGo (a + c) r') ∧ (∀ r', ∀ a', prsGo a' (y :: r') = prsGo (a' + b) r') ∧ c ≤ b := by
  have htk := told_ok hs hd h hz
  have hE : nextE s (toldP l hi dict p y s) = formedN (toldP l hi dict p y s).k (toldP l hi dict p y s).l (toldP l hi dict p y s).x := by unfold nextE; rw [if_pos hs]
  have hf : formedN (toldP l hi dict p y s).k (toldP l hi dict p y s).l (toldP l hi dict p y s).x = 0 := by rw [← hE]; exact htk.1.1
  have hone : ∀ (t : Sy), formedN t.k t.l t.x = 0 → ∀ (a : Int) r', prsGo a (t :: r') = prsGo (a + prV t.k t.l t.x) r' := fun t ht a r' => by
    show (if formedN t.k t.l t.x = 0 then _ else _) = _
    rw [if_pos ht]
  have hE2 : ∀ y, nextE s y = formedN y.k y.l y.x := fun y => by unfold nextE; rw [if_pos hs]
  have hfy : formedN y.k y.l y.x = 0 := by rw [← hE2]; exact (match_ok hs hd h hz).1
  refine ⟨_, _, fun r' => hone _ hf a r', fun r' a' => hone _ hfy a' r', ?_⟩
  rcases h with rfl | ⟨n, d, rfl, e2, e3⟩
  · unfold toldP
    rw [if_pos rfl]
    split
    · show prV 4 0 0 ≤ prV 1 0 0
      decide +kernel
    · exact Int.le_refl _
  · obtain ⟨m1, m2, m3, m4, m5⟩ := planSt_match e3
    have hv : prV 2 (n : Int) (d : Int) = 8 + lenP (n : Int) + (bitsN (slotUpto d 64) : Int) := mPr_val e2 m4 m1 (by omega)
    have hrep : ∀ i : Int, 0 ≤ i → i ≤ 3 → prV 3 (n : Int) i ≤ prV 2 (n : Int) (d : Int) := fun i i0 i3 => by
      rw [hv]
      have hf3 : formedN 3 (n : Int) i = 0 := by
        unfold formedN
        rw [if_neg (by decide), if_neg (by decide), if_neg (by decide), if_pos rfl, if_pos ⟨by unfold isL; omega, by unfold repOk; omega⟩]
      unfold prV
      rw [if_pos hf3, if_neg (by decide), if_neg (by decide), if_pos rfl]
      omega
    unfold toldP
    rw [if_neg (show ¬ (2 : Int) = 1 by decide)]
    simp only []
    split
    · exact hrep 0 (by decide) (by decide)
    · split
      · exact hrep 1 (by decide) (by decide)
      · split
        · exact hrep 2 (by decide) (by decide)
        · split
          · exact hrep 3 (by decide) (by decide)
          · exact Int.le_refl _
theorem cheap_price (l : List UInt8) (hi : Nat) (dict : Int) (hd : dict ≤ 4294967295) (r : List Sy) : ∀ p s a b, a ≤ b → steps l hi dict p r → s.right → ∃ S T, prsGo a (cheapS l hi dict p s r).1 = (S, 0) ∧ prsGo b r = (T, 0) ∧ S ≤ T := by
  induction r with
  | nil => intro p s a b h _ _; exact ⟨a, b, rfl, rfl, h⟩
  | cons y r ih =>
    intro p s a b hab ⟨h1, h2, h3⟩ hs
    obtain ⟨c, d, e1, e2, e3⟩ := told_price l hi dict p s y hs hd h1 h2 a r
    obtain ⟨t1, t2⟩ := told_ok hs hd h1 h2
    obtain ⟨S, T, s1, s2, s3⟩ := ih (p + ysz y) (nextS s (toldP l hi dict p y s)) (a + c) (b + d) (by omega) h3 (nextS_right t1.1)
    refine ⟨S, T, ?_, ?_, s3⟩
    · show prsGo a (_ :: _) = _
      rw [e1]
      exact s1
    · rw [e2]
      exact s2
theorem steps_len {l : List UInt8} {hi : Nat} {dict : Int} {r : List Sy} : ∀ {p : Nat}, steps l hi dict p r → p + r.length ≤ hi := by
  induction r with
  | nil => intro p h; exact Nat.le_of_eq h
  | cons y r ih => intro p h; have := ih h.2.2; have := ysz_pos y; rw [List.length_cons]; omega
/-- steps from one place to another -/
def stepsTo (l : List UInt8) (hi : Nat) (dict : Int) : Nat → List Sy → Nat → Prop
  | p, [], q => p = q
  | p, y :: r, q => planSt l hi dict p y ∧ p + ysz y ≤ hi ∧ stepsTo l hi dict (p + ysz y) r q
theorem stepsTo_snoc {l : List UInt8} {hi : Nat} {dict : Int} {r : List Sy} {y : Sy} : ∀ {p q : Nat}, stepsTo l hi dict p r q → planSt l hi dict q y → q + ysz y ≤ hi → stepsTo l hi dict p (r ++ [y]) (q + ysz y) := by
  induction r with
  | nil => intro p q h h1 h2; have hpq : p = q := h; subst hpq; exact ⟨h1, h2, rfl⟩
  | cons z r ih => intro p q ⟨a, b, c⟩ h1 h2; exact ⟨a, b, ih c h1 h2⟩
theorem stepsTo_all {l : List UInt8} {hi : Nat} {dict : Int} {r : List Sy} : ∀ {p : Nat}, stepsTo l hi dict p r hi → steps l hi dict p r := by
  induction r with
  | nil => intro p h; exact h
  | cons z r ih => intro p ⟨a, b, c⟩; exact ⟨a, b, ih c⟩
theorem stepsTo_len {l : List UInt8} {hi : Nat} {dict : Int} {r : List Sy} : ∀ {p q : Nat}, stepsTo l hi dict p r q → p + r.length ≤ q := by
  induction r with
  | nil => intro p q h; exact Nat.le_of_eq h
  | cons y r ih => intro p q h; have := ih h.2.2; have := ysz_pos y; rw [List.length_cons]; omega
end Go.Proofs.YthlflcnpmabmbaaDoor
