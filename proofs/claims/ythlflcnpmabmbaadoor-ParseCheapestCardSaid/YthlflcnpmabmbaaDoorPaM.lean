/-
  The symbols of Greedy, of Cheap and of Plan make the data, behind the window that lies ahead: plain. Conditions: none.
-/
import Derived.Test.YthlflcnpmabmbaaDoorPaO
import Derived.Test.YthlflcnpmabmbaaDoorWiC
namespace Go.Proofs.YthlflcnpmabmbaaDoor
open Go.RowKit

/-! ### one symbol -/
def stepOk (l : List UInt8) (hi : Nat) (dict : Int) (p : Nat) (s : St) (y : Sy) : Prop :=
  nextE s y = 0 ∧ p + ysz y ≤ hi ∧ (ysz y : Int) = win.lenOf y ∧ ((y.k = 1 ∧ y.y = l.getD p 0) ∨ (y.k ≠ 1 ∧ 1 ≤ win.distOf s y ∧ win.distOf s y ≤ (p : Int) ∧ win.distOf s y ≤ dict ∧ ∀ j, j < ysz y → l.getD (p - (win.distOf s y).toNat + j) 0 = l.getD (p + j) 0))
theorem take_more {l : List UInt8} {p : Nat} (h : p < l.length) : l.take (p + 1) = l.take p ++ [l.getD p 0] := by
  rw [List.take_add_one, List.getD_eq_getElem?_getD, List.getElem?_eq_getElem h]
  rfl
theorem ext_take {l : List UInt8} {p d : Nat} (h1 : 1 ≤ d) (h2 : d ≤ p) : ∀ n, p + n ≤ l.length → (∀ j, j < n → l.getD (p - d + j) 0 = l.getD (p + j) 0) → win.ext d n (l.take p) = l.take (p + n) := by
  intro n
  induction n with
  | zero => intro _ _; rfl
  | succ n ih =>
    intro h3 h4
    have := ih (by omega) (fun j hj => h4 j (by omega))
    show win.ext d n (l.take p) ++ [(win.ext d n (l.take p)).getD ((win.ext d n (l.take p)).length - d) 0] = _
    rw [this, ← Nat.add_assoc, take_more (by omega), List.length_take, Nat.min_eq_left (by omega)]
    congr 2
    rw [← h4 n (by omega), List.getD_eq_getElem?_getD, List.getD_eq_getElem?_getD, List.getElem?_take, if_pos (by omega), show p + n - d = p - d + n by omega]
theorem ap_ok {l : List UInt8} {hi size p : Nat} {dict : Int} {s : St} {y : Sy} (hd : dict = (size : Int)) (hl : hi ≤ l.length) (h : stepOk l hi dict p s y) :
    win.apE size (l.take p) s y = 0 ∧ win.apS size (l.take p) s y = nextS s y ∧ l.take p ++ win.apB size (l.take p) s y = l.take (p + ysz y) ∧ win.apB size (l.take p) s y = (l.drop p).take (ysz y) := by
  obtain ⟨h1, h2, h3, h4⟩ := h
  have hyp := ysz_pos y
  have hlen : (l.take p).length = p := by rw [List.length_take]; omega
  have hE : win.apE size (l.take p) s y = 0 := by
    unfold win.apE
    rw [if_pos h1]
    rcases h4 with ⟨h5, _⟩ | ⟨h5, h6, h7, h8, _⟩
    · rw [if_pos h5]
    · rw [if_neg h5, if_pos ⟨h6, by unfold win.full; rw [hlen]; omega⟩]
  have hT : l.take p ++ win.apB size (l.take p) s y = l.take (p + ysz y) := by
    unfold win.apB
    rw [if_pos hE]
    rcases h4 with ⟨h5, h6⟩ | ⟨h5, h6, h7, h8, h9⟩
    · rw [if_pos h5, h6]
      have : ysz y = 1 := by
        unfold win.lenOf at h3
        rw [if_neg (by omega)] at h3
        omega
      rw [this, take_more (by omega)]
    · rw [if_neg h5]
      have hx := ext_take (l := l) (p := p) (d := (win.distOf s y).toNat) (by omega) (by omega) (ysz y) (by omega) h9
      rw [show (win.lenOf y).toNat = ysz y by omega]
      have hy := win.ext_all (win.distOf s y).toNat (ysz y) (l.take p)
      rw [hx] at hy ⊢
      exact hy.symm
  refine ⟨hE, by unfold win.apS; rw [if_pos hE], hT, ?_⟩
  have hs : l.take (p + ysz y) = l.take p ++ (l.drop p).take (ysz y) := List.take_add ..
  rw [hs] at hT
  exact List.append_cancel_left hT
/-! ### rows of symbols -/
def makes (l : List UInt8) (hi : Nat) (dict : Int) : Nat → St → List Sy → St → Prop
  | p, s, [], t => p = hi ∧ s = t
  | p, s, y :: r, t => stepOk l hi dict p s y ∧ makes l hi dict (p + ysz y) (nextS s y) r t
theorem runP_pos {l : List UInt8} {hi : Nat} {dict : Int} {p : Nat} {d : Int} (h : 0 < runP l hi dict p d) : 1 ≤ d ∧ d ≤ (p : Int) ∧ d ≤ dict ∧ ∀ j, j < runP l hi dict p d → l.getD (p - d.toNat + j) 0 = l.getD (p + j) 0 := by
  unfold runP at h ⊢
  by_cases hc : 1 ≤ d ∧ d ≤ (p : Int) ∧ d ≤ dict
  · rw [if_pos hc] at h ⊢
    exact ⟨hc.1, hc.2.1, hc.2.2, fun j hj => ext_eq hj⟩
  · rw [if_neg hc] at h; exact absurd h (Nat.lt_irrefl 0)
theorem repGo_at (l : List UInt8) (hi : Nat) (dict : Int) (p : Nat) (s : St) : ∀ i, (repGo l hi dict p s i).1 ≠ 0 → (repGo l hi dict p s i).2 < i ∧ (repGo l hi dict p s i).1 = runP l hi dict p (s.rep ((repGo l hi dict p s i).2 : Int)) := by
  intro i
  induction i with
  | zero => intro h; exact absurd rfl h
  | succ i ih =>
    intro h
    unfold repGo repStep at h ⊢
    split
    · exact ⟨Nat.lt_succ_self i, rfl⟩
    · rename_i hc
      rw [if_neg hc] at h
      obtain ⟨h1, h2⟩ := ih h
      exact ⟨by omega, h2⟩
theorem rep_at (s : St) (i : Nat) (y : Sy) (hk : y.k = 3) (hx : y.x = (i : Int)) : win.distOf s y = s.rep (i : Int) := by
  unfold win.distOf
  rw [if_neg (by omega), if_pos hk, hx]
theorem first_ok (l : List UInt8) (hi : Nat) (dict : Int) (p : Nat) (s : St) (hp : p < hi) (hs : s.right) (hd : dict ≤ 4294967295) : stepOk l hi dict p s (firstP l hi dict p s) := by
  obtain ⟨o1, o2, o3⟩ := firstP_ok l hi dict p s hs hd
  have hpm : pmost hi p ≤ hi - p ∧ pmost hi p ≤ 273 := by unfold pmost; omega
  have hyi := ysz_int (firstP l hi dict p s)
  refine ⟨o1, by omega, ?_, ?_⟩
  · clear o1 o2 o3 hyi
    unfold firstP
    split
    · rename_i h
      obtain ⟨r1, r2, r3⟩ := repGo_bd l hi dict p s 4
      have e4 : repP l hi dict p s = repGo l hi dict p s 4 := rfl
      rw [e4] at h ⊢
      unfold win.lenOf ysz
      simp only []
      rw [if_pos (.inr trivial)]
      omega
    · split
      · rename_i h1 h2
        unfold win.lenOf ysz
        simp only []
        rw [if_pos (.inl trivial)]
        omega
      · split <;> rfl
  · clear o1 o2 o3 hyi
    unfold firstP
    split
    · rename_i h
      right
      have e4 : repP l hi dict p s = repGo l hi dict p s 4 := rfl
      rw [e4] at h ⊢
      obtain ⟨h1, h2⟩ := repGo_at l hi dict p s 4 h.1
      obtain ⟨r, hr⟩ : ∃ r, repGo l hi dict p s 4 = r := ⟨_, rfl⟩
      rw [hr] at h h1 h2 ⊢
      have hpos := runP_pos (l := l) (hi := hi) (dict := dict) (p := p) (d := s.rep (r.2 : Int)) (by rw [← h2]; omega)
      rw [rep_at s r.2 ⟨3, 0, (r.1 : Int), (r.2 : Int)⟩ rfl rfl]
      refine ⟨by show ¬ (3 : Int) = 1; decide, hpos.1, hpos.2.1, hpos.2.2.1, fun j hj => hpos.2.2.2 j ?_⟩
      rw [← h2]
      unfold ysz at hj
      simp only [] at hj
      omega
    · split
      · rename_i h1 h2
        right
        rcases bestL_mem (l := mats l dict p (pmost hi p : Int)) with hb | hb
        · rw [hb] at h2; exact absurd rfl h2
        · obtain ⟨i, hi'⟩ := List.getElem?_of_mem hb
          obtain ⟨m1, m2, m3, _, m5, m6, _⟩ := mats_at hi'
          obtain ⟨M, hM⟩ : ∃ M, bestL (mats l dict p (pmost hi p : Int)) = M := ⟨_, rfl⟩
          rw [hM] at m1 m2 m3 m5 m6 ⊢
          have hdist : win.distOf s ⟨2, 0, (M.1 : Int), (M.2 : Int)⟩ = (M.2 : Int) := rfl
          rw [hdist]
          refine ⟨by show ¬ (2 : Int) = 1; decide, by omega, by omega, m3, fun j hj => ?_⟩
          unfold ysz at hj
          simp only [] at hj
          rw [Int.toNat_natCast]
          exact ext_eq (m := lft l p (pmost hi p : Int)) (by omega)
      · split
        · rename_i h1 h2 h3
          right
          have hpos := runP_pos h3
          have hdist : win.distOf s ⟨4, 0, 0, 0⟩ = s.a := rfl
          rw [hdist]
          refine ⟨by show ¬ (4 : Int) = 1; decide, hpos.1, hpos.2.1, hpos.2.2.1, fun j hj => hpos.2.2.2 j ?_⟩
          have : ysz ⟨4, 0, 0, 0⟩ = 1 := rfl
          omega
        · left; exact ⟨rfl, rfl⟩
theorem greedy_makes (l : List UInt8) (hi : Nat) (dict : Int) (hd : dict ≤ 4294967295) : ∀ f p s, hi - p ≤ f → p ≤ hi → s.right → makes l hi dict p s (greedyGo l hi dict f p s).1 (greedyGo l hi dict f p s).2 := by
  intro f
  induction f with
  | zero => intro p s h1 h2 _; exact ⟨by omega, rfl⟩
  | succ f ih =>
    intro p s h1 h2 hs
    unfold greedyGo
    by_cases hlt : p < hi
    · rw [if_pos hlt]
      have hf := first_ok l hi dict p s hlt hs hd
      have hy := ysz_pos (firstP l hi dict p s)
      exact ⟨hf, ih _ _ (by omega) hf.2.1 (nextS_right hf.1)⟩
    · rw [if_neg hlt]; exact ⟨by omega, rfl⟩
/-- a step of the plan -/
def planSt (l : List UInt8) (hi : Nat) (dict : Int) (p : Nat) (y : Sy) : Prop := y = ⟨1, l.getD p 0, 0, 0⟩ ∨ ∃ n d : Nat, y = ⟨2, 0, (n : Int), (d : Int)⟩ ∧ 3 ≤ n ∧ ∃ m ∈ mats l dict p (pmost hi p : Int), n ≤ m.1 ∧ m.2 = d
def steps (l : List UInt8) (hi : Nat) (dict : Int) : Nat → List Sy → Prop
  | p, [] => p = hi
  | p, y :: r => planSt l hi dict p y ∧ p + ysz y ≤ hi ∧ steps l hi dict (p + ysz y) r
theorem path_steps (l : List UInt8) (hi : Nat) (dict : Int) : ∀ f p, hi - p ≤ f → p ≤ hi → steps l hi dict p (pathGo (fun p => (planT l hi dict p).1) hi f p) := by
  intro f
  induction f with
  | zero => intro p h1 h2; show p = hi; omega
  | succ f ih =>
    intro p h1 h2
    unfold pathGo
    by_cases hlt : p < hi
    · rw [if_pos hlt]
      have h3 := planT_ysz l hi dict p hlt
      have h4 := ysz_pos (planT l hi dict p).1
      refine ⟨?_, h3, ih _ (by omega) h3⟩
      rcases planT_ok l hi dict p hlt with ⟨h1, _⟩ | ⟨n, d, h1, h2, h3, _⟩
      · exact .inl h1
      · exact .inr ⟨n, d, h1, h2, h3⟩
    · rw [if_neg hlt]; show p = hi; omega
/-- what a match of the plan is -/
theorem planSt_match {l : List UInt8} {hi : Nat} {dict : Int} {p n d : Nat} (h : ∃ m ∈ mats l dict p (pmost hi p : Int), n ≤ m.1 ∧ m.2 = d) : 1 ≤ d ∧ d ≤ p ∧ (d : Int) ≤ dict ∧ n ≤ 273 ∧ ∀ j, j < n → l.getD (p - d + j) 0 = l.getD (p + j) 0 := by
  obtain ⟨m, hm, h1, rfl⟩ := h
  obtain ⟨i, hi'⟩ := List.getElem?_of_mem hm
  obtain ⟨m1, m2, m3, _, m5, m6, _⟩ := mats_at hi'
  have hle : m.1 ≤ lft l p (pmost hi p : Int) := by rw [m6]; exact ext_le _ _ _ _
  have hl : lft l p (pmost hi p : Int) ≤ 273 := by unfold lft; omega
  exact ⟨m1, m2, m3, by omega, fun j hj => ext_eq (m := lft l p (pmost hi p : Int)) (by omega)⟩
theorem match_ok {l : List UInt8} {hi : Nat} {dict : Int} {p : Nat} {s : St} {y : Sy} (hs : s.right) (hd : dict ≤ 4294967295) (h : planSt l hi dict p y) (hz : p + ysz y ≤ hi) : stepOk l hi dict p s y := by
  have hE : nextE s y = formedN y.k y.l y.x := by unfold nextE; rw [if_pos hs]
  rcases h with rfl | ⟨n, d, rfl, h1, h2⟩
  · exact ⟨by rw [hE]; rfl, hz, rfl, .inl ⟨rfl, rfl⟩⟩
  · obtain ⟨m1, m2, m3, m4, m5⟩ := planSt_match h2
    have hy : ysz ⟨2, 0, (n : Int), (d : Int)⟩ = n := by unfold ysz; simp only []; omega
    refine ⟨?_, hz, ?_, .inr ⟨by show ¬ (2 : Int) = 1; decide, ?_⟩⟩
    · rw [hE]; show formedN 2 (n : Int) (d : Int) = 0
      rw [formedN_2, if_pos ⟨by unfold isL; omega, by unfold isD; omega⟩]
    · rw [hy]; rfl
    · have hdist : win.distOf s ⟨2, 0, (n : Int), (d : Int)⟩ = (d : Int) := rfl
      rw [hdist, hy, Int.toNat_natCast]
      exact ⟨by omega, by omega, m3, m5⟩
theorem told_ok {l : List UInt8} {hi : Nat} {dict : Int} {p : Nat} {s : St} {y : Sy} (hs : s.right) (hd : dict ≤ 4294967295) (h : planSt l hi dict p y) (hz : p + ysz y ≤ hi) : stepOk l hi dict p s (toldP l hi dict p y s) ∧ ysz (toldP l hi dict p y s) = ysz y := by
  have hE : ∀ y, nextE s y = formedN y.k y.l y.x := fun y => by unfold nextE; rw [if_pos hs]
  have hm := match_ok hs hd h hz
  rcases h with rfl | ⟨n, d, rfl, h1, h2⟩
  · unfold toldP
    rw [if_pos rfl]
    split
    · rename_i hr
      have hpos := runP_pos hr
      refine ⟨⟨by rw [hE]; rfl, hz, rfl, .inr ⟨by show ¬ (4 : Int) = 1; decide, ?_⟩⟩, rfl⟩
      have hdist : win.distOf s ⟨4, 0, 0, 0⟩ = s.a := rfl
      rw [hdist]
      refine ⟨hpos.1, hpos.2.1, hpos.2.2.1, fun j hj => hpos.2.2.2 j ?_⟩
      have : ysz ⟨4, 0, 0, 0⟩ = 1 := rfl
      omega
    · exact ⟨hm, rfl⟩
  · obtain ⟨m1, m2, m3, m4, m5⟩ := planSt_match h2
    have hy : ysz ⟨2, 0, (n : Int), (d : Int)⟩ = n := by unfold ysz; simp only []; omega
    have hrep : ∀ i : Nat, i < 4 → s.rep (i : Int) = (d : Int) → stepOk l hi dict p s ⟨3, 0, (n : Int), (i : Int)⟩ ∧ ysz ⟨3, 0, (n : Int), (i : Int)⟩ = n := fun i hi4 hd' => by
      have hy3 : ysz ⟨3, 0, (n : Int), (i : Int)⟩ = n := by unfold ysz; simp only []; omega
      refine ⟨⟨?_, by rw [hy3, ← hy]; exact hz, ?_, .inr ⟨by show ¬ (3 : Int) = 1; decide, ?_⟩⟩, hy3⟩
      · rw [hE]; show formedN 3 (n : Int) (i : Int) = 0
        unfold formedN
        rw [if_neg (by decide), if_neg (by decide), if_neg (by decide), if_pos rfl, if_pos ⟨by unfold isL; omega, by unfold repOk; omega⟩]
      · rw [hy3]; rfl
      · rw [rep_at s i ⟨3, 0, (n : Int), (i : Int)⟩ rfl rfl, hd', hy3, Int.toNat_natCast]
        exact ⟨by omega, by omega, m3, m5⟩
    rw [hy]
    unfold toldP
    rw [if_neg (show ¬ (2 : Int) = 1 by decide)]
    simp only []
    split
    · rename_i h; exact hrep 0 (by decide) h
    · split
      · rename_i h; exact hrep 1 (by decide) h
      · split
        · rename_i h; exact hrep 2 (by decide) h
        · split
          · rename_i h; exact hrep 3 (by decide) h
          · exact ⟨hm, hy⟩
theorem cheap_makes (l : List UInt8) (hi : Nat) (dict : Int) (hd : dict ≤ 4294967295) (r : List Sy) : ∀ p s, steps l hi dict p r → s.right → makes l hi dict p s (cheapS l hi dict p s r).1 (cheapS l hi dict p s r).2 := by
  induction r with
  | nil => intro p s h _; exact ⟨h, rfl⟩
  | cons y r ih =>
    intro p s ⟨h1, h2, h3⟩ hs
    obtain ⟨t1, t2⟩ := told_ok hs hd h1 h2
    refine ⟨t1, ?_⟩
    rw [t2]
    exact ih _ _ h3 (nextS_right t1.1)
def nexts : St → List Sy → St
  | s, [] => s
  | s, y :: r => nexts (nextS s y) r
theorem plan_makes (l : List UInt8) (hi : Nat) (dict : Int) (hd : dict ≤ 4294967295) (r : List Sy) : ∀ p s, steps l hi dict p r → s.right → makes l hi dict p s r (nexts s r) := by
  induction r with
  | nil => intro p s h _; exact ⟨h, rfl⟩
  | cons y r ih =>
    intro p s ⟨h1, h2, h3⟩ hs
    have t1 := match_ok hs hd h1 h2 (s := s)
    exact ⟨t1, ih _ _ h3 (nextS_right t1.1)⟩
end Go.Proofs.YthlflcnpmabmbaaDoor
