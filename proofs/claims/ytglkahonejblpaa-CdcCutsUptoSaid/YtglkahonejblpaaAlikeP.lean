/-
  Plain law on the ends of pieces: one front is cut alike, and behind a common end all depends on the rest alone. Conditions: each lemma's own.
-/
import Derived.Test.YtglkahonejblpaaFixed
namespace Go.Proofs.Ytglkahonejblpaa
open Go.RowKit

section
variable (least most bits : Int)
theorem eatGo_full (l : List UInt8) : ∀ (i : Nat) (sum : Int) (n : Nat), (eatGo least most bits i sum n l).2.1 = false → (eatGo least most bits i sum n l).1 = i + l.length := by
  induction l with
  | nil => intro i sum n _; simp [eatGo]
  | cons z r ih =>
    intro i sum n
    rw [eatGo]
    split
    · intro h; cases h
    · intro h
      rw [ih _ _ _ h, List.length_cons]
      omega
theorem eatGo_prefix (A M N : List UInt8) : ∀ (i : Nat) (sum : Int) (n : Nat), (eatGo least most bits i sum n (A ++ M)).2.1 = true → (eatGo least most bits i sum n (A ++ M)).1 ≤ i + A.length → eatGo least most bits i sum n (A ++ N) = eatGo least most bits i sum n (A ++ M) := by
  induction A with
  | nil =>
    intro i sum n h1 h2
    exfalso
    cases M with
    | nil => simp [eatGo] at h1
    | cons z r =>
      have := (eatGo_bd least most bits (z :: r) i sum n).2.2.1 (by simp)
      simp only [List.nil_append, List.length_nil] at h2
      omega
  | cons z A ih =>
    intro i sum n h1 h2
    rw [List.cons_append, eatGo] at h1 h2
    rw [List.cons_append, List.cons_append, eatGo, eatGo]
    by_cases hh : here least most bits (roll1 sum z) (n + 1)
    · rw [if_pos hh, if_pos hh]
    · rw [if_neg hh] at h1 h2
      rw [if_neg hh, if_neg hh]
      exact ih _ _ _ h1 (by rw [List.length_cons] at h2; omega)
theorem cutsAt_shift (l : List UInt8) : ∀ (f i j : Nat), l.length ≤ f → cutsAt least most bits (i + j) l = (cutsAt least most bits j l).map (· + i) := by
  intro f
  induction f generalizing l with
  | zero =>
    intro i j h
    have : l = [] := List.length_eq_zero_iff.1 (by omega)
    subst this
    rfl
  | succ f ih =>
    intro i j h
    by_cases hl : l = []
    · subst hl; rfl
    · have hp := piece_bd least most bits l hl
      rw [cutsAt_cons _ _ _ _ _ hl, cutsAt_cons _ _ _ _ _ hl, List.map_cons]
      rw [show i + j + pieceLen least most bits l = i + (j + pieceLen least most bits l) by omega, ih _ i _ (by rw [List.length_drop]; omega)]
      rw [show i + (j + pieceLen least most bits l) = j + pieceLen least most bits l + i by omega]
theorem cutsAt_gt (l : List UInt8) : ∀ (f i : Nat), l.length ≤ f → ∀ x, x ∈ cutsAt least most bits i l → i < x ∧ x ≤ i + l.length := by
  intro f
  induction f generalizing l with
  | zero =>
    intro i h x hx
    have : l = [] := List.length_eq_zero_iff.1 (by omega)
    subst this
    cases hx
  | succ f ih =>
    intro i h x hx
    by_cases hl : l = []
    · subst hl; cases hx
    · have hp := piece_bd least most bits l hl
      rw [cutsAt_cons _ _ _ _ _ hl] at hx
      rcases List.mem_cons.1 hx with rfl | hx
      · omega
      · have := ih _ _ (by rw [List.length_drop]; omega) x hx
        rw [List.length_drop] at this
        omega
theorem behindL_map (k : Nat) (l : List Nat) (h : ∀ x, x ∈ l → 0 < x) : behindL (k : Int) (l.map (· + k)) = l := by
  induction l with
  | nil => rfl
  | cons x r ih =>
    have hx := h x (by simp)
    rw [List.map_cons, behindL, if_pos (by omega), ih (fun y hy => h y (by simp [hy]))]
    congr 1
    omega
theorem behind_end (l : List UInt8) : ∀ (f i e : Nat), l.length ≤ f → e ∈ cutsAt least most bits i l → behindL (e : Int) (cutsAt least most bits i l) = cutsL least most bits (l.drop (e - i)) := by
  intro f
  induction f generalizing l with
  | zero =>
    intro i e h he
    have : l = [] := List.length_eq_zero_iff.1 (by omega)
    subst this
    cases he
  | succ f ih =>
    intro i e h he
    by_cases hl : l = []
    · subst hl; cases he
    · have hp := piece_bd least most bits l hl
      rw [cutsAt_cons _ _ _ _ _ hl] at he ⊢
      rcases List.mem_cons.1 he with rfl | he
      · rw [behindL, if_neg (by omega)]
        have hs := cutsAt_shift least most bits (l.drop (pieceLen least most bits l)) _ (i + pieceLen least most bits l) 0 (Nat.le_refl _)
        rw [Nat.add_zero] at hs
        rw [hs, behindL_map _ _ (fun x hx => by have := (cutsAt_gt least most bits _ _ _ (Nat.le_refl _) x hx).1; omega)]
        rw [show i + pieceLen least most bits l - i = pieceLen least most bits l by omega]
        rfl
      · have hg := (cutsAt_gt least most bits _ _ _ (Nat.le_refl _) e he).1
        rw [behindL, if_neg (by omega), ih _ _ _ (by rw [List.length_drop]; omega) he, List.drop_drop]
        rw [show pieceLen least most bits l + (e - (i + pieceLen least most bits l)) = e - i by omega]
theorem front_alike (M N : List UInt8) : ∀ (t : Nat) (A : List UInt8) (i e : Nat), (cutsAt least most bits i (A ++ M))[t]? = some e → e ≤ i + A.length → e < i + (A ++ M).length → (cutsAt least most bits i (A ++ N))[t]? = some e := by
  intro t
  induction t with
  | zero =>
    intro A i e h1 h2 h3
    by_cases hl : A ++ M = []
    · rw [hl] at h1; simp [cutsAt_nil] at h1
    · rw [cutsAt_cons _ _ _ _ _ hl] at h1
      simp at h1
      have hp := piece_bd least most bits (A ++ M) hl
      have hed : (eatGo least most bits 0 0 0 (A ++ M)).2.1 = true := by
        cases hq : (eatGo least most bits 0 0 0 (A ++ M)).2.1
        · have := eatGo_full least most bits _ _ _ _ hq
          unfold pieceLen at h1
          omega
        · rfl
      have hpre := eatGo_prefix least most bits A M N 0 0 0 hed (by unfold pieceLen at h1; omega)
      have hlN : A ++ N ≠ [] := fun e0 => by
        have : A = [] := (List.append_eq_nil_iff.1 e0).1
        subst this
        simp at h2
        omega
      rw [cutsAt_cons _ _ _ _ _ hlN]
      simp only [List.getElem?_cons_zero]
      unfold pieceLen at h1 ⊢
      rw [hpre]
      exact congrArg some h1
  | succ t ih =>
    intro A i e h1 h2 h3
    by_cases hl : A ++ M = []
    · rw [hl] at h1; simp [cutsAt_nil] at h1
    · rw [cutsAt_cons _ _ _ _ _ hl, List.getElem?_cons_succ] at h1
      have hp := piece_bd least most bits (A ++ M) hl
      have hmem := (cutsAt_gt least most bits _ _ _ (Nat.le_refl _) e (List.mem_of_getElem? h1))
      have hed : (eatGo least most bits 0 0 0 (A ++ M)).2.1 = true := by
        cases hq : (eatGo least most bits 0 0 0 (A ++ M)).2.1
        · have := eatGo_full least most bits _ _ _ _ hq
          have h4 : pieceLen least most bits (A ++ M) = (A ++ M).length := by unfold pieceLen; omega
          rw [List.length_drop] at hmem
          omega
        · rfl
      have hpA : pieceLen least most bits (A ++ M) ≤ A.length := by omega
      have hpre := eatGo_prefix least most bits A M N 0 0 0 hed (by unfold pieceLen at hpA; omega)
      have hpl : pieceLen least most bits (A ++ N) = pieceLen least most bits (A ++ M) := by unfold pieceLen; rw [hpre]
      have hlN : A ++ N ≠ [] := fun e0 => by
        have : A = [] := (List.append_eq_nil_iff.1 e0).1
        subst this
        rw [List.length_nil] at hpA
        omega
      rw [cutsAt_cons _ _ _ _ _ hlN, List.getElem?_cons_succ, hpl]
      rw [List.drop_append_of_le_length hpA] at h1 ⊢
      refine ih _ _ _ h1 ?_ ?_
      · rw [List.length_drop]; omega
      · rw [List.length_append, List.length_drop] at *
        omega
end
end Go.Proofs.Ytglkahonejblpaa
