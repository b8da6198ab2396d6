/-
  Plain law on the pieces: their sizes; a cutter that gets the data in two writes cuts alike. Conditions: each lemma's own.
-/
import Derived.Test.YtglkahonejblpaaAlikeP
namespace Go.Proofs.Ytglkahonejblpaa
open Go.RowKit

section
variable (least most bits : Int)
theorem eatGo_shift (l : List UInt8) : ∀ (i : Nat) (sum : Int) (n : Nat), eatGo least most bits (i + 1) sum n l = ((eatGo least most bits i sum n l).1 + 1, (eatGo least most bits i sum n l).2) := by
  induction l with
  | nil => intro i sum n; rfl
  | cons z r ih =>
    intro i sum n
    rw [eatGo, eatGo]
    split
    · rfl
    · exact ih _ _ _
theorem wrL_step (sum : Int) (n : Nat) (lf : List UInt8) (z : UInt8) (r : List UInt8) : wrL least most bits sum n lf (z :: r) =
    if here least most bits (roll1 sum z) (n + 1) then ((lf ++ [z]) :: (wrL least most bits 0 0 [] r).1, (wrL least most bits 0 0 [] r).2) else wrL least most bits (roll1 sum z) (n + 1) (lf ++ [z]) r := by
  by_cases hh : here least most bits (roll1 sum z) (n + 1)
  · rw [if_pos hh, wrL_cons least most bits sum n lf (z :: r) (by simp) (p := 1) (kk := 0) (ed := true) (sm := 0) (by rw [eatGo, if_pos hh])]
    simp
  · rw [if_neg hh]
    have h1 : eatGo least most bits 0 sum n (z :: r) = ((eatGo least most bits 0 (roll1 sum z) (n + 1) r).1 + 1, (eatGo least most bits 0 (roll1 sum z) (n + 1) r).2.1, (eatGo least most bits 0 (roll1 sum z) (n + 1) r).2.2.1, (eatGo least most bits 0 (roll1 sum z) (n + 1) r).2.2.2) := by
      rw [eatGo, if_neg hh, eatGo_shift]
    rw [wrL_cons least most bits sum n lf (z :: r) (by simp) h1]
    by_cases hr : r = []
    · subst hr
      simp [eatGo]
    · rw [wrL_cons least most bits (roll1 sum z) (n + 1) (lf ++ [z]) r hr (p := (eatGo least most bits 0 (roll1 sum z) (n + 1) r).1) (ed := (eatGo least most bits 0 (roll1 sum z) (n + 1) r).2.1) (sm := (eatGo least most bits 0 (roll1 sum z) (n + 1) r).2.2.1) (kk := (eatGo least most bits 0 (roll1 sum z) (n + 1) r).2.2.2) rfl]
      simp only [List.take_succ_cons, List.drop_succ_cons, List.append_assoc, List.singleton_append, List.cons_append, List.nil_append]
theorem wrL_append (a b : List UInt8) : ∀ (sum : Int) (n : Nat) (lf : List UInt8), wrL least most bits sum n lf (a ++ b) =
    ((wrL least most bits sum n lf a).1 ++ (wrL least most bits (wrL least most bits sum n lf a).2.1 (wrL least most bits sum n lf a).2.2.1 (wrL least most bits sum n lf a).2.2.2 b).1, (wrL least most bits (wrL least most bits sum n lf a).2.1 (wrL least most bits sum n lf a).2.2.1 (wrL least most bits sum n lf a).2.2.2 b).2) := by
  induction a with
  | nil => intro sum n lf; simp [wrL_nil]
  | cons z a ih =>
    intro sum n lf
    rw [List.cons_append, wrL_step, wrL_step]
    split
    · rw [ih]; simp
    · exact ih _ _ _
/-- the ends, byte by byte; o: bytes are left -/
def endsB : Nat → Int → Nat → Bool → List UInt8 → List Nat
  | i, _, _, o, [] => if o then [i] else []
  | i, sum, n, _, z :: r => if here least most bits (roll1 sum z) (n + 1) then (i + 1) :: endsB (i + 1) 0 0 false r else endsB (i + 1) (roll1 sum z) (n + 1) true r
theorem endsB_go (l : List UInt8) : ∀ (i : Nat) (sum : Int) (n : Nat) (o : Bool), l ≠ [] → endsB least most bits i sum n o l = (i + (eatGo least most bits 0 sum n l).1) :: endsB least most bits (i + (eatGo least most bits 0 sum n l).1) 0 0 false (l.drop (eatGo least most bits 0 sum n l).1) := by
  induction l with
  | nil => intro i sum n o h; exact absurd rfl h
  | cons z r ih =>
    intro i sum n o _
    by_cases hh : here least most bits (roll1 sum z) (n + 1)
    · rw [endsB, if_pos hh, eatGo, if_pos hh]
      simp
    · rw [endsB, if_neg hh, eatGo, if_neg hh, eatGo_shift]
      by_cases hr : r = []
      · subst hr; simp [endsB, eatGo]
      · rw [ih _ _ _ _ hr]
        simp only [List.drop_succ_cons]
        rw [show i + 1 + (eatGo least most bits 0 (roll1 sum z) (n + 1) r).1 = i + ((eatGo least most bits 0 (roll1 sum z) (n + 1) r).1 + 1) by omega]
theorem cutsAt_endsB (l : List UInt8) : ∀ (f i : Nat), l.length ≤ f → cutsAt least most bits i l = endsB least most bits i 0 0 false l := by
  intro f
  induction f generalizing l with
  | zero =>
    intro i h
    have : l = [] := List.length_eq_zero_iff.1 (by omega)
    subst this
    rfl
  | succ f ih =>
    intro i h
    by_cases hl : l = []
    · subst hl; rfl
    · have hp := piece_bd least most bits l hl
      rw [cutsAt_cons _ _ _ _ _ hl, endsB_go _ _ _ _ _ _ _ _ hl, ih _ _ (by rw [List.length_drop]; omega)]
      rfl
/-- all pieces: the whole ones and what is left -/
def allP (r : WR) : List (List UInt8) := r.1 ++ if r.2.2.2 = [] then [] else [r.2.2.2]
def runs : Nat → List (List UInt8) → List Nat
  | _, [] => []
  | s, x :: r => (s + x.length) :: runs (s + x.length) r
theorem allP_runs (l : List UInt8) : ∀ (s : Nat) (sum : Int) (n : Nat) (lf : List UInt8), runs s (allP (wrL least most bits sum n lf l)) = endsB least most bits (s + lf.length) sum n (decide (lf ≠ [])) l ∧ (allP (wrL least most bits sum n lf l)).flatten = lf ++ l := by
  induction l with
  | nil =>
    intro s sum n lf
    rw [wrL_nil]
    by_cases h : lf = []
    · subst h; simp [allP, runs, endsB]
    · simp [allP, runs, endsB, h]
  | cons z r ih =>
    intro s sum n lf
    rw [wrL_step]
    by_cases hh : here least most bits (roll1 sum z) (n + 1)
    · rw [if_pos hh, endsB, if_pos hh]
      obtain ⟨h1, h2⟩ := ih (s + (lf ++ [z]).length) 0 0 []
      simp only [allP, List.cons_append, runs, List.flatten_cons] at h1 h2 ⊢
      rw [h1, h2]
      refine ⟨?_, by simp⟩
      rw [show s + (lf ++ [z]).length = s + lf.length + 1 by simp; omega]
      simp
    · rw [if_neg hh, endsB, if_neg hh]
      obtain ⟨h1, h2⟩ := ih s (roll1 sum z) (n + 1) (lf ++ [z])
      rw [h1, h2]
      refine ⟨?_, by simp⟩
      rw [show s + (lf ++ [z]).length = s + lf.length + 1 by simp; omega]
      simp
/-- two writes: the ends -/
theorem allP_two (a b : List UInt8) : runs 0 (allP (wrL least most bits 0 0 [] (a ++ b))) = cutsL least most bits (a ++ b) ∧ (allP (wrL least most bits 0 0 [] (a ++ b))).flatten = a ++ b := by
  obtain ⟨h1, h2⟩ := allP_runs least most bits (a ++ b) 0 0 0 []
  rw [h1, h2]
  exact ⟨(cutsAt_endsB least most bits (a ++ b) _ 0 (Nat.le_refl _)).symm, rfl⟩
end
theorem runs_length (a : List (List UInt8)) : ∀ s, (runs s a).length = a.length := by
  induction a with
  | nil => intro s; rfl
  | cons x r ih => intro s; rw [runs, List.length_cons, List.length_cons, ih]
/-- where the j-th piece begins -/
def prv (s : Nat) (c : List Nat) : Nat → Nat
  | 0 => s
  | j + 1 => c[j]?.getD 0
theorem prv_cons (s e : Nat) (c : List Nat) (j : Nat) : prv s (e :: c) (j + 1) = prv e c j := by
  cases j with
  | zero => rfl
  | succ j => simp [prv]
theorem prv_next {s : Nat} {c : List Nat} {j e : Nat} (h : c[j]? = some e) : prv s c (j + 1) = e := by simp [prv, h]
theorem runs_at (a : List (List UInt8)) : ∀ (s j : Nat) (x : List UInt8), a[j]? = some x → (runs s a)[j]? = some (prv s (runs s a) j + x.length) ∧ s ≤ prv s (runs s a) j ∧ x = ((a.flatten).drop (prv s (runs s a) j - s)).take x.length := by
  induction a with
  | nil => intro s j x h; simp at h
  | cons y r ih =>
    intro s j x h
    cases j with
    | zero =>
      simp at h
      subst h
      simp [runs, prv]
    | succ j =>
      simp at h
      obtain ⟨h1, h2, h3⟩ := ih (s + y.length) j x h
      rw [runs, prv_cons]
      refine ⟨by simpa using h1, by omega, ?_⟩
      rw [List.flatten_cons, show prv (s + y.length) (runs (s + y.length) r) j - s = y.length + (prv (s + y.length) (runs (s + y.length) r) j - (s + y.length)) by omega, ← List.drop_drop, List.drop_left]
      exact h3
section
variable (least most bits : Int)
theorem eatGo_size (hlm : least ≤ most) (l : List UInt8) : ∀ (i : Nat) (sum : Int) (n : Nat), (n : Int) < most → (((eatGo least most bits i sum n l).1 + n : Nat) : Int) ≤ most + i ∧ ((eatGo least most bits i sum n l).2.1 = true → least + i ≤ (((eatGo least most bits i sum n l).1 + n : Nat) : Int)) := by
  induction l with
  | nil => intro i sum n h; exact ⟨by simp [eatGo]; omega, by simp [eatGo]⟩
  | cons z r ih =>
    intro i sum n h
    rw [eatGo]
    by_cases hh : here least most bits (roll1 sum z) (n + 1)
    · rw [if_pos hh]
      have := hh.1
      exact ⟨by simp only []; omega, fun _ => by simp only []; omega⟩
    · rw [if_neg hh]
      have hn : ((n + 1 : Nat) : Int) < most := by
        have : ¬ (least ≤ ((n + 1 : Nat) : Int) ∧ ((n + 1 : Nat) : Int) = most) := fun ⟨h1, h2⟩ => hh ⟨h1, .inl h2⟩
        omega
      obtain ⟨h1, h2⟩ := ih (i + 1) (roll1 sum z) (n + 1) hn
      exact ⟨by omega, fun h => by have := h2 h; omega⟩
theorem piece_size (hok : CutsOk least most bits) (l : List UInt8) : (pieceLen least most bits l : Int) ≤ most ∧ ((pieceLen least most bits l : Int) < least → pieceLen least most bits l = l.length) := by
  obtain ⟨a, b, _, _, _⟩ := hok
  obtain ⟨h1, h2⟩ := eatGo_size least most bits b l 0 0 0 (by omega)
  refine ⟨by unfold pieceLen; omega, fun h => ?_⟩
  unfold pieceLen at h ⊢
  by_cases he : (eatGo least most bits 0 0 0 l).2.1 = true
  · have := h2 he; omega
  · have := eatGo_full least most bits l 0 0 0 (by simpa using he)
    omega
theorem cut_sizes (hok : CutsOk least most bits) (l : List UInt8) : ∀ (f i j e : Nat), l.length ≤ f → (cutsAt least most bits i l)[j]? = some e →
    i ≤ prv i (cutsAt least most bits i l) j ∧ prv i (cutsAt least most bits i l) j < e ∧ (e : Int) ≤ prv i (cutsAt least most bits i l) j + most ∧ ((e : Int) < prv i (cutsAt least most bits i l) j + least → e = i + l.length) ∧ e ≤ i + l.length := by
  intro f
  induction f generalizing l with
  | zero =>
    intro i j e h hj
    have : l = [] := List.length_eq_zero_iff.1 (by omega)
    subst this
    simp [cutsAt_nil] at hj
  | succ f ih =>
    intro i j e h hj
    by_cases hl : l = []
    · subst hl; simp [cutsAt_nil] at hj
    · have hp := piece_bd least most bits l hl
      have hs := piece_size least most bits hok l
      rw [cutsAt_cons _ _ _ _ _ hl] at hj ⊢
      cases j with
      | zero =>
        simp at hj
        subst hj
        simp only [prv]
        exact ⟨by omega, by omega, by omega, fun h => by have := hs.2 (by omega); omega, by omega⟩
      | succ j =>
        simp at hj
        obtain ⟨h1, h2, h3, h4, h5⟩ := ih (l.drop (pieceLen least most bits l)) (i + pieceLen least most bits l) j e (by rw [List.length_drop]; omega) hj
        rw [List.length_drop] at h4 h5
        rw [prv_cons]
        exact ⟨by omega, h2, h3, fun h => by have := h4 h; omega, by omega⟩
theorem cut_last (l : List UInt8) : ∀ (f i : Nat), l.length ≤ f → prv i (cutsAt least most bits i l) (cutsAt least most bits i l).length = i + l.length := by
  intro f
  induction f generalizing l with
  | zero =>
    intro i h
    have : l = [] := List.length_eq_zero_iff.1 (by omega)
    subst this
    rfl
  | succ f ih =>
    intro i h
    by_cases hl : l = []
    · subst hl; rfl
    · have hp := piece_bd least most bits l hl
      rw [cutsAt_cons _ _ _ _ _ hl, List.length_cons, prv_cons, ih _ _ (by rw [List.length_drop]; omega), List.length_drop]
      omega
/-- the front of longer data is cut as they are, but for its last end -/
theorem front_cut (hok : CutsOk least most bits) (a b : List UInt8) (i e : Nat) (h : (cutsL least most bits a)[i]? = some e) (hi : i + 1 < (cutsL least most bits a).length) : (cutsL least most bits (a ++ b))[i]? = some e := by
  obtain ⟨e2, he2⟩ : ∃ e2, (cutsL least most bits a)[i + 1]? = some e2 := ⟨_, List.getElem?_eq_getElem hi⟩
  obtain ⟨_, h2, _, _, h5⟩ := cut_sizes least most bits hok a _ 0 (i + 1) e2 (Nat.le_refl _) he2
  have hp : prv 0 (cutsAt least most bits 0 a) (i + 1) = e := prv_next h
  rw [hp] at h2
  have := front_alike least most bits [] b i a 0 e (by rw [List.append_nil]; exact h) (by omega) (by rw [List.append_nil]; omega)
  exact this
theorem front_end (a b : List UInt8) (f e e2 : Nat) (hf : (cutsL least most bits a).length = f + 1) (h : (cutsL least most bits a)[f]? = some e) (h2 : (cutsL least most bits (a ++ b))[f]? = some e2) : e ≤ e2 := by
  have hl := cut_last least most bits a _ 0 (Nat.le_refl _)
  rw [show (cutsAt least most bits 0 a).length = f + 1 from hf, prv_next (show (cutsAt least most bits 0 a)[f]? = some e from h)] at hl
  refine Nat.le_of_not_lt fun hlt => ?_
  have := front_alike least most bits b [] f a 0 e2 h2 (by omega) (by rw [List.length_append]; omega)
  rw [List.append_nil] at this
  have h3 : (cutsL least most bits a)[f]? = some e2 := this
  rw [h] at h3
  injection h3
  omega
end
end Go.Proofs.Ytglkahonejblpaa
