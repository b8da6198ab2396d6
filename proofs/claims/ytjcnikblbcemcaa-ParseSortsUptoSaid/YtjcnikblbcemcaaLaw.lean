/-
  Plain laws of a binary heap of pairs of integers, ordered by the first and then by the second number: what sifting up and down keeps; the least pair is one and the same in two rows that hold the same pairs. No conditions beyond each lemma's own premises.
-/
import Derived.Test.YtjcnikblbcemcaaMem
namespace Go.Proofs.Ytjcnikblbcemcaa

def Lt (a b : P2) : Prop := a.1 < b.1 ∨ a.1 = b.1 ∧ a.2 < b.2
instance (a b : P2) : Decidable (Lt a b) := by unfold Lt; exact inferInstance
def Le (a b : P2) : Prop := ¬ Lt b a
theorem Le.refl (a : P2) : Le a a := by unfold Le Lt; omega
theorem Le.trans {a b c : P2} (h : Le a b) (k : Le b c) : Le a c := by unfold Le Lt at *; omega
theorem Lt.le {a b : P2} (h : Lt a b) : Le a b := by unfold Le Lt at *; omega
theorem Le.antisymm {a b : P2} (h : Le a b) (k : Le b a) : a = b := by
  unfold Le Lt at *
  exact Prod.ext (by omega) (by omega)

def at_ (l : List P2) (i : Nat) : P2 := l.getD i (0, 0)
theorem at_lt {l : List P2} {i : Nat} (h : i < l.length) : l[i]? = some (at_ l i) := by
  unfold at_; rw [List.getElem?_eq_getElem h, List.getD_eq_getElem?_getD, List.getElem?_eq_getElem h]; rfl
theorem at_mem {l : List P2} {i : Nat} (h : i < l.length) : at_ l i ∈ l := List.mem_of_getElem? (at_lt h)
theorem at_of {l : List P2} {i : Nat} {p : P2} (h : l[i]? = some p) : at_ l i = p := by
  unfold at_; rw [List.getD_eq_getElem?_getD, h]; rfl
theorem at_append {l r : List P2} {i : Nat} (h : i < l.length) : at_ (l ++ r) i = at_ l i := by
  apply at_of; rw [List.getElem?_append_left h]; exact at_lt h
theorem at_set {l : List P2} {i j : Nat} {p : P2} (hi : i < l.length) : at_ (l.set i p) j = if j = i then p else at_ l j := by
  unfold at_
  simp only [List.getD_eq_getElem?_getD, List.getElem?_set]
  by_cases h : i = j
  · subst h; simp [hi]
  · rw [if_neg h, if_neg (fun e => h e.symm)]

/-- the two places exchanged -/
def swp (l : List P2) (i j : Nat) : List P2 := (l.set i (at_ l j)).set j (at_ l i)
@[simp] theorem swp_length (l : List P2) (i j : Nat) : (swp l i j).length = l.length := by simp [swp]
theorem swp_perm {l : List P2} {i j : Nat} (hi : i < l.length) (hj : j < l.length) : (swp l i j).Perm l := by
  have e1 : at_ l i = l[i] := by have := at_lt hi; rw [List.getElem?_eq_getElem hi] at this; exact (Option.some.inj this).symm
  have e2 : at_ l j = l[j] := by have := at_lt hj; rw [List.getElem?_eq_getElem hj] at this; exact (Option.some.inj this).symm
  unfold swp
  rw [e1, e2]
  exact List.set_set_perm hi hj
theorem swp_at {l : List P2} {i j k : Nat} (hi : i < l.length) (hj : j < l.length) : at_ (swp l i j) k = if k = j then at_ l i else if k = i then at_ l j else at_ l k := by
  unfold swp
  rw [at_set (by simpa using hj), at_set hi]

def Ord (l : List P2) : Prop := ∀ j, 0 < j → j < l.length → Le (at_ l ((j - 1) / 2)) (at_ l j)
def Up (l : List P2) (i : Nat) : Prop :=
  (∀ j, 0 < j → j < l.length → j ≠ i → Le (at_ l ((j - 1) / 2)) (at_ l j)) ∧
  (∀ j, 0 < j → j < l.length → (j - 1) / 2 = i → 0 < i → Le (at_ l ((i - 1) / 2)) (at_ l j))
theorem up_start {l : List P2} {x : P2} (h : Ord l) : Up (l ++ [x]) l.length := by
  refine ⟨fun j h0 hj hne => ?_, fun j h0 hj he hi => ?_⟩
  · simp at hj
    have hj' : j < l.length := by omega
    rw [at_append hj', at_append (by omega)]
    exact h j h0 hj'
  · simp at hj
    omega
theorem up_done {l : List P2} {i : Nat} (h : Up l i) (hi : i = 0 ∨ ¬ Lt (at_ l i) (at_ l ((i - 1) / 2))) : Ord l := by
  intro j h0 hj
  by_cases e : j = i
  · subst e
    rcases hi with hi | hi
    · omega
    · exact hi
  · exact h.1 j h0 hj e
theorem up_step {l : List P2} {i : Nat} (h : Up l i) (hi : 0 < i) (hl : i < l.length) (hlt : Lt (at_ l i) (at_ l ((i - 1) / 2))) : Up (swp l i ((i - 1) / 2)) ((i - 1) / 2) := by
  have hp : (i - 1) / 2 < l.length := by omega
  refine ⟨fun j h0 hj hne => ?_, fun j h0 hj he hi' => ?_⟩
  · rw [swp_length] at hj
    rw [swp_at hl hp, swp_at hl hp, if_neg hne]
    by_cases ei : j = i
    · subst ei; rw [if_pos rfl, if_pos rfl]; exact hlt.le
    · rw [if_neg ei]
      by_cases e1 : (j - 1) / 2 = (i - 1) / 2
      · rw [if_pos e1]
        have := h.1 j h0 hj ei
        rw [e1] at this
        exact hlt.le.trans this
      · rw [if_neg e1]
        by_cases e2 : (j - 1) / 2 = i
        · rw [if_pos e2]; exact h.2 j h0 hj e2 hi
        · rw [if_neg e2]; exact h.1 j h0 hj ei
  · rw [swp_length] at hj
    rw [swp_at hl hp, swp_at hl hp, if_neg (by omega), if_neg (by omega), if_neg (by omega)]
    have hpp := h.1 ((i - 1) / 2) hi' hp (by omega)
    by_cases ei : j = i
    · rw [if_pos ei]; exact hpp
    · rw [if_neg ei]
      have := h.1 j h0 hj ei
      rw [he] at this
      exact hpp.trans this

def Down (l : List P2) (i : Nat) : Prop :=
  (∀ j, 0 < j → j < l.length → (j - 1) / 2 ≠ i → Le (at_ l ((j - 1) / 2)) (at_ l j)) ∧
  (∀ j, 0 < j → j < l.length → (j - 1) / 2 = i → 0 < i → Le (at_ l ((i - 1) / 2)) (at_ l j))
theorem down_done {l : List P2} {i : Nat} (h : Down l i) (hi : ∀ j, 0 < j → j < l.length → (j - 1) / 2 = i → ¬ Lt (at_ l j) (at_ l i)) : Ord l := by
  intro j h0 hj
  by_cases e : (j - 1) / 2 = i
  · rw [e]; exact hi j h0 hj e
  · exact h.1 j h0 hj e
theorem down_step {l : List P2} {i k : Nat} (h : Down l i) (hk0 : 0 < k) (hk : k < l.length) (hki : (k - 1) / 2 = i) (hmin : ∀ j, 0 < j → j < l.length → (j - 1) / 2 = i → Le (at_ l k) (at_ l j))
    (hlt : Lt (at_ l k) (at_ l i)) : Down (swp l i k) k := by
  have hil : i < l.length := by omega
  refine ⟨fun j h0 hj hne => ?_, fun j h0 hj he hk' => ?_⟩
  · rw [swp_length] at hj
    rw [swp_at hil hk, swp_at hil hk]
    by_cases ej : j = k
    · subst ej
      rw [if_pos rfl, if_neg (by omega), if_pos hki]
      exact hlt.le
    · rw [if_neg ej, if_neg hne]
      by_cases ei : j = i
      · subst ei
        rw [if_pos rfl, if_neg (by omega)]
        exact h.2 k hk0 hk hki h0
      · rw [if_neg ei]
        by_cases e1 : (j - 1) / 2 = i
        · rw [if_pos e1]; exact hmin j h0 hj e1
        · rw [if_neg e1]; exact h.1 j h0 hj e1
  · rw [swp_length] at hj
    rw [swp_at hil hk, swp_at hil hk, hki, if_neg (by omega), if_pos rfl, if_neg (by omega), if_neg (by omega)]
    have := h.1 j h0 hj (by omega)
    rw [he] at this
    exact this

theorem ord_least {l : List P2} (h : Ord l) : ∀ j, j < l.length → Le (at_ l 0) (at_ l j) := by
  intro j
  induction j using Nat.strongRecOn with
  | _ j ih =>
    intro hj
    by_cases h0 : j = 0
    · subst h0; exact Le.refl _
    · exact (ih ((j - 1) / 2) (by omega) (by omega)).trans (h j (by omega) hj)

/-- the row that is left when the last pair is laid on the first place and the end is cut off -/
def popped (l : List P2) : List P2 := (l.set 0 (at_ l (l.length - 1))).take (l.length - 1)
theorem popped_length (l : List P2) : (popped l).length = l.length - 1 := by simp [popped]
theorem popped_at {l : List P2} {j : Nat} (hj : j < l.length - 1) : at_ (popped l) j = if j = 0 then at_ l (l.length - 1) else at_ l j := by
  rw [← at_set (l := l) (i := 0) (p := at_ l (l.length - 1)) (by omega)]
  apply at_of
  unfold popped
  rw [List.getElem?_take_of_lt hj]
  exact at_lt (by simp; omega)
theorem popped_perm {l : List P2} (h : 0 < l.length) : (at_ l 0 :: popped l).Perm l := by
  obtain ⟨x, r, rfl⟩ : ∃ x r, l = x :: r := by cases l with | nil => simp at h | cons x r => exact ⟨x, r, rfl⟩
  have h0 : at_ (x :: r) 0 = x := rfl
  rw [h0]
  refine List.Perm.cons x ?_
  rcases r.eq_nil_or_concat with hr | ⟨s, y, hr⟩
  · subst hr; simp [popped]
  · rw [List.concat_eq_append] at hr; subst hr
    have hy : at_ (x :: (s ++ [y])) ((x :: (s ++ [y])).length - 1) = y := by
      apply at_of; simp
    have : popped (x :: (s ++ [y])) = y :: s := by
      unfold popped
      rw [hy]
      simp
    rw [this]
    exact (List.perm_append_singleton y s).symm
theorem popped_down {l : List P2} (h : Ord l) : Down (popped l) 0 := by
  refine ⟨fun j h0 hj hne => ?_, fun _ _ _ _ h => absurd h (by omega)⟩
  rw [popped_length] at hj
  rw [popped_at hj, popped_at (by omega), if_neg (by omega), if_neg (by omega)]
  exact h j h0 (by omega)

/-- the least pair of a row, however it was found -/
def Least (m : P2) (l : List P2) : Prop := m ∈ l ∧ ∀ x ∈ l, Le m x
theorem Least.eq_of_perm {m k : P2} {l r : List P2} (h : Least m l) (k' : Least k r) (hp : l.Perm r) : m = k :=
  Le.antisymm (h.2 k (hp.mem_iff.2 k'.1)) (k'.2 m (hp.mem_iff.1 h.1))
theorem ord_Least {l : List P2} (h : Ord l) (h0 : 0 < l.length) : Least (at_ l 0) l :=
  ⟨at_mem h0, fun x hx => by
    obtain ⟨j, hj, rfl⟩ := List.mem_iff_getElem.1 hx
    have := ord_least h j hj
    rwa [at_of (List.getElem?_eq_getElem hj)] at this⟩
end Go.Proofs.Ytjcnikblbcemcaa
