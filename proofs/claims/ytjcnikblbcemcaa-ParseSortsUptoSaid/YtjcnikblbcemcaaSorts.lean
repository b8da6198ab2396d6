/-
  Plain laws: pairs of prices and places; those that are not yet marked; what is kept when one is marked. No conditions beyond each lemma's own premises.
-/
import Derived.Test.YtjcnikblbcemcaaLaw
namespace Go.Proofs.Ytjcnikblbcemcaa

/-- each price with its place (0, if there is none) -/
def pairs : List Int → List Int → List P2
  | [], _ => []
  | p :: r, [] => (p, 0) :: pairs r []
  | p :: r, q :: s => (p, q) :: pairs r s
theorem pairs_length (r : List Int) : ∀ s, (pairs r s).length = r.length := by
  induction r with
  | nil => intro s; rfl
  | cons p r ih => intro s; cases s <;> simp [pairs, ih]
theorem pairs_get (r : List Int) : ∀ (s : List Int) (i : Nat) (p : Int), r[i]? = some p → (pairs r s)[i]? = some (p, s.getD i 0) := by
  induction r with
  | nil => intro s i p h; simp at h
  | cons x r ih =>
    intro s i p h
    cases i with
    | zero =>
      simp at h; subst h
      cases s <;> rfl
    | succ i =>
      simp at h
      cases s with
      | nil => simpa [pairs] using ih [] i p h
      | cons y s => simpa [pairs] using ih s i p h

/-- the pairs that bear no mark -/
def unused : List P2 → List Bool → List P2
  | p :: r, u :: s => if u then unused r s else p :: unused r s
  | _, _ => []
theorem unused_none (l : List P2) : ∀ n, l.length = n → unused l (List.replicate n false) = l := by
  induction l with
  | nil => intro n h; cases n <;> rfl
  | cons p l ih =>
    intro n h
    cases n with
    | zero => simp at h
    | succ n => simp [List.replicate_succ, unused, ih n (by simpa using h)]
theorem mem_unused (l : List P2) : ∀ (u : List Bool) (i : Nat) (p : P2), l[i]? = some p → u[i]? = some false → p ∈ unused l u := by
  induction l with
  | nil => intro u i p h; simp at h
  | cons x l ih =>
    intro u i p h hu
    cases u with
    | nil => simp at hu
    | cons b u =>
      cases i with
      | zero => simp at h hu; subst h; subst hu; simp [unused]
      | succ i =>
        simp at h hu
        have := ih u i p h hu
        unfold unused
        split
        · exact this
        · exact List.mem_cons_of_mem _ this
theorem of_unused (l : List P2) : ∀ (u : List Bool) (p : P2), p ∈ unused l u → ∃ i : Nat, l[i]? = some p ∧ u[i]? = some false := by
  induction l with
  | nil => intro u p h; cases u <;> simp [unused] at h
  | cons x l ih =>
    intro u p h
    cases u with
    | nil => simp [unused] at h
    | cons b u =>
      cases b
      · simp [unused] at h
        rcases h with rfl | h
        · exact ⟨0, rfl, rfl⟩
        · obtain ⟨i, h1, h2⟩ := ih u p h
          exact ⟨i + 1, by simpa using h1, by simpa using h2⟩
      · simp [unused] at h
        obtain ⟨i, h1, h2⟩ := ih u p h
        exact ⟨i + 1, by simpa using h1, by simpa using h2⟩
theorem unused_set (l : List P2) : ∀ (u : List Bool) (i : Nat) (p : P2), l[i]? = some p → u[i]? = some false → (unused l u).Perm (p :: unused l (u.set i true)) := by
  induction l with
  | nil => intro u i p h; simp at h
  | cons x l ih =>
    intro u i p h hu
    cases u with
    | nil => simp at hu
    | cons b u =>
      cases i with
      | zero => simp at h hu; subst h; subst hu; simp [unused]
      | succ i =>
        simp at h hu
        have := ih u i p h hu
        cases b
        · simp only [List.set_cons_succ, unused]
          exact (List.Perm.cons x this).trans (List.Perm.swap p x _)
        · simpa [List.set_cons_succ, unused] using this

/-- in the midst of looking for a pair among those that are left, behind i of them: the marks, and whether it was found -/
def Seek (PL : List P2) (U U' : List Bool) (m : P2) (i : Nat) (f : Bool) : Prop :=
  (f = false ∧ U' = U ∧ ∀ j, j < i → U[j]? = some false → PL[j]? ≠ some m) ∨ (f = true ∧ ∃ j, j < i ∧ PL[j]? = some m ∧ U[j]? = some false ∧ U' = U.set j true)
theorem Seek.start (PL : List P2) (U : List Bool) (m : P2) : Seek PL U U m 0 false := .inl ⟨rfl, rfl, fun j h => absurd h (by omega)⟩
theorem Seek.used {PL : List P2} {U U' : List Bool} {m : P2} {i : Nat} {f : Bool} (h : Seek PL U U' m i f) : U'[i]? = U[i]? := by
  rcases h with ⟨_, rfl, _⟩ | ⟨_, j, hj, _, _, rfl⟩
  · rfl
  · rw [List.getElem?_set_ne (by omega)]
theorem Seek.length {PL : List P2} {U U' : List Bool} {m : P2} {i : Nat} {f : Bool} (h : Seek PL U U' m i f) : U'.length = U.length := by
  rcases h with ⟨_, rfl, _⟩ | ⟨_, j, hj, _, _, rfl⟩
  · rfl
  · simp
theorem Seek.skip {PL : List P2} {U U' : List Bool} {m : P2} {i : Nat} {f : Bool} (h : Seek PL U U' m i f) (hu : U[i]? = some true ∨ f = true ∨ PL[i]? ≠ some m) : Seek PL U U' m (i + 1) f := by
  rcases h with ⟨rfl, rfl, h⟩ | ⟨rfl, j, hj, h⟩
  · refine .inl ⟨rfl, rfl, fun j hj hf => ?_⟩
    by_cases e : j = i
    · subst e
      rcases hu with hu | hu | hu
      · rw [hu] at hf; cases hf
      · cases hu
      · exact hu
    · exact h j (by omega) hf
  · exact .inr ⟨rfl, j, by omega, h⟩
theorem Seek.take {PL : List P2} {U U' : List Bool} {m : P2} {i : Nat} (h : Seek PL U U' m i false) (hp : PL[i]? = some m) (hu : U[i]? = some false) : Seek PL U (U'.set i true) m (i + 1) true := by
  rcases h with ⟨_, rfl, _⟩ | ⟨h, _⟩
  · exact .inr ⟨rfl, i, by omega, hp, hu, rfl⟩
  · cases h
theorem Seek.found {PL : List P2} {U U' : List Bool} {m : P2} {n : Nat} {f : Bool} (h : Seek PL U U' m n f) (hl : PL.length = n) (hm : m ∈ unused PL U) : f = true ∧ (unused PL U).Perm (m :: unused PL U') := by
  rcases h with ⟨_, _, h⟩ | ⟨rfl, j, _, h1, h2, rfl⟩
  · obtain ⟨i, h1, h2⟩ := of_unused PL U m hm
    have : i < PL.length := (List.getElem?_eq_some_iff.1 h1).1
    exact absurd h1 (h i (by omega) h2)
  · exact ⟨rfl, unused_set PL U j m h1 h2⟩
end Go.Proofs.Ytjcnikblbcemcaa
