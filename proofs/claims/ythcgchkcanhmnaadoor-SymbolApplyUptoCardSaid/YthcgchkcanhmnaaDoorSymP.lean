
/-
  Plain law on rows of symbols that are taken: their fold, with a greater dictionary, their beginnings, their sizes. No conditions beyond each lemma's own.
-/
import Derived.Test.YthcgchkcanhmnaaDoorSymL
namespace Go.Proofs.YthcgchkcanhmnaaDoor
open Go.RowKit

/-- a row that is taken, from the beginning: the state behind it, and its bytes -/
inductive Tk (size : Nat) : List Sy → St → List UInt8 → Prop
  | nil : Tk size [] St.start []
  | snoc {row : List Sy} {s : St} {all : List UInt8} (y : Sy) : Tk size row s all → apE size all s y = 0 → Tk size (row ++ [y]) (apS size all s y) (all ++ apB size all s y)
theorem apE_next {size : Nat} {all : List UInt8} {s : St} {y : Sy} (h : apE size all s y = 0) : nextE s y = 0 := by
  unfold apE at h
  split at h
  · assumption
  · exact h
theorem apS_eq {size : Nat} {all : List UInt8} {s : St} {y : Sy} (h : apE size all s y = 0) : apS size all s y = nextS s y := by unfold apS; rw [if_pos h]
theorem apB_eq {size : Nat} {all : List UInt8} {s : St} {y : Sy} (h : apE size all s y = 0) : apB size all s y = if y.k = 1 then [y.y] else (ext (distOf s y).toNat (lenOf y).toNat all).drop all.length := by unfold apB; rw [if_pos h]
theorem apE_zero {size : Nat} {all : List UInt8} {s : St} {y : Sy} : apE size all s y = 0 ↔ nextE s y = 0 ∧ (y.k = 1 ∨ (1 ≤ distOf s y ∧ distOf s y ≤ full size all)) := by
  constructor
  · intro h
    have hn := apE_next h
    refine ⟨hn, ?_⟩
    unfold apE at h
    rw [if_pos hn] at h
    split at h
    · left; assumption
    · split at h
      · right; assumption
      · cases h
  · rintro ⟨h1, h2⟩
    unfold apE
    rw [if_pos h1]
    split
    · rfl
    · rcases h2 with h2 | h2
      · contradiction
      · rw [if_pos h2]
theorem Tk.right {size : Nat} {row : List Sy} {s : St} {all : List UInt8} (h : Tk size row s all) : s.right := by
  induction h with
  | nil => exact start_right
  | snoc y _ he _ => rw [apS_eq he]; exact nextS_right (apE_next he)
theorem exGo_app {size : Nat} : ∀ (row : List Sy) (i : Nat) (s : St) (all : List UInt8) (all' : List UInt8) (n : Nat) , exGo size i s all row = (all', n, 0) → ∃ s', n = i + row.length ∧ ∀ r, exGo size i s all (row ++ r) = exGo size n s' all' r := by
  intro row
  induction row with
  | nil =>
    intro i s all all' n h
    have h1 : (all, i, (0 : Int)) = (all', n, 0) := h
    injection h1 with h2 h3
    injection h3 with h3
    subst h2; subst h3
    exact ⟨s, by simp, fun r => rfl⟩
  | cons y row ih =>
    intro i s all all' n h
    rw [exGo_cons] at h
    split at h
    · rename_i hE
      obtain ⟨s', h1, h2⟩ := ih _ _ _ _ _ h
      refine ⟨s', by rw [h1]; simp; omega, fun r => ?_⟩
      show exGo size i s all (y :: (row ++ r)) = _
      rw [exGo_cons, if_pos hE, h2]
    · rename_i hE
      injection h with _ h3
      injection h3 with _ h3
      exact absurd h3 hE
/-- the fold over a taken row comes to its state -/
theorem Tk.go {size : Nat} {row : List Sy} {s : St} {all : List UInt8} (h : Tk size row s all) : ∀ r, exGo size 0 St.start [] (row ++ r) = exGo size row.length s all r := by
  induction h with
  | nil => exact fun r => rfl
  | snoc y _ he ih =>
    intro r
    rw [List.append_assoc, ih, List.singleton_append, exGo_cons, if_pos he, List.length_append]
    rfl
theorem Tk.all {size : Nat} {row : List Sy} {s : St} {all : List UInt8} (h : Tk size row s all) : exGo size 0 St.start [] row = (all, row.length, 0) := by
  have := h.go []
  rw [List.append_nil] at this
  rw [this]; rfl
theorem full_mono {size more : Nat} {all : List UInt8} (h : size ≤ more) : full size all ≤ full more all := by unfold full; omega
/-- with a greater dictionary -/
theorem Tk.more {size more : Nat} {row : List Sy} {s : St} {all : List UInt8} (h : Tk size row s all) (hm : size ≤ more) : Tk more row s all := by
  induction h with
  | nil => exact .nil
  | @snoc row s all y _ he ih =>
    have he' : apE more all s y = 0 := by
      obtain ⟨h1, h2⟩ := apE_zero.1 he
      refine apE_zero.2 ⟨h1, ?_⟩
      rcases h2 with h2 | h2
      · exact .inl h2
      · have := full_mono (all := all) hm
        exact .inr ⟨h2.1, by omega⟩
    have := Tk.snoc y ih he'
    rw [apS_eq he', apB_eq he', ← apB_eq he, ← apS_eq he] at this
    exact this
def szN (y : Sy) : Nat := (szF y).toNat
def sumN (l : List Sy) : Nat := (l.map szN).sum
theorem sumN_snoc (l : List Sy) (y : Sy) : sumN (l ++ [y]) = sumN l + szN y := by unfold sumN; simp
theorem szF_bd (y : Sy) : 0 ≤ szF y ∧ szF y ≤ 273 := by
  unfold szF
  split
  · rename_i h
    have := formedN_zero (nextE_zero h).2
    split
    · rename_i hk
      have hl : isL y.l := by
        rcases this with h1 | h1 | h1 | h1
        · omega
        · omega
        · exact h1.2.1
        · exact h1.2.1
      unfold isL at hl; omega
    · omega
  · omega
theorem szF_of {s : St} {y : Sy} (h : nextE s y = 0) : szF y = if y.k = 2 ∨ y.k = 3 then y.l else 1 := by
  unfold szF
  rw [if_pos]
  unfold nextE
  rw [if_pos start_right]
  exact (nextE_zero h).2
theorem szN_of {size : Nat} {all : List UInt8} {s : St} {y : Sy} (h : apE size all s y = 0) : (apB size all s y).length = szN y ∧ 1 ≤ szN y := by
  have hn := apE_next h
  have hz := szF_of hn
  have hf := formedN_zero (nextE_zero hn).2
  rw [apB_eq h]
  unfold szN
  rw [hz]
  split
  · rename_i h1
    rw [if_neg (by omega)]
    exact ⟨rfl, by omega⟩
  · rw [List.length_drop, ext_length]
    unfold lenOf
    split
    · rename_i hk
      have hl : isL y.l := by
        rcases hf with h1 | h1 | h1 | h1
        · omega
        · omega
        · exact h1.2.1
        · exact h1.2.1
      unfold isL at hl
      omega
    · omega
theorem Tk.len {size : Nat} {row : List Sy} {s : St} {all : List UInt8} (h : Tk size row s all) : all.length = sumN row := by
  induction h with
  | nil => rfl
  | snoc y _ he ih => rw [List.length_append, sumN_snoc, ih, (szN_of he).1]
theorem snoc_inj {α : Type} {l r : List α} {x y : α} (h : l ++ [x] = r ++ [y]) : l = r ∧ x = y := by
  have := List.append_inj' h rfl
  exact ⟨this.1, by simpa using this.2⟩
theorem Tk.back {size : Nat} {row : List Sy} {y : Sy} {s : St} {all : List UInt8} (h : Tk size (row ++ [y]) s all) : ∃ s' all', Tk size row s' all' ∧ apE size all' s' y = 0 ∧ s = apS size all' s' y ∧ all = all' ++ apB size all' s' y := by
  generalize hr : row ++ [y] = r at h
  cases h with
  | nil => simp at hr
  | snoc z h he =>
    obtain ⟨rfl, rfl⟩ := snoc_inj hr
    exact ⟨_, _, h, he, rfl, rfl⟩
/-- a row's beginning is taken, and makes a beginning of its bytes -/
theorem Tk.front {size : Nat} {row : List Sy} {s : St} {all : List UInt8} (h : Tk size row s all) (k : Nat) (hk : k ≤ row.length) : ∃ s' all', Tk size (row.take k) s' all' ∧ all'.length ≤ all.length ∧ all.take all'.length = all' := by
  induction h with
  | nil => exact ⟨_, _, by simpa using Tk.nil, Nat.le_refl _, rfl⟩
  | @snoc row s all y hT he ih =>
    by_cases hc : k ≤ row.length
    · obtain ⟨s', all', h1, h2, h3⟩ := ih hc
      refine ⟨s', all', by rw [List.take_append_of_le_length hc]; exact h1, by rw [List.length_append]; omega, ?_⟩
      rw [List.take_append_of_le_length h2]; exact h3
    · have hl : k = (row ++ [y]).length := by simp at hk ⊢; omega
      refine ⟨_, _, by rw [hl, List.take_length]; exact Tk.snoc y hT he, Nat.le_refl _, List.take_length⟩
theorem formedN_2 (l x : Int) : formedN 2 l x = if isL l ∧ isD x then 0 else 7 := by
  unfold formedN
  rw [if_neg (show ¬ ((2 : Int) = 1) by decide), if_neg (show ¬ ((2 : Int) = 4) by decide), if_pos rfl]
/-- a distance that reaches beyond all bytes is refused -/
theorem Tk.far {size : Nat} {row : List Sy} {s : St} {all : List UInt8} (h : Tk size row s all) (z : Sy) : exGo size 0 St.start [] (row ++ [⟨2, 0, 3, (all.length : Int) + 1⟩, z]) = ([], row.length, 7) := by
  rw [h.go, exGo_cons]
  have hE : apE size all s ⟨2, 0, 3, (all.length : Int) + 1⟩ = 7 := by
    unfold apE
    split
    · rw [if_neg (show ¬ ((2 : Int) = 1) by decide), if_neg]
      intro hc
      have : distOf s ⟨2, 0, 3, (all.length : Int) + 1⟩ = (all.length : Int) + 1 := if_pos rfl
      have := full_len (size := size) (all := all)
      omega
    · rename_i hn
      unfold nextE at hn ⊢
      rw [if_pos h.right] at hn ⊢
      rw [formedN_2] at hn ⊢
      split
      · rename_i hc; rw [if_pos hc] at hn; exact absurd rfl hn
      · rfl
  rw [if_neg (by rw [hE]; decide), hE]
/-- the row that is left of all symbols when the refused ones are left out -/
def rgo (size : Nat) : St → List UInt8 → List Sy → List Sy → St × List UInt8 × List Sy
  | s, all, row, [] => (s, all, row)
  | s, all, row, y :: r => if apE size all s y = 0 then rgo size (apS size all s y) (all ++ apB size all s y) (row ++ [y]) r else rgo size s all row r
theorem apB_273 (size : Nat) (all : List UInt8) (s : St) (y : Sy) : (apB size all s y).length ≤ 273 := apB_len size all s y
end Go.Proofs.YthcgchkcanhmnaaDoor
