/-
  What the matches are, as plain lists. Conditions: none.
-/
import Derived.Test.YthlflcnpmabmbaaDoorFiKn
namespace Go.Proofs.YthlflcnpmabmbaaDoor
open Go.RowKit

theorem takeWhile_ge (f : Nat → Bool) (m k : Nat) (hk : k ≤ m) (h : ∀ j, j < k → f j = true) : k ≤ ((List.range m).takeWhile f).length := by
  obtain ⟨d, rfl⟩ : ∃ d, m = k + d := ⟨m - k, by omega⟩
  rw [List.range_add, List.takeWhile_append_of_pos (fun a ha => h a (List.mem_range.1 ha)), List.length_append, List.length_range]
  omega
theorem ext_ge3 {l : List UInt8} {q p m : Nat} (hm : 3 ≤ m) (hw : wordAt l q = wordAt l p) : 3 ≤ ext l q p m := by
  refine takeWhile_ge _ m 3 hm (fun j hj => decide_eq_true ?_)
  unfold wordAt at hw
  simp only [Prod.mk.injEq] at hw
  rcases (by omega : j = 0 ∨ j = 1 ∨ j = 2) with rfl | rfl | rfl
  · exact hw.1
  · exact hw.2.1
  · exact hw.2.2
theorem candL_sorted (l : List UInt8) (p : Nat) : (candL l p).Pairwise (· < ·) := List.Pairwise.filter _ (plc_sorted _ _ _)
/-- what each match is -/
theorem mats_at {l : List UInt8} {dict : Int} {p : Nat} {most : Int} {i : Nat} {m : Nat × Nat} (h : (mats l dict p most)[i]? = some m) :
    1 ≤ m.2 ∧ m.2 ≤ p ∧ (m.2 : Int) ≤ dict ∧ i < 32 ∧ 3 ≤ m.1 ∧ m.1 = ext l (p - m.2) p (lft l p most) ∧ ∀ m', 0 < i → (mats l dict p most)[i - 1]? = some m' → m'.2 < m.2 := by
  have hi : i < (mats l dict p most).length := (List.getElem?_eq_some_iff.1 h).1
  have h32 := mats_le l dict p most
  unfold mats at h hi ⊢
  by_cases hz : lft l p most < 3
  · rw [if_pos hz] at hi; simp at hi
  · rw [if_neg hz] at h hi ⊢
    rw [List.length_map] at hi
    have hc32 := (cand_le l dict p).1
    obtain ⟨q, h1, h2, h3⟩ := cand_at (l := l) (dict := dict) (p := p) hi
    rw [List.getElem?_map, h2] at h
    simp only [Option.map_some, Option.some.injEq] at h
    have hm := candL_mem.1 (List.mem_of_getElem? h1)
    subst h
    refine ⟨by simp only []; omega, by simp only []; omega, by simp only []; omega, by omega, ext_ge3 (by omega) hm.2.1, by simp only []; rw [show p - (p - q) = q by omega], fun m' h0 h' => ?_⟩
    obtain ⟨q', h1', h2', _⟩ := cand_at (l := l) (dict := dict) (p := p) (j := i - 1) (by omega)
    rw [List.getElem?_map, h2'] at h'
    simp only [Option.map_some, Option.some.injEq] at h'
    subst h'
    have hm' := candL_mem.1 (List.mem_of_getElem? h1')
    obtain ⟨a1, e1⟩ := List.getElem?_eq_some_iff.1 h1
    obtain ⟨a2, e2⟩ := List.getElem?_eq_some_iff.1 h1'
    have hc := cand_le l dict p
    have hlt := (List.pairwise_iff_getElem.1 (candL_sorted l p)) _ _ a1 a2 (by omega)
    rw [e1, e2] at hlt
    simp only []
    omega
end Go.Proofs.YthlflcnpmabmbaaDoor
