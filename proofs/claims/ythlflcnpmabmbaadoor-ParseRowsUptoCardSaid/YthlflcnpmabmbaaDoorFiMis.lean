/-
  Stepping through the distances meets the matches one by one. Conditions: none.
-/
import Derived.Test.YthlflcnpmabmbaaDoorFiPln
namespace Go.Proofs.YthlflcnpmabmbaaDoor
open Go.RowKit

theorem ext_eq {l : List UInt8} {q p m j : Nat} (h : j < ext l q p m) : l.getD (q + j) 0 = l.getD (p + j) 0 := by
  obtain ⟨x, h1, _, h3⟩ := takeWhile_get _ _ _ h
  obtain ⟨hj, h1⟩ := List.getElem?_eq_some_iff.1 h1
  rw [List.getElem_range] at h1
  subst h1
  exact of_decide_eq_true h3
/-- k of the matches M are within the distance D -/
def MS (M : List (Nat × Nat)) (D k : Nat) : Prop := k ≤ M.length ∧ (∀ i m, i < k → M[i]? = some m → m.2 ≤ D) ∧ ∀ m, M[k]? = some m → D < m.2
theorem ms_start {l : List UInt8} {dict : Int} {p : Nat} {most : Int} : MS (mats l dict p most) 0 0 :=
  ⟨Nat.zero_le _, fun _ _ h => absurd h (Nat.not_lt_zero _), fun _ h => (mats_at h).1⟩
theorem ms_lt {l : List UInt8} {dict : Int} {p : Nat} {most : Int} {D k : Nat} (h : MS (mats l dict p most) D k) (hn : ext l (p - (D + 1)) p (lft l p most) < 3) : MS (mats l dict p most) (D + 1) k := by
  refine ⟨h.1, fun i m hi hm => Nat.le_succ_of_le (h.2.1 i m hi hm), fun m hm => ?_⟩
  have h1 := h.2.2 m hm
  have h2 := mats_at hm
  rcases Nat.lt_or_ge (D + 1) m.2 with h3 | h3
  · exact h3
  · have : m.2 = D + 1 := by omega
    rw [this] at h2
    omega
theorem ms_full {l : List UInt8} {dict : Int} {p : Nat} {most : Int} {D : Nat} (h : MS (mats l dict p most) D 32) : MS (mats l dict p most) (D + 1) 32 := by
  refine ⟨h.1, fun i m hi hm => Nat.le_succ_of_le (h.2.1 i m hi hm), fun m hm => ?_⟩
  have h1 := (List.getElem?_eq_some_iff.1 hm).1
  have h2 := mats_le l dict p most
  omega
theorem ms_hit {l : List UInt8} {dict : Int} {p : Nat} {most : Int} {D k : Nat} (h : MS (mats l dict p most) D k) (hp : D + 1 ≤ p) (hd : ((D + 1 : Nat) : Int) ≤ dict) (hn : 3 ≤ ext l (p - (D + 1)) p (lft l p most)) (hk : k < 32) :
    ∃ m, (mats l dict p most)[k]? = some m ∧ m.2 = D + 1 ∧ m.1 = ext l (p - (D + 1)) p (lft l p most) ∧ MS (mats l dict p most) (D + 1) (k + 1) := by
  have hz : 3 ≤ lft l p most := Nat.le_trans hn (ext_le _ _ _ _)
  have hlen : p + 3 ≤ l.length := by unfold lft at hz; omega
  obtain ⟨q, hq⟩ : ∃ q, p - (D + 1) = q := ⟨_, rfl⟩
  rw [hq] at hn ⊢
  have hw : wordAt l q = wordAt l p := by
    unfold wordAt
    have e0 := ext_eq (l := l) (q := q) (p := p) (m := lft l p most) (j := 0) (by omega)
    have e1 := ext_eq (l := l) (q := q) (p := p) (m := lft l p most) (j := 1) (by omega)
    have e2 := ext_eq (l := l) (q := q) (p := p) (m := lft l p most) (j := 2) (by omega)
    simp only [Nat.add_zero] at e0
    rw [e0, e1, e2]
  have hmem : q ∈ candL l p := candL_mem.2 ⟨by omega, hw, by omega⟩
  obtain ⟨a, ha⟩ := List.getElem?_of_mem hmem
  obtain ⟨ha1, ha2⟩ := List.getElem?_eq_some_iff.1 ha
  have hM : mats l dict p most = (cand l dict p).map (fun q => (ext l q p (lft l p most), p - q)) := by unfold mats; rw [if_neg (by omega)]
  have hMl : (mats l dict p most).length = (cand l dict p).length := by rw [hM, List.length_map]
  have hcle := cand_le l dict p
  have hat : ∀ i, i < (mats l dict p most).length → ∃ qi, (candL l p)[(candL l p).length - 1 - i]? = some qi ∧ (mats l dict p most)[i]? = some (ext l qi p (lft l p most), p - qi) := fun i hi => by
    obtain ⟨qi, h1, h2, _⟩ := cand_at (l := l) (dict := dict) (p := p) (j := i) (by omega)
    exact ⟨qi, h1, by rw [hM, List.getElem?_map, h2]; rfl⟩
  have hsorted := List.pairwise_iff_getElem.1 (candL_sorted l p)
  -- the place is not among those met
  have hka : k ≤ (candL l p).length - 1 - a := by
    rcases Nat.lt_or_ge ((candL l p).length - 1 - a) k with h1 | h1
    · obtain ⟨qi, h2, h3⟩ := hat ((candL l p).length - 1 - a) (by have := h.1; omega)
      rw [show (candL l p).length - 1 - ((candL l p).length - 1 - a) = a by omega, ha] at h2
      obtain rfl := Option.some.inj h2
      have := h.2.1 _ _ h1 h3
      simp only [] at this
      omega
    · exact h1
  have hle : ∀ q' , (candL l p)[(candL l p).length - 1 - k]? = some q' → q ≤ q' := fun q' h1 => by
    obtain ⟨hb1, hb2⟩ := List.getElem?_eq_some_iff.1 h1
    rcases Nat.lt_or_ge a ((candL l p).length - 1 - k) with h2 | h2
    · have := hsorted _ _ ha1 hb1 h2
      rw [ha2, hb2] at this
      omega
    · have : a = (candL l p).length - 1 - k := by omega
      subst this
      rw [ha] at h1
      have := Option.some.inj h1
      omega
  have hkM : k < (mats l dict p most).length := by
    rcases Nat.lt_or_ge k (mats l dict p most).length with h1 | h1
    · exact h1
    · have he : (cand l dict p).length = k := by have := h.1; omega
      obtain ⟨q', h2, h3⟩ := cand_stop (l := l) (dict := dict) (p := p) (by omega) (by omega)
      rw [he] at h2
      have := hle q' h2
      omega
  obtain ⟨qk, h1, h2⟩ := hat k hkM
  have h3 := hle qk h1
  have h4 := h.2.2 _ h2
  simp only [] at h4
  have h5 : qk = q := by omega
  subst h5
  refine ⟨_, h2, by simp only []; omega, rfl, by omega, fun i m hi hm => ?_, fun m hm => ?_⟩
  · rcases (by omega : i < k ∨ i = k) with h6 | h6
    · exact Nat.le_succ_of_le (h.2.1 i m h6 hm)
    · subst h6
      rw [h2] at hm
      obtain rfl := Option.some.inj hm
      simp only []
      omega
  · have := (mats_at hm).2.2.2.2.2.2 _ (by omega) h2
    simp only [] at this
    omega
theorem ms_end {l : List UInt8} {dict : Int} {p : Nat} {most : Int} {D k : Nat} (h : MS (mats l dict p most) D k) (hD : ¬ (D + 1 ≤ p ∧ ((D + 1 : Nat) : Int) ≤ dict)) : k = (mats l dict p most).length := by
  rcases Nat.lt_or_ge k (mats l dict p most).length with h1 | h1
  · have h2 := List.getElem?_eq_getElem h1
    have h3 := h.2.2 _ h2
    have h4 := mats_at h2
    omega
  · have := h.1
    omega
end Go.Proofs.YthlflcnpmabmbaaDoor
