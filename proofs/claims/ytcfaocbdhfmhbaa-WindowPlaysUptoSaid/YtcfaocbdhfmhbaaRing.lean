/-
  Plain laws of a ring: the last bytes that came, and what putting more does. No conditions beyond each lemma's own premises.
-/
import Derived.Test.YtcfaocbdhfmhbaaMem
namespace Go.Proofs.Ytcfaocbdhfmhbaa

/-- the last n of a list -/
def lastN {α : Type} (n : Nat) (l : List α) : List α := l.drop (l.length - n)
theorem lastN_length {α : Type} (n : Nat) (l : List α) : (lastN n l).length = min l.length n := by simp [lastN]; omega
theorem lastN_all {α : Type} {n : Nat} {l : List α} (h : l.length ≤ n) : lastN n l = l := by unfold lastN; rw [Nat.sub_eq_zero_of_le h]; rfl
theorem lastN_lastN {α : Type} (n : Nat) (l r : List α) : lastN n (lastN n l ++ r) = lastN n (l ++ r) := by
  unfold lastN
  rw [List.drop_append, List.drop_append, List.drop_drop]
  simp only [List.length_append, List.length_drop]
  congr 2 <;> omega
theorem lastN_cut {α : Type} {n : Nat} (l r : List α) (h : n < r.length) : lastN n (l ++ r) = r.drop (r.length - n) := by
  unfold lastN
  rw [List.drop_append, List.drop_eq_nil_of_le (by simp; omega), List.nil_append]
  congr 1
  simp; omega
theorem lastN_getElem? {α : Type} {n : Nat} {l : List α} {d : Nat} (h1 : 1 ≤ d) (h2 : d ≤ (lastN n l).length) : (lastN n l)[(lastN n l).length - d]? = l[l.length - d]? := by
  have hl := lastN_length n l
  unfold lastN at *
  rw [List.getElem?_drop]
  congr 1
  simp at h2 ⊢
  omega

/-- a ring of at most size bytes: xs as it lies, the next byte goes to place i; L: the bytes in the order in which they came -/
def Ring (size : Nat) (L xs : List UInt8) (i : Nat) : Prop :=
  xs.length ≤ size ∧ i ≤ xs.length ∧ (xs.length < size → i = xs.length) ∧ L = xs.drop i ++ xs.take i
theorem Ring.len {size : Nat} {L xs : List UInt8} {i : Nat} (h : Ring size L xs i) : L.length = xs.length := by
  rw [h.2.2.2]; have := h.2.1; simp; omega
theorem Ring.nil (size : Nat) : Ring size [] [] 0 := ⟨Nat.zero_le _, Nat.le_refl _, fun _ => rfl, rfl⟩
/-- the byte d before the last but one lies at i - d, or so far from the end -/
theorem Ring.back {size : Nat} {L xs : List UInt8} {i d : Nat} (h : Ring size L xs i) (h1 : 1 ≤ d) (h2 : d ≤ xs.length) :
    xs[if i < d then i + xs.length - d else i - d]? = L[L.length - d]? := by
  obtain ⟨_, h4, _, rfl⟩ := h
  have hL : (xs.drop i ++ xs.take i).length = xs.length := by simp; omega
  rw [hL, List.getElem?_append]
  by_cases hid : i < d
  · rw [if_pos hid, if_pos (by simp; omega), List.getElem?_drop]
    congr 1; omega
  · rw [if_neg hid, if_neg (by simp; omega), List.getElem?_take_of_lt (by simp; omega)]
    congr 1; simp; omega
/-- bytes laid behind a ring that is not yet full -/
theorem Ring.grow {size : Nat} {L xs ys : List UInt8} {i : Nat} (h : Ring size L xs i) (hy : 0 < ys.length) (hs : xs.length + ys.length ≤ size) : Ring size (L ++ ys) (xs ++ ys) (xs ++ ys).length := by
  obtain ⟨h1, h2, h3, rfl⟩ := h
  have := h3 (by omega)
  subst this
  refine ⟨by simpa using hs, Nat.le_refl _, fun _ => rfl, ?_⟩
  rw [List.drop_length, List.take_length, List.drop_length, List.take_length]; rfl
/-- bytes written over the oldest ones -/
theorem Ring.over {size : Nat} {L xs ys : List UInt8} {i : Nat} (h : Ring size L xs i) (hf : xs.length = size) (hy : i + ys.length ≤ size) : Ring size (L.drop ys.length ++ ys) (xs.take i ++ ys ++ xs.drop (i + ys.length)) (i + ys.length) := by
  obtain ⟨h1, h2, h3, rfl⟩ := h
  have hl1 : (xs.take i).length = i := by rw [List.length_take]; omega
  have hl : (xs.take i ++ ys).length = i + ys.length := by rw [List.length_append, hl1]
  have hll : (xs.take i ++ ys ++ xs.drop (i + ys.length)).length = size := by rw [List.length_append, hl, List.length_drop]; omega
  refine ⟨by omega, by omega, fun h => by omega, ?_⟩
  have e1 : (xs.take i ++ ys ++ xs.drop (i + ys.length)).drop (i + ys.length) = xs.drop (i + ys.length) := by
    rw [← hl, List.drop_append, List.drop_length, Nat.sub_self]; rfl
  have e2 : (xs.take i ++ ys ++ xs.drop (i + ys.length)).take (i + ys.length) = xs.take i ++ ys := by
    rw [← hl, List.take_append, List.take_length, Nat.sub_self, List.take_zero, List.append_nil]
  rw [e1, e2, List.drop_append, List.drop_drop, List.length_drop, Nat.sub_eq_zero_of_le (by omega)]
  simp
/-- the place that is behind the end is the front -/
theorem Ring.wrap {size : Nat} {L xs : List UInt8} (h : Ring size L xs size) (hf : xs.length = size) : Ring size L xs 0 := by
  obtain ⟨h1, h2, h3, rfl⟩ := h
  refine ⟨h1, Nat.zero_le _, fun h => by omega, ?_⟩
  rw [← hf]; simp
theorem over_last {size : Nat} {L b : List UInt8} {k : Nat} (hL : L.length = size) (hk : k ≤ b.length) (hs : k ≤ size) : lastN size (L.drop k ++ b.take k ++ b.drop k) = lastN size (L ++ b) := by
  have e : L.drop k ++ b.take k ++ b.drop k = (L ++ b).drop k := by
    rw [List.append_assoc, List.take_append_drop, List.drop_append, Nat.sub_eq_zero_of_le (by omega), List.drop_zero]
  rw [e]
  unfold lastN
  rw [List.drop_drop]
  congr 1
  simp; omega
end Go.Proofs.Ytcfaocbdhfmhbaa
