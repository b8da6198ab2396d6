
/-
  Plain laws of bytes copied from a distance. No conditions beyond each lemma's own premises.
-/
import Derived.Test.YtcfaocbdhfmhbaaOps
namespace Go.Proofs.Ytcfaocbdhfmhbaa
open Go.RowKit

theorem ext_add (d a m : Nat) (l : List UInt8) : ext d (a + m) l = ext d m (ext d a l) := by
  induction m with
  | zero => rfl
  | succ m ih =>
    show (let l' := ext d (a + m) l; l' ++ [l'.getD (l'.length - d) 0]) = (let l' := ext d m (ext d a l); l' ++ [l'.getD (l'.length - d) 0])
    rw [ih]
theorem ext_get_old (d n : Nat) (l : List UInt8) {i : Nat} (h : i < l.length) : (ext d n l)[i]? = l[i]? := by
  induction n with
  | zero => rfl
  | succ n ih =>
    show (ext d n l ++ [_])[i]? = _
    rw [List.getElem?_append_left (by rw [ext_length]; omega), ih]
theorem ext_get (d n : Nat) (l : List UInt8) (h1 : 1 ≤ d) (h2 : d ≤ l.length) : ∀ i, i < n → (ext d n l)[l.length + i]? = (ext d n l)[l.length + i - d]? := by
  induction n with
  | zero => intro i hi; omega
  | succ n ih =>
    intro i hi
    show (ext d n l ++ [_])[_]? = (ext d n l ++ [_])[_]?
    have hl := ext_length d n l
    by_cases e : i = n
    · subst e
      rw [List.getElem?_append_right (by omega), hl, Nat.sub_self, List.getElem?_append_left (by rw [hl]; omega)]
      have h5 : l.length + i - d < (ext d i l).length := by rw [hl]; omega
      rw [List.getD_eq_getElem?_getD, List.getElem?_eq_getElem h5]
      rfl
    · rw [List.getElem?_append_left (by omega), List.getElem?_append_left (by omega)]
      exact ih i (by omega)
theorem ext_prefix (d n : Nat) (l : List UInt8) : (ext d n l).take l.length = l := by
  induction n with
  | zero => exact List.take_length
  | succ n ih => show (ext d n l ++ [_]).take _ = _; rw [List.take_append_of_le_length (by rw [ext_length]; omega), ih]
theorem rows_two (d a m : Nat) (l : List UInt8) : (ext d (a + m) l).drop l.length = (ext d a l).drop l.length ++ (ext d m (ext d a l)).drop (ext d a l).length := by
  rw [ext_add]
  conv => lhs; rw [← List.take_append_drop (ext d a l).length (ext d m (ext d a l)), ext_prefix]
  rw [List.drop_append_of_le_length (by rw [ext_length]; omega)]
theorem rows_new (d n : Nat) (l : List UInt8) (h1 : 1 ≤ d) (h2 : d ≤ l.length) {i : Nat} (hi : i < n) (hd : i < d) : ((ext d n l).drop l.length)[i]? = l[l.length - d + i]? := by
  rw [List.getElem?_drop, ext_get d n l h1 h2 i hi, ext_get_old _ _ _ (by omega)]
  congr 1; omega
theorem rows_old (d n : Nat) (l : List UInt8) (h1 : 1 ≤ d) (h2 : d ≤ l.length) {i : Nat} (hi : i < n) (hd : ¬ i < d) : ((ext d n l).drop l.length)[i]? = ((ext d n l).drop l.length)[i - d]? := by
  rw [List.getElem?_drop, ext_get d n l h1 h2 i hi, List.getElem?_drop]
  congr 1; omega

theorem ext_split (d n : Nat) (l : List UInt8) : ext d n l = l ++ (ext d n l).drop l.length := by
  conv => lhs; rw [← List.take_append_drop l.length (ext d n l), ext_prefix]
end Go.Proofs.Ytcfaocbdhfmhbaa
