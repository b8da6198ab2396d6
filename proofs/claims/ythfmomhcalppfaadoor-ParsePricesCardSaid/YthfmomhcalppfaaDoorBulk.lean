/-
  What the second form's bound gives: how many elements a slice among the arguments has at the most. No conditions beyond each lemma's own premises.
-/
import Derived.Test.YthfmomhcalppfaaDoorRows
namespace Go.Proofs.YthfmomhcalppfaaDoor.bulks

theorem one_le {H : Type} (d : DataW H) : 1 ≤ Rows.uptoBulk d := by
  rcases d with l | _ | d | ⟨e, s⟩ | p | ⟨t, d⟩ | m | h
  · cases l <;> simp [Rows.uptoBulk]
  all_goals simp [Rows.uptoBulk]
theorem part_le {H : Type} {d : DataW H} {l : List (DataW H)} (h : d ∈ l) : Rows.uptoBulk d ≤ Rows.uptoBulkAll l := by
  induction l with
  | nil => cases h
  | cons x r ih =>
    rw [Rows.uptoBulkAll]
    rcases List.mem_cons.1 h with rfl | h
    · exact Nat.le_add_right _ _
    · exact Nat.le_trans (ih h) (Nat.le_add_left _ _)
theorem length_le {H : Type} (l : List (DataW H)) : l.length ≤ Rows.uptoBulkAll l := by
  induction l with
  | nil => exact Nat.zero_le _
  | cons x r ih =>
    have := one_le x
    rw [Rows.uptoBulkAll, List.length_cons]
    omega
theorem slice_le {H : Type} (es sp : List (DataW H)) : es.length + sp.length + 1 ≤ Rows.uptoBulk (.slice es sp) := by
  have h1 := length_le es
  have h2 := length_le sp
  rw [Rows.uptoBulk]
  omega
theorem slice_part {H : Type} (es sp : List (DataW H)) : Rows.uptoBulkAll es + 1 ≤ Rows.uptoBulk (.slice es sp) := by
  rw [Rows.uptoBulk]
  omega
theorem agg_part {H : Type} (ps : List (DataW H)) : Rows.uptoBulkAll ps + 1 ≤ Rows.uptoBulk (.agg ps) := by
  rw [Rows.uptoBulk]
  omega
theorem bound {H : Type} {l : List (DataW H)} (hk : Rows.uptoSmall H l = true) : Rows.uptoBulkAll l ≤ 1048576 := of_decide_eq_true hk
end Go.Proofs.YthfmomhcalppfaaDoor.bulks
