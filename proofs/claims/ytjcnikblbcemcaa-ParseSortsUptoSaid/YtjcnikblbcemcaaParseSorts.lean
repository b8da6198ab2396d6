
/-
  The statement ParseSorts in its second form: what was pushed comes out by rising price, and equal ones by rising place. Condition: the arguments hold at most 1048576 values. The walk is in the texts before; here the arguments are read out of memory and the row is closed.
-/
import Derived.Test.YtjcnikblbcemcaaRows
import Derived.Test.YtjcnikblbcemcaaSortsOpen
import Derived.Test.YtjcnikblbcemcaaBulk
import Derived.JoinedCond
import Derived.Deep.CondSized
namespace Go.Proofs.Ytjcnikblbcemcaa.parseSortsUpto
open Go.ChangeShapes Go.WideShapes Go.ChangeAt Go.RowKit Go.Deep

set_option maxRecDepth 100000 in
theorem lifted (os : Os) (started : os.Started) (H : Type) (enc : TypeId × Value → H) (F : Stop.Interp) :
    ReturnsInHanded {} Try.checked os 4 .any ((Rows.OpenSpec.upto Rows.parseSortsSpec).pre6 enc Try.prog Try.f4 Rows.parseSortsUptoRow.domain false) (((Rows.OpenSpec.upto Rows.parseSortsSpec).at F).post enc Try.prog Try.f4 false true false false) := by
  refine returnsInHanded_of_cond (C := Try.checked) (s := Rows.OpenSpec.upto Rows.parseSortsSpec) (k := Rows.uptoSmall) rfl own_ started (by kernel_rfl) Try.func4
    (OpenSpec.witness (enc := enc) (C := Try.checked) (s := Rows.OpenSpec.upto Rows.parseSortsSpec) (k := Rows.uptoSmall) rfl false ⟨#[], #[.slice none 0 0, .slice none 0 0], []⟩ 8 (by kernel_rfl) (by kernel_rfl) (by kernel_rfl)
      (x := ([.nil, .nil], [], [])) (by kernel_rfl) rfl (by kernel_rfl)) ?_
  intro W base args ds gs before hval0 hW _ hk _
  have hval : ∀ (j : Nat) t v, Try.f4.params[j]? = some t → args[j]? = some v → Value.okWide Try.prog W .any base t v := hval0
  have hW' := hW
  obtain ⟨p, q, hA0, hV, rfl, hfz, hnd⟩ := hW
  have hA : DataW.TrodAll enc Try.prog W 0 (fun _ => true) true Try.f4.params.toList args.toList ds p := hA0
  rw [Try.params4] at hA hval
  obtain ⟨v0, v1, d0, d1, p0, p1, rfl, rfl, rfl, h0, h1⟩ := trodAll_two hA
  obtain ⟨rfl, rfl⟩ := trodVars_none hV
  have hbulk := bulks.bound hk
  simp only [List.append_nil] at hbulk
  obtain ⟨A0, n0, c0, l0, rfl, hI0, hd0⟩ := open_ints_ (hval 0 39 v0 rfl rfl) h0
  obtain ⟨A1, n1, c1, l1, rfl, hI1, hd1⟩ := open_ints_ (hval 1 39 v1 rfl rfl) h1
  have lt0 : ∀ z ∈ p0, z.block < W.heap.size := by obtain ⟨m, hm⟩ := h0; exact DataW.trod_lt m _ _ _ hm
  have lt1 : ∀ z ∈ p1, z.block < W.heap.size := by obtain ⟨m, hm⟩ := h1; exact DataW.trod_lt m _ _ _ hm
  clear hA0 hval0
  simp only [List.append_nil] at hW'
  have hn0 : n0 ≤ 1048576 := by
    rcases hd0 with h | ⟨es, sp, hde, hn⟩
    · omega
    · have h1 := Nat.le_trans (bulks.part_le (d := d0) (l := [d0, d1]) (by simp)) hbulk
      have h2 := bulks.slice_le es sp
      rw [hde] at h1
      omega
  have hn1 : n1 ≤ 1048576 := by
    rcases hd1 with h | ⟨es, sp, hde, hn⟩
    · omega
    · have h1 := Nat.le_trans (bulks.part_le (d := d1) (l := [d0, d1]) (by simp)) hbulk
      have h2 := bulks.slice_le es sp
      rw [hde] at h1
      omega
  refine (sorts_law_ A0 n0 c0 l0 A1 n1 c1 l1 W ⟨hn0, hI0 (by omega)⟩ ⟨hn1, hI1 (by omega)⟩).mono fun e W' ⟨he, bel⟩ => ?_
  subst he
  exact ⟨_, rfl, _, _, _, [], _, [], hW', trodAll_mk1 (shut_bool Try.underlying4 _), trodAll_mk2 (Below.trod laidOut_ (by kernel_rfl) (of_decide_eq_true (by kernel_rfl)) h0 bel lt0) (Below.trod laidOut_ (by kernel_rfl) (of_decide_eq_true (by kernel_rfl)) h1 bel lt1), rfl, bel.frame _, fun h => by cases h⟩

theorem proved : Rows.ParseSortsUptoSaid :=
  OpenClaim.holds_of_cond 4 Try.f4 rfl rfl rfl rfl rfl rfl rfl ⟨rfl, rfl, rfl, rfl, rfl⟩ rfl rfl rfl rfl rfl (by kernel_rfl) Try.func4 (by kernel_rfl)
    (of_decide_eq_true (by kernel_rfl)) (by unfold Func.isWrapper; first | (rw [if_pos (by decide +kernel)]; kernel_rfl) | (rw [if_neg (by decide +kernel)]; exact ⟨rfl, rfl⟩))
    (fun os started H enc _ F => lifted os started H enc F)
#print axioms proved
end Go.Proofs.Ytjcnikblbcemcaa.parseSortsUpto
