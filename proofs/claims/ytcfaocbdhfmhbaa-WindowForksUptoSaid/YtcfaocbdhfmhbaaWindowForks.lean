
/-
  The statement WindowForks in its second form: behind a fork, and behind Clear, the two know nothing of one another. Condition: the arguments hold at most 1048576 values. The walk is in the texts before; here the arguments are read out of memory and the row is closed.
-/
import Derived.Test.YtcfaocbdhfmhbaaRows
import Derived.Test.YtcfaocbdhfmhbaaForksLaw
import Derived.Test.YtcfaocbdhfmhbaaOpen
import Derived.Test.YtcfaocbdhfmhbaaBulk
import Derived.JoinedCond
import Derived.Deep.CondSized
namespace Go.Proofs.Ytcfaocbdhfmhbaa.windowForksUpto
open Go.ChangeShapes Go.WideShapes Go.ChangeAt Go.RowKit Go.Deep

set_option maxRecDepth 100000 in
theorem lifted (os : Os) (started : os.Started) (H : Type) (enc : TypeId × Value → H) (F : Stop.Interp) :
    ReturnsInHanded {} Try.checked os 4 .any ((Rows.OpenSpec.upto Rows.windowForksSpec).pre6 enc Try.prog Try.f4 Rows.windowForksUptoRow.domain false) (((Rows.OpenSpec.upto Rows.windowForksSpec).at F).post enc Try.prog Try.f4 false true false false) := by
  refine returnsInHanded_of_cond (C := Try.checked) (s := Rows.OpenSpec.upto Rows.windowForksSpec) (k := Rows.uptoSmall) rfl own_ started (by kernel_rfl) Try.func4
    (OpenSpec.witness (enc := enc) (C := Try.checked) (s := Rows.OpenSpec.upto Rows.windowForksSpec) (k := Rows.uptoSmall) rfl false ⟨#[], #[.int .i64 0, .slice none 0 0, .slice none 0 0, .slice none 0 0], []⟩ 8 (by kernel_rfl) (by kernel_rfl) (by kernel_rfl)
      (x := ([.lit (.int .i64 0), .nil, .nil, .nil], [], [])) (by kernel_rfl) rfl (by kernel_rfl)) ?_
  intro W base args ds gs before hval0 hW _ hk _
  have hval : ∀ (j : Nat) t v, Try.f4.params[j]? = some t → args[j]? = some v → Value.okWide Try.prog W .any base t v := hval0
  have hW' := hW
  obtain ⟨p, q, hA0, hV, rfl, hfz, hnd⟩ := hW
  have hA : DataW.TrodAll enc Try.prog W 0 (fun _ => true) true Try.f4.params.toList args.toList ds p := hA0
  rw [Try.params4] at hA hval
  obtain ⟨v0, v1, v2, v3, d0, d1, d2, d3, p0, p1, p2, p3, rfl, rfl, rfl, h0, h1, h2, h3⟩ := trodAll4 hA
  obtain ⟨rfl, rfl⟩ := trodVars_none hV
  have hbulk := bulks.bound hk
  simp only [List.append_nil] at hbulk
  obtain ⟨x0, rfl, hw0⟩ := open_int Try.underlying3 (hval 0 3 v0 rfl rfl) h0
  obtain ⟨A1, n1, c1, l1, rfl, hc1, hRd1, hlt1, hd1⟩ := open_bytes (hval 1 22 v1 rfl rfl) h1
  obtain ⟨A2, n2, c2, l2, rfl, hc2, hRd2, hlt2, hd2⟩ := open_bytes (hval 2 22 v2 rfl rfl) h2
  obtain ⟨A3, n3, c3, l3, rfl, hc3, hRd3, hlt3, hd3⟩ := open_bytes (hval 3 22 v3 rfl rfl) h3
  have lt0 : ∀ z ∈ p0, z.block < W.heap.size := by obtain ⟨m, hm⟩ := h0; exact DataW.trod_lt m _ _ _ hm
  have lt1 : ∀ z ∈ p1, z.block < W.heap.size := by obtain ⟨m, hm⟩ := h1; exact DataW.trod_lt m _ _ _ hm
  have lt2 : ∀ z ∈ p2, z.block < W.heap.size := by obtain ⟨m, hm⟩ := h2; exact DataW.trod_lt m _ _ _ hm
  have lt3 : ∀ z ∈ p3, z.block < W.heap.size := by obtain ⟨m, hm⟩ := h3; exact DataW.trod_lt m _ _ _ hm
  clear hA0 hval0
  simp only [List.append_nil] at hW'
  have hn1 : n1 ≤ 1048576 := by
    rcases hd1 with h | ⟨es, sp, hde, hn⟩
    · omega
    · have h1 := Nat.le_trans (bulks.part_le (d := d1) (l := [d0, d1, d2, d3]) (by simp)) hbulk
      have h2 := bulks.slice_le es sp
      rw [hde] at h1
      omega
  have hIn1 : In W A1 n1 l1 := ⟨hRd1, hlt1, by omega⟩
  have hn2 : n2 ≤ 1048576 := by
    rcases hd2 with h | ⟨es, sp, hde, hn⟩
    · omega
    · have h1 := Nat.le_trans (bulks.part_le (d := d2) (l := [d0, d1, d2, d3]) (by simp)) hbulk
      have h2 := bulks.slice_le es sp
      rw [hde] at h1
      omega
  have hIn2 : In W A2 n2 l2 := ⟨hRd2, hlt2, by omega⟩
  have hn3 : n3 ≤ 1048576 := by
    rcases hd3 with h | ⟨es, sp, hde, hn⟩
    · omega
    · have h1 := Nat.le_trans (bulks.part_le (d := d3) (l := [d0, d1, d2, d3]) (by simp)) hbulk
      have h2 := bulks.slice_le es sp
      rw [hde] at h1
      omega
  have hIn3 : In W A3 n3 l3 := ⟨hRd3, hlt3, by omega⟩
  refine (forks_law_ x0 A1 n1 c1 l1 A2 n2 c2 l2 A3 n3 c3 l3 W (bounds_i64 hw0) ⟨hn1, hIn1⟩ ⟨hn2, hIn2⟩ ⟨hn3, hIn3⟩).mono fun e W' ⟨he, bel⟩ => ?_
  subst he
  exact ⟨_, rfl, _, _, _, [], _, [], hW', trodAll_mk1 (shut_bool Try.underlying4 _), trodAll_mk4 (Below.trod laidOut_ (by kernel_rfl) (of_decide_eq_true (by kernel_rfl)) h0 bel lt0) (Below.trod laidOut_ (by kernel_rfl) (of_decide_eq_true (by kernel_rfl)) h1 bel lt1) (Below.trod laidOut_ (by kernel_rfl) (of_decide_eq_true (by kernel_rfl)) h2 bel lt2) (Below.trod laidOut_ (by kernel_rfl) (of_decide_eq_true (by kernel_rfl)) h3 bel lt3), rfl, bel.frame _, fun h => by cases h⟩

theorem proved : Rows.WindowForksUptoSaid :=
  OpenClaim.holds_of_cond 4 Try.f4 rfl rfl rfl rfl rfl rfl rfl ⟨rfl, rfl, rfl, rfl, rfl⟩ rfl rfl rfl rfl rfl (by kernel_rfl) Try.func4 (by kernel_rfl)
    (of_decide_eq_true (by kernel_rfl)) (by unfold Func.isWrapper; first | (rw [if_pos (by decide +kernel)]; kernel_rfl) | (rw [if_neg (by decide +kernel)]; exact ⟨rfl, rfl⟩))
    (fun os started H enc _ F => lifted os started H enc F)
#print axioms proved
end Go.Proofs.Ytcfaocbdhfmhbaa.windowForksUpto
