
/-
  The statement WindowLast: what a window tells are the last bytes that came, put in whatever pieces, or copied. No condition: for every input. The walk is in the texts before; here the arguments are read out of memory and the row is closed.
-/
import Derived.Test.YtcfaocbdhfmhbaaRows
import Derived.Test.YtcfaocbdhfmhbaaLastLaw
import Derived.Test.YtcfaocbdhfmhbaaOpen
namespace Go.Proofs.Ytcfaocbdhfmhbaa.windowLast
open Go.ChangeShapes Go.WideShapes Go.ChangeAt Go.RowKit Go.Deep

set_option maxRecDepth 100000 in
theorem lifted (os : Os) (started : os.Started) (H : Type) (enc : TypeId × Value → H) :
    ReturnsInHanded {} Try.checked os 5 .any (Rows.windowLastSpec.pre6 enc Try.prog Try.f5 Rows.windowLastRow.domain false) (Rows.windowLastSpec.post enc Try.prog Try.f5 false true false false) := by
  refine returnsInHanded_of_change_sized (C := Try.checked) own_ started (by kernel_rfl) Try.func5
    (ChangeSpec.witness6 (enc := enc) (C := Try.checked) false ⟨#[], #[.int .i64 0, .slice none 0 0, .slice none 0 0, .int .i64 0, .int .i64 0], []⟩ 8 (by kernel_rfl) (by kernel_rfl) (by kernel_rfl) (by kernel_rfl)) ?_
  intro W base args ds gs before hval0 hW _ hsz0 _
  have hsz : (DataW.weightsEach Try.prog (Try.f5.params.toList ++ Rows.windowLastSpec.plain.varTypes Try.prog) (ds ++ gs)).all (· ≤ reachBytes) = true := hsz0
  clear hsz0
  have hval : ∀ (j : Nat) t v, Try.f5.params[j]? = some t → args[j]? = some v → Value.okWide Try.prog W .any base t v := hval0
  have hW' := hW
  obtain ⟨p, q, hA0, hV, rfl, hfz, hnd⟩ := hW
  have hA : DataW.TrodAll enc Try.prog W 0 (fun _ => true) true Try.f5.params.toList args.toList ds p := hA0
  rw [Try.params5] at hA hval hsz
  obtain ⟨v0, v1, v2, v3, v4, d0, d1, d2, d3, d4, p0, p1, p2, p3, p4, rfl, rfl, rfl, h0, h1, h2, h3, h4⟩ := trodAll5 hA
  obtain ⟨rfl, rfl⟩ := trodVars_none hV
  obtain ⟨x0, rfl, hw0⟩ := open_int Try.underlying3 (hval 0 3 v0 rfl rfl) h0
  obtain ⟨A1, n1, c1, l1, rfl, hc1, hRd1, hlt1, hd1⟩ := open_bytes (hval 1 22 v1 rfl rfl) h1
  obtain ⟨A2, n2, c2, l2, rfl, hI2, hd2⟩ := open_ints_ (hval 2 35 v2 rfl rfl) h2
  obtain ⟨x3, rfl, hw3⟩ := open_int Try.underlying3 (hval 3 3 v3 rfl rfl) h3
  obtain ⟨x4, rfl, hw4⟩ := open_int Try.underlying3 (hval 4 3 v4 rfl rfl) h4
  have lt0 : ∀ z ∈ p0, z.block < W.heap.size := by obtain ⟨m, hm⟩ := h0; exact DataW.trod_lt m _ _ _ hm
  have lt1 : ∀ z ∈ p1, z.block < W.heap.size := by obtain ⟨m, hm⟩ := h1; exact DataW.trod_lt m _ _ _ hm
  have lt2 : ∀ z ∈ p2, z.block < W.heap.size := by obtain ⟨m, hm⟩ := h2; exact DataW.trod_lt m _ _ _ hm
  have lt3 : ∀ z ∈ p3, z.block < W.heap.size := by obtain ⟨m, hm⟩ := h3; exact DataW.trod_lt m _ _ _ hm
  have lt4 : ∀ z ∈ p4, z.block < W.heap.size := by obtain ⟨m, hm⟩ := h4; exact DataW.trod_lt m _ _ _ hm
  clear hA0 hval0
  simp only [List.append_nil] at hW'
  have hn1 : n1 ≤ 140737488351232 := by
    rcases hd1 with h | ⟨es, sp, rfl, hn⟩
    · omega
    · have := sized_slice hsz (j := 1) (t := 22) (e := 5) (by rfl) (by rfl) Try.underlying22
      rw [bytesU8] at this
      simp only [reachBytes] at this
      omega
  have hIn1 : In W A1 n1 l1 := ⟨hRd1, hlt1, by omega⟩
  have hn2 : n2 ≤ 140737488351232 := by
    rcases hd2 with h | ⟨es, sp, rfl, hn⟩
    · omega
    · have := sized_slice hsz (j := 2) (t := 35) (e := 3) (by rfl) (by rfl) Try.underlying35
      rw [bytesInt] at this
      simp only [reachBytes] at this
      omega
  refine (last_law_ x0 A1 n1 c1 l1 A2 n2 c2 l2 x3 x4 W (bounds_i64 hw0) hIn1 hc1 (hI2 hn2) (bounds_i64 hw3) (bounds_i64 hw4)).mono fun e W' ⟨he, bel⟩ => ?_
  subst he
  exact ⟨_, rfl, _, _, _, [], _, [], hW', trodAll_mk1 (shut_bool Try.underlying4 _), trodAll_cons_mk (Below.trod laidOut_ (by kernel_rfl) (of_decide_eq_true (by kernel_rfl)) h0 bel lt0) (trodAll_mk4 (Below.trod laidOut_ (by kernel_rfl) (of_decide_eq_true (by kernel_rfl)) h1 bel lt1) (Below.trod laidOut_ (by kernel_rfl) (of_decide_eq_true (by kernel_rfl)) h2 bel lt2) (Below.trod laidOut_ (by kernel_rfl) (of_decide_eq_true (by kernel_rfl)) h3 bel lt3) (Below.trod laidOut_ (by kernel_rfl) (of_decide_eq_true (by kernel_rfl)) h4 bel lt4)), rfl, bel.frame _, fun h => by cases h⟩

theorem proved : Rows.WindowLastSaid :=
  OpenClaim.holds_of_wide 5 Try.f5 rfl rfl rfl rfl rfl rfl rfl ⟨rfl, rfl, rfl, rfl, rfl⟩ rfl rfl rfl rfl rfl (by kernel_rfl) Try.func5 (by kernel_rfl)
    (of_decide_eq_true (by kernel_rfl)) (by unfold Func.isWrapper; first | (rw [if_pos (by decide +kernel)]; kernel_rfl) | (rw [if_neg (by decide +kernel)]; exact ⟨rfl, rfl⟩))
    (fun os started H enc _ => lifted os started H enc)
#print axioms proved
end Go.Proofs.Ytcfaocbdhfmhbaa.windowLast
