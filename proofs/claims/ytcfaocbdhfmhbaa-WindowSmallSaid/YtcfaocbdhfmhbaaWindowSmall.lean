
/-
  The statement WindowSmall: a small window and a great one tell the same of every distance of the small one. No condition: for every input. The walk is in the texts before; here the arguments are read out of memory and the row is closed.
-/
import Derived.Test.YtcfaocbdhfmhbaaRows
import Derived.Test.YtcfaocbdhfmhbaaSmallLaw
import Derived.Test.YtcfaocbdhfmhbaaOpenOps
namespace Go.Proofs.Ytcfaocbdhfmhbaa.windowSmall
open Go.ChangeShapes Go.WideShapes Go.ChangeAt Go.RowKit Go.Deep

set_option maxRecDepth 100000 in
theorem lifted (os : Os) (started : os.Started) (H : Type) (enc : TypeId × Value → H) :
    ReturnsInHanded {} Try.checked os 6 .any (Rows.windowSmallSpec.pre6 enc Try.prog Try.f6 Rows.windowSmallRow.domain false) (Rows.windowSmallSpec.post enc Try.prog Try.f6 false true false false) := by
  refine returnsInHanded_of_change_sized (C := Try.checked) own_ started (by kernel_rfl) Try.func6
    (ChangeSpec.witness6 (enc := enc) (C := Try.checked) false ⟨#[], #[.int .i64 0, .slice none 0 0, .slice none 0 0], []⟩ 8 (by kernel_rfl) (by kernel_rfl) (by kernel_rfl) (by kernel_rfl)) ?_
  intro W base args ds gs before hval0 hW _ hsz0 _
  have hsz : (DataW.weightsEach Try.prog (Try.f6.params.toList ++ Rows.windowSmallSpec.plain.varTypes Try.prog) (ds ++ gs)).all (· ≤ reachBytes) = true := hsz0
  clear hsz0
  have hval : ∀ (j : Nat) t v, Try.f6.params[j]? = some t → args[j]? = some v → Value.okWide Try.prog W .any base t v := hval0
  have hW' := hW
  obtain ⟨p, q, hA0, hV, rfl, hfz, hnd⟩ := hW
  have hA : DataW.TrodAll enc Try.prog W 0 (fun _ => true) true Try.f6.params.toList args.toList ds p := hA0
  rw [Try.params6] at hA hval hsz
  obtain ⟨v0, v1, v2, d0, d1, d2, p0, p1, p2, rfl, rfl, rfl, h0, h1, h2⟩ := trodAll3 hA
  obtain ⟨rfl, rfl⟩ := trodVars_none hV
  obtain ⟨x0, rfl, hw0⟩ := open_int Try.underlying3 (hval 0 3 v0 rfl rfl) h0
  obtain ⟨A1, n1, c1, l1, rfl, hc1, hRd1, hlt1, hd1⟩ := open_bytes (hval 1 22 v1 rfl rfl) h1
  obtain ⟨A2, n2, c2, l2, rfl, hI2, hd2⟩ := open_ops (hval 2 37 v2 rfl rfl) h2
  have lt0 : ∀ z ∈ p0, z.block < W.heap.size := by obtain ⟨m, hm⟩ := h0; exact DataW.trod_lt m _ _ _ hm
  have lt1 : ∀ z ∈ p1, z.block < W.heap.size := by obtain ⟨m, hm⟩ := h1; exact DataW.trod_lt m _ _ _ hm
  have lt2 : ∀ z ∈ p2, z.block < W.heap.size := by obtain ⟨m, hm⟩ := h2; exact DataW.trod_lt m _ _ _ hm
  clear hA0 hval0
  simp only [List.append_nil] at hW'
  have hn1 : n1 ≤ 140737488351232 := by
    rcases hd1 with h | ⟨es, sp, rfl, hn⟩
    · omega
    · have := sized_slice hsz (j := 1) (t := 22) (e := 5) (by rfl) (by rfl) Try.underlying22
      rw [bytesU8] at this
      simp only [reachBytes] at this
      omega
  have hIn1 : In W A1 n1 l1 := ⟨hRd1, hlt1, by omega⟩
  have hn2 : n2 ≤ 140737488351232 := by
    rcases hd2 with h | ⟨es, sp, rfl, hn⟩
    · omega
    · have := sized_slice hsz (j := 2) (t := 37) (e := 39) (by rfl) (by rfl) Try.underlying37
      rw [bytesOp] at this
      simp only [reachBytes] at this
      omega
  refine (small_law_ x0 A1 n1 c1 l1 A2 n2 c2 l2 W (bounds_i64 hw0) hIn1 hc1 (hI2 hn2)).mono fun e W' ⟨he, bel⟩ => ?_
  subst he
  exact ⟨_, rfl, _, _, _, [], _, [], hW', trodAll_mk1 (shut_bool Try.underlying4 _), trodAll_mk3 (Below.trod laidOut_ (by kernel_rfl) (of_decide_eq_true (by kernel_rfl)) h0 bel lt0) (Below.trod laidOut_ (by kernel_rfl) (of_decide_eq_true (by kernel_rfl)) h1 bel lt1) (Below.trod laidOut_ (by kernel_rfl) (of_decide_eq_true (by kernel_rfl)) h2 bel lt2), rfl, bel.frame _, fun h => by cases h⟩

theorem proved : Rows.WindowSmallSaid :=
  OpenClaim.holds_of_wide 6 Try.f6 rfl rfl rfl rfl rfl rfl rfl ⟨rfl, rfl, rfl, rfl, rfl⟩ rfl rfl rfl rfl rfl (by kernel_rfl) Try.func6 (by kernel_rfl)
    (of_decide_eq_true (by kernel_rfl)) (by unfold Func.isWrapper; first | (rw [if_pos (by decide +kernel)]; kernel_rfl) | (rw [if_neg (by decide +kernel)]; exact ⟨rfl, rfl⟩))
    (fun os started H enc _ => lifted os started H enc)
#print axioms proved
end Go.Proofs.Ytcfaocbdhfmhbaa.windowSmall
