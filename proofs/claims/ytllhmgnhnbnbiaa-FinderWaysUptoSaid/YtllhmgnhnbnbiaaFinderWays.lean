/-
  The statement FinderWaysUptoSaid holds: in how many steps the finder comes to a place is not seen, and its matches may be ranged over within themselves. Conditions: none beyond the statement's own.
-/
import Derived.Test.YtllhmgnhnbnbiaaRows
import Derived.Test.YtllhmgnhnbnbiaaFiOpen
import Derived.Test.YtllhmgnhnbnbiaaWaysL
import Derived.JoinedCond
import Derived.Deep.CondSized
namespace Go.Proofs.Ytllhmgnhnbnbiaa.finderWaysUpto
open Go.ChangeShapes Go.WideShapes Go.ChangeAt Go.RowKit Go.Deep

set_option maxRecDepth 100000 in
theorem lifted (os : Os) (started : os.Started) (H : Type) (enc : TypeId × Value → H) (F : Stop.Interp) :
    ReturnsInHanded {} Try.checked os 5 .any ((Rows.OpenSpec.upto Rows.finderWaysSpec).pre6 enc Try.prog Try.f5 Rows.finderWaysUptoRow.domain false) (((Rows.OpenSpec.upto Rows.finderWaysSpec).at F).post enc Try.prog Try.f5 false true false false) := by
  refine returnsInHanded_of_cond (C := Try.checked) (s := Rows.OpenSpec.upto Rows.finderWaysSpec) (k := Rows.uptoSmall) rfl own_ started (by kernel_rfl) Try.func5
    (OpenSpec.witness (enc := enc) (C := Try.checked) (s := Rows.OpenSpec.upto Rows.finderWaysSpec) (k := Rows.uptoSmall) rfl false ⟨#[], #[.slice none 0 0, .slice none 0 0, .int .i64 0], []⟩ 8 (by kernel_rfl) (by kernel_rfl) (by kernel_rfl)
      (x := ([.nil, .nil, .lit (.int .i64 0)], [], [])) (by kernel_rfl) rfl (by kernel_rfl)) ?_
  intro W base args ds gs before hval0 hW _ hk _
  have hval : ∀ (j : Nat) t v, Try.f5.params[j]? = some t → args[j]? = some v → Value.okWide Try.prog W .any base t v := hval0
  have hW' := hW
  obtain ⟨p, q, hA0, hV, rfl, hfz, hnd⟩ := hW
  have hA : DataW.TrodAll enc Try.prog W 0 (fun _ => true) true Try.f5.params.toList args.toList ds p := hA0
  rw [Try.params5] at hA hval
  obtain ⟨v0, v1, v2, d0, d1, d2, p0, p1, p2, rfl, rfl, rfl, h0, h1, h2⟩ := trodAll3 hA
  obtain ⟨rfl, rfl⟩ := trodVars_none hV
  have hbulk := bulks.bound hk
  simp only [List.append_nil] at hbulk
  have hb0 : Rows.uptoBulk d0 ≤ 1048576 := Nat.le_trans (bulks.part_le (d := d0) (l := [d0, d1, d2]) (by simp)) hbulk
  obtain ⟨A0, n0, c0, l0, rfl, hc0, hr0, hl0, hd0, hz0⟩ := open_bytes (hval 0 22 v0 rfl rfl) h0
  have hb1 : Rows.uptoBulk d1 ≤ 1048576 := Nat.le_trans (bulks.part_le (d := d1) (l := [d0, d1, d2]) (by simp)) hbulk
  obtain ⟨A1, n1, c1, l1, rfl, hi1, hd1⟩ := open_ints_ (hval 1 39 v1 rfl rfl) h1
  obtain ⟨x2, rfl, _⟩ := open_int Try.underlying3 (hval 2 3 v2 rfl rfl) h2
  have lt0 : ∀ z ∈ p0, z.block < W.heap.size := by obtain ⟨m, hm⟩ := h0; exact DataW.trod_lt m _ _ _ hm
  have lt1 : ∀ z ∈ p1, z.block < W.heap.size := by obtain ⟨m, hm⟩ := h1; exact DataW.trod_lt m _ _ _ hm
  have lt2 : ∀ z ∈ p2, z.block < W.heap.size := by obtain ⟨m, hm⟩ := h2; exact DataW.trod_lt m _ _ _ hm
  clear hA0 hval0
  simp only [List.append_nil] at hW'
  have hn0 : n0 ≤ 1048576 := by
    rcases hd0 with h | ⟨es, sp, hde, hn⟩
    · omega
    · have h2 := bulks.slice_le es sp
      rw [← hde] at h2
      omega
  have hn1 : n1 ≤ 1048576 := by
    rcases hd1 with h | ⟨es, sp, hde, hn⟩
    · omega
    · have h2 := bulks.slice_le es sp
      rw [← hde] at h2
      omega
  refine (ways_law A0 n0 c0 l0 A1 n1 c1 l1 x2 W ⟨hr0, hl0, by omega⟩ hz0 hc0 hn0 (hi1 (by omega)) hn1).mono fun e W' ⟨he, bel⟩ => ?_
  subst he
  exact ⟨_, rfl, _, _, _, [], _, [], hW', trodAll_mk1 (shut_bool Try.underlying4 _), trodAll_mk3 (Below.trod laidOut_ (by kernel_rfl) (of_decide_eq_true (by kernel_rfl)) h0 bel lt0) (Below.trod laidOut_ (by kernel_rfl) (of_decide_eq_true (by kernel_rfl)) h1 bel lt1) (Below.trod laidOut_ (by kernel_rfl) (of_decide_eq_true (by kernel_rfl)) h2 bel lt2), rfl, bel.frame _, fun h => by cases h⟩

theorem proved : Rows.FinderWaysUptoSaid :=
  OpenClaim.holds_of_cond 5 Try.f5 rfl rfl rfl rfl rfl rfl rfl ⟨rfl, rfl, rfl, rfl, rfl⟩ rfl rfl rfl rfl rfl (by kernel_rfl) Try.func5 (by kernel_rfl)
    (of_decide_eq_true (by kernel_rfl)) (by unfold Func.isWrapper; first | (rw [if_pos (by decide +kernel)]; kernel_rfl) | (rw [if_neg (by decide +kernel)]; exact ⟨rfl, rfl⟩))
    (fun os started H enc _ F => lifted os started H enc F)
#print axioms proved
end Go.Proofs.Ytllhmgnhnbnbiaa.finderWaysUpto
