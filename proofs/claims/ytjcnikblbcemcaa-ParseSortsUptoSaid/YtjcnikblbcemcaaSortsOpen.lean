/-
  How a list of integers reads. No condition beyond each theorem's own.
-/
import Derived.Test.YtjcnikblbcemcaaSortsWalk
import Derived.WalkKit
import Derived.ProofKit
import Derived.OpenShut
import Derived.ChangeOld
import Derived.SizedLaws
import Derived.Deep.Slices
import Derived.Deep.Fields
import Derived.ChangeSame
namespace Go.Proofs.Ytjcnikblbcemcaa
open Go.ChangeShapes Go.WideShapes Go.ChangeAt Go.RowKit Go.Deep

theorem own_ : ownKnob Try.prog.godebug = none := by kernel_rfl
theorem laidOut_ : laidOutB Try.prog = true := by kernel_rfl
section
variable {H : Type} {enc : TypeId × Value → H} {w : World} {base b0 : Nat} {held : Bool} {r : Reach}
theorem cellsInt : Try.prog.cellsOf 3 = 1 := by kernel_rfl
theorem bytesInt : Try.prog.bytesOf 3 = 8 := by kernel_rfl
/-- a list of integers that comes in -/
theorem open_ints_ {v : Value} {d : DataW H} {p : List MemPlace} (hv : Value.okWide Try.prog w r b0 39 v) (h : DataW.Trod enc Try.prog w 0 (fun _ => true) held 39 v d p) :
    ∃ A n c l, v = .slice A n c ∧ (n ≤ 140737488351232 → InI w A n l) ∧ (n = 0 ∨ ∃ es sp, d = .slice es sp ∧ es.length = n) := by
  obtain ⟨A, n, c, rfl⟩ := okWide_slice Try.underlying39 hv
  obtain ⟨fuel, hf⟩ := h
  rcases open_slice Try.underlying39 hf with ⟨hcs, _⟩ | ⟨a, len, cap, m, n', D, Pl, hcs, _, hl, hm, hmm, hx, hi⟩
  · simp [Value.cells] at hcs
    obtain ⟨rfl, rfl, rfl⟩ := hcs
    exact ⟨none, 0, 0, [], rfl, fun _ => ⟨rfl, fun i hi => absurd hi (by omega)⟩, .inl rfl⟩
  · simp [Value.cells] at hcs
    obtain ⟨rfl, rfl, rfl⟩ := hcs
    simp only [if_true] at hmm
    subst hmm
    rw [cellsInt] at hi
    have cell : ∀ i, i < n → ∃ x : Int, w.cell? (a.add i) = some (.int .i64 x) ∧ -9223372036854775808 ≤ x ∧ x ≤ 9223372036854775807 := by
      intro i hin
      obtain ⟨cs', hc, ht⟩ := hi i (by omega)
      obtain ⟨x, e, _, hw⟩ := DataW.trod_int Try.underlying3 ht
      subst e
      obtain ⟨_, _, hat⟩ := World.cells?_some hc
      have h0 := hat 0 (by omega)
      rw [add_add', Nat.mul_one, Nat.add_zero] at h0
      exact ⟨x, by simpa using h0, bounds_i64 hw⟩
    refine ⟨some a, n, m, ?_⟩
    have hd : n = 0 ∨ ∃ es sp, d = .slice es sp ∧ es.length = n := .inr ⟨_, _, by simp only [Prod.mk.injEq] at hx; exact hx.1, by simp⟩
    obtain ⟨b, off, spot⟩ := a
    have cell2 : ∀ i, i < n → ∃ x : Int, spot = none ∧ b < w.heap.size ∧ w.cell? ⟨b, off + i, none⟩ = some (.int .i64 x) ∧ -9223372036854775808 ≤ x ∧ x ≤ 9223372036854775807 := by
      intro i hin
      obtain ⟨x, h1, h2⟩ := cell i hin
      have hspot : spot = none := by
        obtain ⟨y, h3, _⟩ := cell 0 (by omega)
        simpa [Addr.add] using World.cell?_spot h3
      subst hspot
      have hadd : (⟨b, off, none⟩ : Addr).add i = ⟨b, off + i, none⟩ := by unfold Addr.add; split <;> simp_all
      have hb := World.block_lt_of_cell? w _ h1
      rw [hadd] at h1 hb
      exact ⟨x, rfl, hb, h1, h2⟩
    refine ⟨(List.range n).attach.map fun i => Classical.choose (cell2 i.1 (List.mem_range.1 i.2)), rfl, fun _ => ⟨by simp, fun i hin => ?_⟩, hd⟩
    obtain ⟨h0, h1, h2, h3⟩ := Classical.choose_spec (cell2 i hin)
    exact ⟨b, off, _, by rw [h0], by simp [hin], h1, h2⟩
end
end Go.Proofs.Ytjcnikblbcemcaa
