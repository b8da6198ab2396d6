/-
  How a list of symbols reads. No condition beyond the theorem's own.
-/
import Derived.Test.YtchoiedgnmhjeaaDoorGoes
import Derived.Deep.Slices
namespace Go.Proofs.YtchoiedgnmhjeaaDoor
open Go.RowKit Go.ChangeShapes Go.WideShapes Go.ChangeAt Go.Deep

theorem bytes24 : Tryd.prog.bytesOf 24 = 32 := by kernel_rfl
section
variable {H : Type} {enc : TypeId × Value → H} {w : World} {b0 : Nat} {held : Bool} {r : Reach}
theorem open_syms {v : Value} {d : DataW H} {p : List MemPlace} (hv : Value.okWide Tryd.prog w r b0 35 v) (h : DataW.Trod enc Tryd.prog w 0 (fun _ => true) held 35 v d p) :
    ∃ A n c, v = .slice A n c ∧ InY w A n ∧ n ≤ 9223372036854775807 ∧ (n = 0 ∨ ∃ es sp, d = .slice es sp ∧ es.length = n) := by
  obtain ⟨A, n, c, rfl⟩ := okWide_slice Tryd.underlying35 hv
  obtain ⟨fuel, hf⟩ := h
  rcases open_slice Tryd.underlying35 hf with ⟨hcs, _⟩ | ⟨a, len, cap, m, n', D, Pl, hcs, _, hl, hm, hmm, hx, hi⟩
  · simp [Value.cells] at hcs
    obtain ⟨rfl, rfl, rfl⟩ := hcs
    exact ⟨none, 0, 0, rfl, fun i hi => absurd hi (by omega), by omega, .inl rfl⟩
  · simp [Value.cells] at hcs
    obtain ⟨rfl, rfl, rfl⟩ := hcs
    simp only [if_true] at hmm
    subst hmm
    unfold maxLen at hm
    refine ⟨some a, n, _, rfl, fun i hin => ?_, by omega, .inr ⟨_, _, by simp only [Prod.mk.injEq] at hx; exact hx.1, by simp⟩⟩
    have cell : ∀ i, i < n → ∃ k y l x : Int, w.cell? (a.add (i * 4)) = some (.int .i64 k) ∧ w.cell? (a.add (i * 4 + 1)) = some (.int .u8 y) ∧ w.cell? (a.add (i * 4 + 2)) = some (.int .i64 l) ∧ w.cell? (a.add (i * 4 + 3)) = some (.int .i64 x) := by
      intro i hin
      obtain ⟨cs', hc, ht⟩ := hi i (by omega)
      obtain ⟨k, y, l, x, rfl⟩ := cells_sym ht
      rw [c24] at hc
      obtain ⟨_, _, hat⟩ := World.cells?_some hc
      have h0 := hat 0 (by omega)
      have h1 := hat 1 (by omega)
      have h2 := hat 2 (by omega)
      have h3 := hat 3 (by omega)
      rw [add_add'] at h0 h1 h2 h3
      exact ⟨k, y, l, x, by simpa using h0, by simpa using h1, by simpa using h2, by simpa using h3⟩
    obtain ⟨k, y, l, x, h0, h1, h2, h3⟩ := cell i hin
    obtain ⟨b, off, spot⟩ := a
    have hspot : spot = none := by
      obtain ⟨_, _, _, _, h4, _⟩ := cell 0 (by omega)
      simpa [Addr.add] using World.cell?_spot h4
    subst hspot
    have hadd : ∀ j, (⟨b, off, none⟩ : Addr).add j = ⟨b, off + j, none⟩ := fun j => by unfold Addr.add; split <;> simp_all
    have hb : b < w.heap.size := by have := World.block_lt_of_cell? w _ h0; rwa [hadd] at this
    rw [hadd] at h0 h1 h2 h3
    exact ⟨b, off, k, y, l, x, rfl, hb, h0, h1, h2, h3⟩
end
end Go.Proofs.YtchoiedgnmhjeaaDoor
