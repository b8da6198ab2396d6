/-
  How a list of symbols reads. No condition beyond the theorem's own.
-/
import Derived.Test.YthcgchkcanhmnaaDoorStBoth
import Derived.Test.YthcgchkcanhmnaaDoorStOpen
import Derived.Deep.Slices
namespace Go.Proofs.YthcgchkcanhmnaaDoor
open Go.RowKit Go.ChangeShapes Go.WideShapes Go.ChangeAt Go.Deep

/-- symbols that come in -/
def InY (w : World) (A : Option Addr) (n : Nat) : Prop :=
  ∀ i, i < n → ∃ (b off : Nat) (k y l x : Int), A = some ⟨b, off, none⟩ ∧ b < w.heap.size ∧ w.cell? ⟨b, off + i * 4, none⟩ = some (.int .i64 k) ∧ w.cell? ⟨b, off + i * 4 + 1, none⟩ = some (.int .u8 y) ∧ w.cell? ⟨b, off + i * 4 + 2, none⟩ = some (.int .i64 l) ∧ w.cell? ⟨b, off + i * 4 + 3, none⟩ = some (.int .i64 x)
theorem InY.below {w w' : World} {A : Option Addr} {n : Nat} (h : InY w A n) (hb : Below w.heap.size w w') : InY w' A n := fun i hi => by
  obtain ⟨b, off, k, y, l, x, e, hlt, c0, c1, c2, c3⟩ := h i hi
  exact ⟨b, off, k, y, l, x, e, Nat.lt_of_lt_of_le hlt hb.size, (hb.cell (p := ⟨b, off + i * 4, none⟩) hlt).trans c0, (hb.cell (p := ⟨b, off + i * 4 + 1, none⟩) hlt).trans c1, (hb.cell (p := ⟨b, off + i * 4 + 2, none⟩) hlt).trans c2, (hb.cell (p := ⟨b, off + i * 4 + 3, none⟩) hlt).trans c3⟩
theorem stC_five {w : World} {g t : Nat} {n a b c d : Int} (h : Blk w g t (stC n a b c d)) : w.cell? ⟨g, 0, none⟩ = some (.int .i64 n) ∧ w.cell? ⟨g, 1, none⟩ = some (.int .i64 a) ∧ w.cell? ⟨g, 2, none⟩ = some (.int .i64 b) ∧ w.cell? ⟨g, 3, none⟩ = some (.int .i64 c) ∧ w.cell? ⟨g, 4, none⟩ = some (.int .i64 d) := ⟨h.cell 0, h.cell 1, h.cell 2, h.cell 3, h.cell 4⟩

theorem keep5 {w1 : World} {N g i : Nat} {v0 v1 v2 v3 v4 : Value} (h : ¬ g = N) : (((((w1.setCell ⟨N, 0, none⟩ v0).setCell ⟨N, 1, none⟩ v1).setCell ⟨N, 2, none⟩ v2).setCell ⟨N, 3, none⟩ v3).setCell ⟨N, 4, none⟩ v4).cell? ⟨g, i, none⟩ = w1.cell? ⟨g, i, none⟩ := by
  have e : ∀ (w : World) (j : Nat) (v : Value), (w.setCell ⟨N, j, none⟩ v).cell? ⟨g, i, none⟩ = w.cell? ⟨g, i, none⟩ := fun w j v => World.cell?_setCell_other w _ _ v (fun e => h (by first | exact (Addr.mk.inj e).1 | exact (Addr.mk.inj e).1.symm))
  rw [e, e, e, e, e]
theorem bd1 {w w1 : World} (h : Below w.drew.heap.size w.drew w1) : Below w.heap.size w w1 := ((Below.refl _ w).drew).trans h
theorem bd2 {w w1 : World} {o : Obj} (h : Below (w.alloc o).drew.heap.size (w.alloc o).drew w1) : Below w.heap.size w w1 := (((Below.refl _ w).alloc (Nat.le_refl _) o).drew).trans (h.mono (by show w.heap.size ≤ (w.alloc o).heap.size; simp))
theorem bytes24 : Tryd.prog.bytesOf 38 = 32 := by kernel_rfl
section
variable {H : Type} {enc : TypeId × Value → H} {w : World} {b0 : Nat} {held : Bool} {r : Reach}
theorem open_syms {v : Value} {d : DataW H} {p : List MemPlace} (hv : Value.okWide Tryd.prog w r b0 24 v) (h : DataW.Trod enc Tryd.prog w 0 (fun _ => true) held 24 v d p) :
    ∃ A n c, v = .slice A n c ∧ InY w A n ∧ n ≤ 9223372036854775807 ∧ (n = 0 ∨ ∃ es sp, d = .slice es sp ∧ es.length = n) := by
  obtain ⟨A, n, c, rfl⟩ := okWide_slice Tryd.underlying24 hv
  obtain ⟨fuel, hf⟩ := h
  rcases open_slice Tryd.underlying24 hf with ⟨hcs, _⟩ | ⟨a, len, cap, m, n', D, Pl, hcs, _, hl, hm, hmm, hx, hi⟩
  · simp [Value.cells] at hcs
    obtain ⟨rfl, rfl, rfl⟩ := hcs
    exact ⟨none, 0, 0, rfl, fun i hi => absurd hi (by omega), by omega, .inl rfl⟩
  · simp [Value.cells] at hcs
    obtain ⟨rfl, rfl, rfl⟩ := hcs
    simp only [if_true] at hmm
    subst hmm
    unfold maxLen at hm
    refine ⟨some a, n, _, rfl, fun i hin => ?_, by omega, .inr ⟨_, _, by simp only [Prod.mk.injEq] at hx; exact hx.1, by simp⟩⟩
    have cell : ∀ i, i < n → ∃ k y l x : Int, w.cell? (a.add (i * 4)) = some (.int .i64 k) ∧ w.cell? (a.add (i * 4 + 1)) = some (.int .u8 y) ∧ w.cell? (a.add (i * 4 + 2)) = some (.int .i64 l) ∧ w.cell? (a.add (i * 4 + 3)) = some (.int .i64 x) := by
      intro i hin
      obtain ⟨cs', hc, ht⟩ := hi i (by omega)
      obtain ⟨k, y, l, x, rfl⟩ := cells_sym ht
      rw [c24] at hc
      obtain ⟨_, _, hat⟩ := World.cells?_some hc
      have h0 := hat 0 (by omega)
      have h1 := hat 1 (by omega)
      have h2 := hat 2 (by omega)
      have h3 := hat 3 (by omega)
      rw [add_add'] at h0 h1 h2 h3
      exact ⟨k, y, l, x, by simpa using h0, by simpa using h1, by simpa using h2, by simpa using h3⟩
    obtain ⟨k, y, l, x, h0, h1, h2, h3⟩ := cell i hin
    obtain ⟨b, off, spot⟩ := a
    have hspot : spot = none := by
      obtain ⟨_, _, _, _, h4, _⟩ := cell 0 (by omega)
      simpa [Addr.add] using World.cell?_spot h4
    subst hspot
    have hadd : ∀ j, (⟨b, off, none⟩ : Addr).add j = ⟨b, off + j, none⟩ := fun j => by unfold Addr.add; split <;> simp_all
    have hb : b < w.heap.size := by have := World.block_lt_of_cell? w _ h0; rwa [hadd] at this
    rw [hadd] at h0 h1 h2 h3
    exact ⟨b, off, k, y, l, x, rfl, hb, h0, h1, h2, h3⟩
end
end Go.Proofs.YthcgchkcanhmnaaDoor
