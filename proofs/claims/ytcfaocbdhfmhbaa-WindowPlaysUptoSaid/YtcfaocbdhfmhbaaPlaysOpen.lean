
/-
  How a list of steps reads, the length of each step's bytes too. No condition beyond each theorem's own.
-/
import Derived.Test.YtcfaocbdhfmhbaaOpenOps
import Derived.Test.YtcfaocbdhfmhbaaBulk
import Derived.Test.YtcfaocbdhfmhbaaPlaysLaw
namespace Go.Proofs.Ytcfaocbdhfmhbaa
open Go.ChangeShapes Go.WideShapes Go.ChangeAt Go.RowKit Go.Deep

section
variable {H : Type} {enc : TypeId × Value → H} {w : World} {b0 : Nat} {held : Bool} {r : Reach}
theorem open_opsB {v : Value} {d : DataW H} {p : List MemPlace} (hv : Value.okWide Try.prog w r b0 37 v) (h : DataW.Trod enc Try.prog w 0 (fun _ => true) held 37 v d p) (hbk : Rows.uptoBulk d ≤ 1048576) :
    ∃ A n c, v = .slice A n c ∧ InOpsB w A n ∧ n ≤ 1048576 := by
  obtain ⟨A, n, c, rfl⟩ := okWide_slice Try.underlying37 hv
  obtain ⟨fuel, hf⟩ := h
  rcases open_slice_fields Try.underlying37 Try.underlying39 (by kernel_rfl) cellsOp hf with ⟨hcs, _⟩ | ⟨a, len, cap, m, D, Pl, hcs, _, hl, hm, hmm, hx, hi⟩
  · simp [Value.cells] at hcs
    obtain ⟨rfl, rfl, rfl⟩ := hcs
    exact ⟨none, 0, 0, rfl, fun i hi => absurd hi (by omega), by omega⟩
  · simp [Value.cells] at hcs
    obtain ⟨rfl, rfl, rfl⟩ := hcs
    simp only [if_true] at hmm
    subst hmm
    simp only [Prod.mk.injEq] at hx
    have hd := hx.1
    have hsl := bulks.slice_le ((List.range n).map D) ((List.range (m - n)).map fun j => D (n + j))
    rw [← hd, List.length_map, List.length_range] at hsl
    refine ⟨some a, n, m, rfl, fun i hin => ?_, by omega⟩
    obtain ⟨ys, n', hDi, _, hyl, hf⟩ := hi i (by omega)
    obtain ⟨v0, y0, c0, _, t0⟩ := hf 0 _ rfl
    obtain ⟨v1, y1, c1, _, t1⟩ := hf 1 _ rfl
    obtain ⟨v2, y2, c2, _, t2⟩ := hf 2 _ rfl
    obtain ⟨v3, y3, c3, _, t3⟩ := hf 3 _ rfl
    obtain ⟨v4, y4, c4, g4, t4⟩ := hf 4 _ rfl
    obtain ⟨x0, e0, _, w0⟩ := DataW.trod_int Try.underlying3 t0
    obtain ⟨x1, e1, _, w1⟩ := DataW.trod_int Try.underlying3 t1
    obtain ⟨x2, e2, _, w2⟩ := DataW.trod_int Try.underlying3 t2
    obtain ⟨x3, e3, _, w3⟩ := DataW.trod_int Try.underlying3 t3
    obtain ⟨B, bn, bc, bl, e4, k1, k2, k3, k4⟩ := bytes_trod t4
    have hbn : bn ≤ 1048576 := by
      rcases k4 with h0 | ⟨es, sp, he, hn⟩
      · omega
      · have s1 := bulks.slice_le es sp
        rw [← he] at s1
        have s2 : Rows.uptoBulk y4.1 ≤ Rows.uptoBulkAll (ys.map (·.1)) := bulks.part_le (List.mem_map.2 ⟨y4, List.mem_of_getElem? g4, rfl⟩)
        have s3 := bulks.agg_part (ys.map (·.1))
        rw [← hDi] at s3
        have s4 : Rows.uptoBulk (D i) ≤ Rows.uptoBulkAll ((List.range n).map D) := bulks.part_le (List.mem_map.2 ⟨i, List.mem_range.2 hin, rfl⟩)
        have s5 := bulks.slice_part ((List.range n).map D) ((List.range (m - n)).map fun j => D (n + j))
        rw [← hd] at s5
        omega
    simp at e0 e1 e2 e3 e4
    subst e0 e1 e2 e3 e4
    obtain ⟨b, off, spot⟩ := a
    have hspot : spot = none := by
      obtain ⟨zs, n2, _, _, _, hf0⟩ := hi 0 (by omega)
      obtain ⟨u0, z0, d0, _, _⟩ := hf0 0 _ rfl
      simpa [Addr.add] using World.cell?_spot d0
    subst hspot
    have hadd : ∀ j, (⟨b, off, none⟩ : Addr).add j = ⟨b, off + j, none⟩ := fun j => by unfold Addr.add; split <;> simp_all
    have hb : b < w.heap.size := by have := World.block_lt_of_cell? w _ c0; rwa [hadd] at this
    rw [hadd] at c0 c1 c2 c3 c4
    exact ⟨b, off, x0, x1, x2, x3, B, bn, bc, bl, rfl, ⟨c0, c1, c2, c3, c4, hb, k2, k3, k1, bounds_i64 w1, bounds_i64 w2, bounds_i64 w3⟩, hbn⟩
end
end Go.Proofs.Ytcfaocbdhfmhbaa
