/-
  How the script of CdcWrites reads. No condition beyond each theorem's own.
-/
import Derived.Test.YtglkahonejblpaaCdOpen
import Derived.Test.YtglkahonejblpaaWsC
namespace Go.Proofs.Ytglkahonejblpaa
open Go.ChangeShapes Go.WideShapes Go.ChangeAt Go.RowKit Go.Deep

section
variable {H : Type} {enc : TypeId × Value → H} {P : Program} {w : World} {base : Nat} {spare : Nat → Bool} {held : Bool}
/-- a slice of structs of one-cell fields, opened: each field of each element lies in its cell -/
theorem open_slice_fields {t e : TypeId} {fs : Array Field} {fuel : Nat} {cs : List Value} {x : DataW H × List MemPlace} (ht : P.underlying t = some (.slice e)) (he : P.underlying e = some (.struct fs))
    (hone : oneCellFields P fs = true) (hC : P.cellsOf e = fs.size) (h : DataW.trod enc P w base spare held fuel t cs = some x) :
    (cs = [.slice none 0 0] ∧ x = (.nil, [])) ∨
    ∃ (a : Addr) (len cap m : Nat) (D : Nat → DataW H) (Pl : Nat → List MemPlace), cs = [.slice (some a) len cap] ∧ base ≤ a.block ∧ len ≤ cap ∧ cap ≤ maxLen ∧ m = (if spare a.block then cap else len) ∧
      x = (.slice ((List.range len).map D) ((List.range (m - len)).map fun j => D (len + j)), MemPlace.row a (m * fs.size) ++ (List.range m).flatMap Pl) ∧
      ∀ i, i < m → ∃ (ys : List (DataW H × List MemPlace)) (n : Nat), D i = .agg (ys.map (·.1)) ∧ Pl i = ys.flatMap (·.2) ∧ ys.length = fs.size ∧
        ∀ (j : Nat) (f : Field), fs[j]? = some f → ∃ (v : Value) (y : DataW H × List MemPlace), w.cell? (a.add (i * fs.size + j)) = some v ∧ ys[j]? = some y ∧ DataW.trod enc P w base spare held n f.type [v] = some y := by
  rcases open_slice ht h with h0 | ⟨a, len, cap, m, n, D, Pl, hcs, hb, hl, hm, hmm, hx, hi⟩
  · exact .inl h0
  · refine .inr ⟨a, len, cap, m, D, Pl, hcs, hb, hl, hm, hmm, by rw [hC] at hx; exact hx, fun i him => ?_⟩
    obtain ⟨cs', hc, ht'⟩ := hi i him
    rw [hC] at hc
    obtain ⟨ys, n', hn', hy, hlen, hyl, hf⟩ := DataW.trod_struct he ht'
    obtain ⟨_, hcl, hat⟩ := World.cells?_some hc
    simp only [Prod.mk.injEq] at hy
    refine ⟨ys, n', hy.1, hy.2, hyl, fun j f hj => ?_⟩
    obtain ⟨ho, hk⟩ := hone_of hone j f hj
    have hjl : j < fs.size := (Array.getElem?_eq_some_iff.1 hj).1
    have hcell := hat j hjl
    have hv : cs'[j]? = some (cs'[j]'(by omega)) := List.getElem?_eq_getElem (by omega)
    have h1 := hf j f hj
    rw [ho, hk] at h1
    have hone' : (cs'.drop j).take 1 = [cs'[j]'(by omega)] := by
      rw [List.drop_eq_getElem_cons (by omega)]
      rfl
    rw [hone'] at h1
    have hys : ys[j]? = some (ys[j]'(by omega)) := List.getElem?_eq_getElem (by omega)
    refine ⟨_, _, ?_, hys, h1.trans hys⟩
    rw [← Go.Deep.add_add, hcell, hv]
end
theorem cellsOp : Try.prog.cellsOf 37 = 2 := by kernel_rfl
theorem bulk_snoc {H : Type} (l : List (DataW H)) (d : DataW H) : Rows.uptoBulkAll (l ++ [d]) = Rows.uptoBulkAll l + Rows.uptoBulk d := by
  induction l with
  | nil => simp [Rows.uptoBulkAll]
  | cons x r ih => rw [List.cons_append, Rows.uptoBulkAll, ih, Rows.uptoBulkAll]; omega
theorem bulk_range {H : Type} (D : Nat → DataW H) (i : Nat) : Rows.uptoBulkAll ((List.range (i + 1)).map D) = Rows.uptoBulkAll ((List.range i).map D) + Rows.uptoBulk (D i) := by
  rw [List.range_succ, List.map_append, List.map_singleton, bulk_snoc]
theorem bulk_mono {H : Type} (D : Nat → DataW H) (i k : Nat) : Rows.uptoBulkAll ((List.range i).map D) ≤ Rows.uptoBulkAll ((List.range (i + k)).map D) := by
  induction k with
  | zero => exact Nat.le_refl _
  | succ k ih => rw [← Nat.add_assoc, bulk_range]; omega
section
variable {H : Type} {enc : TypeId × Value → H} {w : World} {b0 : Nat} {held : Bool} {r : Reach}
theorem open_scr {v : Value} {d : DataW H} {p : List MemPlace} (hv : Value.okWide Try.prog w r b0 24 v) (h : DataW.Trod enc Try.prog w 0 (fun _ => true) held 24 v d p) (hbk : Rows.uptoBulk d ≤ 1048576) :
    ∃ A n c tot, v = .slice A n c ∧ InScr w A n tot ∧ n ≤ 1048576 ∧ (∀ i, i ≤ n → tot i ≤ 1048576) ∧ n ≤ c := by
  obtain ⟨A, n, c, rfl⟩ := okWide_slice Try.underlying24 hv
  obtain ⟨fuel, hf⟩ := h
  rcases open_slice_fields Try.underlying24 Try.underlying37 (by kernel_rfl) cellsOp hf with ⟨hcs, _⟩ | ⟨a, len, cap, m, D, Pl, hcs, _, hl, hm, hmm, hx, hi⟩
  · simp [Value.cells] at hcs
    obtain ⟨rfl, rfl, rfl⟩ := hcs
    exact ⟨none, 0, 0, fun _ => 0, rfl, fun i hi => absurd hi (by omega), by omega, fun _ _ => Nat.zero_le _, by omega⟩
  · simp [Value.cells] at hcs
    obtain ⟨rfl, rfl, rfl⟩ := hcs
    simp only [if_true] at hmm
    subst hmm
    simp only [Prod.mk.injEq] at hx
    have hd := hx.1
    have hsl := bulks.slice_le ((List.range n).map D) ((List.range (m - n)).map fun j => D (n + j))
    rw [← hd, List.length_map, List.length_range] at hsl
    have hpt := bulks.slice_part ((List.range n).map D) ((List.range (m - n)).map fun j => D (n + j))
    rw [← hd] at hpt
    have hT : ∀ i, i ≤ n → Rows.uptoBulkAll ((List.range i).map D) ≤ 1048576 := fun i hin => by
      have := bulk_mono D i (n - i)
      rw [show i + (n - i) = n by omega] at this
      omega
    refine ⟨some a, n, m, fun i => Rows.uptoBulkAll ((List.range i).map D), rfl, fun i hin => ?_, by omega, hT, by omega⟩
    obtain ⟨ys, n', hDi, _, hyl, hf⟩ := hi i (by omega)
    obtain ⟨v0, y0, c0, g0, t0⟩ := hf 0 _ rfl
    obtain ⟨v1, y1, c1, _, t1⟩ := hf 1 _ rfl
    obtain ⟨B, bn, bc, bl, e0, k1, k2, k3, k4⟩ := bytes_trod t0
    obtain ⟨x1, e1, _⟩ := DataW.trod_bool Try.underlying4 t1
    have hbn : bn ≤ Rows.uptoBulk (D i) := by
      rcases k4 with h0 | ⟨es, sp, he, hn⟩
      · omega
      · have s1 := bulks.slice_le es sp
        rw [← he] at s1
        have s2 : Rows.uptoBulk y0.1 ≤ Rows.uptoBulkAll (ys.map (·.1)) := bulks.part_le (List.mem_map.2 ⟨y0, List.mem_of_getElem? g0, rfl⟩)
        have s3 := bulks.agg_part (ys.map (·.1))
        rw [← hDi] at s3
        omega
    simp at e0 e1
    subst e0 e1
    obtain ⟨b, off, spot⟩ := a
    have hspot : spot = none := by
      obtain ⟨zs, n2, _, _, _, hf0⟩ := hi 0 (by omega)
      obtain ⟨u0, z0, d0, _, _⟩ := hf0 0 _ rfl
      simpa [Addr.add] using World.cell?_spot d0
    subst hspot
    have hadd : ∀ j, (⟨b, off, none⟩ : Addr).add j = ⟨b, off + j, none⟩ := fun j => by unfold Addr.add; split <;> simp_all
    have hb : b < w.heap.size := by have := World.block_lt_of_cell? w _ c0; rwa [hadd] at this
    rw [hadd] at c0 c1
    have hr := bulk_range D i
    have hTi := hT (i + 1) (by omega)
    exact ⟨b, off, B, bn, bc, bl, x1, rfl, hb, c0, c1, ⟨k2, k3, by have := hT i (by omega); omega⟩, k1, (show Rows.uptoBulkAll ((List.range i).map D) + bn ≤ Rows.uptoBulkAll ((List.range (i + 1)).map D) by omega), hTi⟩
end
end Go.Proofs.Ytglkahonejblpaa
