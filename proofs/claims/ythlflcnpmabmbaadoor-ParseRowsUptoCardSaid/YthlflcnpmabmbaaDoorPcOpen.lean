/-
  How a Piece by value reads as an argument. No condition beyond each theorem's own.
-/
import Derived.Test.YthlflcnpmabmbaaDoorFiOpen
import Derived.Test.YthlflcnpmabmbaaDoorStOpen
import Derived.Test.YthlflcnpmabmbaaDoorMeG
namespace Go.Proofs.YthlflcnpmabmbaaDoor
open Go.ChangeShapes Go.WideShapes Go.ChangeAt Go.RowKit Go.Deep
set_option maxRecDepth 100000
theorem cellsQ : Tryd.prog.cellsOf 45 = 9 := by kernel_rfl
theorem cellsSl : Tryd.prog.cellsOf 34 = 1 := by kernel_rfl
section
variable {H : Type} {enc : TypeId × Value → H} {w : World} {base b0 : Nat} {held : Bool} {r : Reach}
theorem bytes_at {n : Nat} {cs : List Value} {i : Nat} {y : Option (DataW H × List MemPlace)} (h : DataW.trod enc Tryd.prog w 0 (fun _ => true) held n 34 ((cs.drop i).take (Tryd.prog.cellsOf 34)) = y) (hy : y.isSome = true) (hi : i < cs.length) :
    ∃ A n c l, cs[i]? = some (.slice A n c) ∧ n ≤ c ∧ Rd w 1 A n (bys l) ∧ (0 < n → ∀ ad, A = some ad → ad.block < w.heap.size) ∧ (n = 0 ∨ ∃ es sp z, y = some z ∧ z.1 = .slice es sp ∧ es.length = n) ∧ (n = 0 → A = none ∧ c = 0 ∨ ∃ a, A = some a) := by
  rw [cellsSl] at h
  obtain ⟨y, rfl⟩ := Option.isSome_iff_exists.1 hy
  obtain ⟨A, m, c, l, e, h1, h2, h3, h4, h5⟩ := bytes_trod h
  rw [List.drop_eq_getElem_cons hi, List.take_succ_cons, List.take_zero] at e
  injection e with e
  refine ⟨A, m, c, l, by rw [List.getElem?_eq_getElem hi, e], h1, h2, h3, ?_, h5⟩
  rcases h4 with h4 | ⟨es, sp, h5, h6⟩
  · exact .inl h4
  · exact .inr ⟨es, sp, y, rfl, h5, h6⟩
theorem open_piece {v : Value} {d : DataW H} {p : List MemPlace} (hv : Value.okWide Tryd.prog w r b0 45 v) (h : DataW.Trod enc Tryd.prog w 0 (fun _ => true) held 45 v d p) :
    ∃ A m c l fr tz di s, v = .agg (pcC A m c fr tz di s) ∧ m ≤ c ∧ Rd w 1 A m (bys l) ∧ (0 < m → ∀ ad, A = some ad → ad.block < w.heap.size) ∧ (m = 0 → A = none ∧ c = 0 ∨ ∃ a, A = some a) ∧ (m = 0 ∨ ∃ parts es sp, d = .agg parts ∧ parts[0]? = some (.slice es sp) ∧ es.length = m) := by
  obtain ⟨cs, rfl, n, hf⟩ := open_agg Tryd.underlying45 hv h
  obtain ⟨xs, n', _, hx, hlen, hxl, hat⟩ := DataW.trod_struct Tryd.underlying45 hf
  rw [cellsQ] at hlen
  have hxl' : xs.length = 6 := hxl
  have hd : d = .agg (xs.map (·.1)) := by
    simp only [Prod.mk.injEq] at hx
    exact hx.1
  have h5 : DataW.trod enc Tryd.prog w 0 (fun _ => true) held n' 35 ((cs.toList.drop 5).take (Tryd.prog.cellsOf 35)) = xs[5]? := hat 5 _ rfl
  have hy5 : xs[5]?.isSome = true := by simp; omega
  obtain ⟨y5, hy5⟩ := Option.isSome_iff_exists.1 hy5
  rw [hy5] at h5
  obtain ⟨A, m, c, l, e0, a1, a2, a3, a4, a5⟩ := bytes_at (i := 0) (hat 0 _ rfl) (by simp; omega) (by omega)
  obtain ⟨x1, e1⟩ := int_at3 (i := 1) (hat 1 _ rfl) (by simp; omega) (by omega)
  obtain ⟨x2, e2⟩ := int_at3 (i := 2) (hat 2 _ rfl) (by simp; omega) (by omega)
  obtain ⟨x3, e3⟩ := int_at3 (i := 3) (hat 3 _ rfl) (by simp; omega) (by omega)
  obtain ⟨x4, e4⟩ := int_at3 (i := 4) (hat 4 _ rfl) (by simp; omega) (by omega)
  obtain ⟨ra, rb, rc, rd, e5⟩ := cells_reps (by rw [List.length_take, List.length_drop, c22, hlen]; decide) h5
  refine ⟨A, m, c, l, x1, x2, x3, ⟨x4, ra, rb, rc, rd⟩, ?_, a1, a2, a3, a5, ?_⟩
  · have e : cs.toList = (pcC A m c x1 x2 x3 ⟨x4, ra, rb, rc, rd⟩).toList := by
      match hcs : cs.toList, hlen with
      | [v0, v1, v2, v3, v4, v5, v6, v7, v8], _ =>
        rw [hcs] at e0 e1 e2 e3 e4 e5
        rw [c22] at e5
        simp at e0 e1 e2 e3 e4 e5
        obtain ⟨r0, r1, r2, r3⟩ := e5
        rw [e0, e1, e2, e3, e4, r0, r1, r2, r3]
        rfl
    rw [← Array.toList_inj.1 e]
  · rcases a4 with h | ⟨es, sp, z, h1, h2, h3⟩
    · exact .inl h
    · refine .inr ⟨_, es, sp, hd, ?_, h3⟩
      rw [List.getElem?_map, h1, ← h2]
      rfl
theorem sized_piece {ts : List TypeId} {ds : List (DataW H)} (h : (DataW.weightsEach Tryd.prog ts ds).all (· ≤ reachBytes) = true) {j : Nat} {parts es sp : List (DataW H)} (ht : ts[j]? = some 45) (hd : ds[j]? = some (.agg parts)) (hp : parts[0]? = some (.slice es sp)) : es.length ≤ 140737488351232 := by
  have hfs : ((Tryd.prog.fieldsOf 45).toList.map (·.type))[0]? = some 34 := by kernel_rfl
  have hw : (es.length + sp.length) * Tryd.prog.bytesOf 5 ∈ (DataW.agg parts).weights Tryd.prog 45 := by
    simp only [DataW.weights, Tryd.underlying45]
    exact DataW.weights_mem_each (j := 0) rfl hp _ (by simp [DataW.weights, Tryd.underlying34])
  have := of_decide_eq_true (List.all_eq_true.1 h _ (DataW.weights_mem_each ht hd _ hw))
  rw [bytesU8] at this
  simp only [reachBytes] at this
  omega
end
end Go.Proofs.YthlflcnpmabmbaaDoor
