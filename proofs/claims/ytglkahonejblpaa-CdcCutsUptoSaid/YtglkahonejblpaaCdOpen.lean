/-
  How an argument's memory reads: a list of bytes, an integer, Cuts and Two by value. No condition beyond each theorem's own.
-/
import Derived.Test.YtglkahonejblpaaCdBase
import Derived.Test.YtglkahonejblpaaBulk
import Derived.WalkKit
import Derived.ProofKit
import Derived.OpenShut
import Derived.ChangeOld
import Derived.SizedLaws
import Derived.Deep.Slices
import Derived.Deep.Fields
import Derived.ChangeSame
import Derived.ChangeArms
namespace Go.Proofs.Ytglkahonejblpaa
open Go.ChangeShapes Go.WideShapes Go.ChangeAt Go.RowKit Go.Deep

theorem own_ : ownKnob Try.prog.godebug = none := by kernel_rfl
theorem laidOut_ : laidOutB Try.prog = true := by kernel_rfl
theorem cellsU8 : Try.prog.cellsOf 5 = 1 := by kernel_rfl
theorem bytesU8 : Try.prog.bytesOf 5 = 1 := by kernel_rfl

section
variable {H : Type} {enc : TypeId × Value → H} {P : Program} {w : World} {base : Nat} {spare : Nat → Bool} {held : Bool}
theorem trodAll3 {t0 t1 t2 : TypeId} {args : Array Value} {ds : List (DataW H)} {ps : List MemPlace} (h : DataW.TrodAll enc P w base spare held [t0, t1, t2] args.toList ds ps) :
    ∃ v0 v1 v2 d0 d1 d2 p0 p1 p2, args = #[v0, v1, v2] ∧ ds = [d0, d1, d2] ∧ ps = p0 ++ (p1 ++ p2) ∧ DataW.Trod enc P w base spare held t0 v0 d0 p0 ∧ DataW.Trod enc P w base spare held t1 v1 d1 p1 ∧ DataW.Trod enc P w base spare held t2 v2 d2 p2 := by
  obtain ⟨v0, v1, v2, d0, d1, d2, p0, p1, p2, e1, e2, e3, h⟩ := trodAll_three h
  exact ⟨v0, v1, v2, d0, d1, d2, p0, p1, p2, e1, e2, by rw [e3, List.append_assoc], h⟩
end
section
variable {H : Type} {enc : TypeId × Value → H} {w : World} {base b0 : Nat} {held : Bool} {r : Reach}
theorem open_int {t : TypeId} {k : IntKind} {v : Value} {d : DataW H} {p : List MemPlace} {spare : Nat → Bool} (hu : Try.prog.underlying t = some (.int k)) (hv : Value.okWide Try.prog w r b0 t v) (h : DataW.Trod enc Try.prog w base spare held t v d p) :
    ∃ x, v = .int k x ∧ (Lit.int k x).wf = true := by
  obtain ⟨x, rfl⟩ := okWide_int hu hv
  obtain ⟨n, hn⟩ := h
  obtain ⟨y, e, e2, hw⟩ := DataW.trod_int hu hn
  simp [Value.cells] at e
  subst e
  exact ⟨_, rfl, hw⟩
/-- a list of bytes that comes in; its length is that of its reading -/
theorem bytes_trod {fuel : Nat} {cs : List Value} {x : DataW H × List MemPlace} (hf : DataW.trod enc Try.prog w 0 (fun _ => true) held fuel 32 cs = some x) :
    ∃ A n c l, cs = [.slice A n c] ∧ n ≤ c ∧ Rd w 1 A n (bys l) ∧ (0 < n → ∀ ad, A = some ad → ad.block < w.heap.size) ∧ (n = 0 ∨ ∃ es sp, x.1 = .slice es sp ∧ es.length = n) := by
  rcases open_slice Try.underlying32 hf with ⟨hcs, _⟩ | ⟨a, n, m, cap, n', D, Pl, hcs, _, hl, hm, hmm, hx, hi⟩
  · subst hcs
    exact ⟨none, 0, 0, [], rfl, Nat.le_refl _, ⟨rfl, fun h => absurd h (by omega)⟩, (fun _ _ h => by cases h), .inl rfl⟩
  · subst hcs
    have hl' := hl
    simp only [if_true] at hmm
    subst hmm
    rw [cellsU8] at hi
    have cell : ∀ i, i < n → ∃ x : UInt8, w.cell? (a.add i) = some (.int .u8 (x.toNat : Int)) := by
      intro i hin
      obtain ⟨cs', hc, ht⟩ := hi i (by omega)
      obtain ⟨x, e, _, hw⟩ := DataW.trod_int Try.underlying5 ht
      subst e
      obtain ⟨_, _, hat⟩ := World.cells?_some hc
      have h0 := hat 0 (by omega)
      have hw := bounds_u8 hw
      refine ⟨UInt8.ofNat x.toNat, ?_⟩
      have hx : ((UInt8.ofNat x.toNat).toNat : Int) = x := by
        rw [UInt8.toNat_ofNat']; omega
      rw [hx]
      rw [add_add', Nat.mul_one, Nat.add_zero] at h0
      simpa using h0
    have hall : ∃ l : List UInt8, l.length = n ∧ ∀ i x, l[i]? = some x → w.cell? (a.add i) = some (.int .u8 (x.toNat : Int)) := by
      clear hi hf hx
      revert cell
      clear hl
      intro cell
      refine ⟨(List.range n).attach.map fun i => Classical.choose (cell i.1 (List.mem_range.1 i.2)), by simp, fun i x hx => ?_⟩
      have hin : i < n := by
        have := (List.getElem?_eq_some_iff.1 hx).1
        simpa using this
      have := Classical.choose_spec (cell i hin)
      simp [hin] at hx
      rw [← hx]
      exact this
    obtain ⟨l, hll, hlc⟩ := hall
    refine ⟨some a, n, _, l, rfl, hl', ⟨by rw [bys_length]; omega, fun _ => ⟨a, rfl, fun j u hu => ?_⟩⟩, fun h0 ad had => ?_, .inr ⟨_, _, by rw [hx], by simp⟩⟩
    · have hj : j < l.length := by have := (List.getElem?_eq_some_iff.1 hu).1; rwa [bys_length] at this
      rw [bys_get (List.getElem?_eq_getElem hj)] at hu
      cases hu
      exact hlc j _ (List.getElem?_eq_getElem hj)
    · cases had
      obtain ⟨x, hx⟩ := cell 0 h0
      have := World.block_lt_of_cell? w _ hx
      rwa [block_add] at this
/-- a list of bytes that comes in as an argument -/
theorem open_bytes {v : Value} {d : DataW H} {p : List MemPlace} (hv : Value.okWide Try.prog w r b0 32 v) (h : DataW.Trod enc Try.prog w 0 (fun _ => true) held 32 v d p) :
    ∃ A n c l, v = .slice A n c ∧ n ≤ c ∧ Rd w 1 A n (bys l) ∧ (0 < n → ∀ ad, A = some ad → ad.block < w.heap.size) ∧ (n = 0 ∨ ∃ es sp, d = .slice es sp ∧ es.length = n) := by
  obtain ⟨A, n, c, rfl⟩ := okWide_slice Try.underlying32 hv
  obtain ⟨fuel, hf⟩ := h
  obtain ⟨A', n', c', l, hcs, h1⟩ := bytes_trod hf
  simp [Value.cells] at hcs
  obtain ⟨rfl, rfl, rfl⟩ := hcs
  exact ⟨A, n, c, l, rfl, h1⟩
theorem open_agg {t : TypeId} {fs : Array Field} {v : Value} {d : DataW H} {p : List MemPlace} {spare : Nat → Bool} (hu : Try.prog.underlying t = some (.struct fs)) (hv : Value.okWide Try.prog w r b0 t v) (h : DataW.Trod enc Try.prog w base spare held t v d p) :
    ∃ cs : Array Value, v = .agg cs ∧ ∃ n, DataW.trod enc Try.prog w base spare held n t cs.toList = some (d, p) := by
  obtain ⟨cs, rfl, _⟩ := okWide_struct hu hv
  obtain ⟨n, hn⟩ := h
  exact ⟨cs, rfl, n, hn⟩
theorem cellsC : Try.prog.cellsOf 23 = 3 := by kernel_rfl
theorem cellsT : Try.prog.cellsOf 56 = 4 := by kernel_rfl
theorem cellsSl : Try.prog.cellsOf 32 = 1 := by kernel_rfl
theorem cellsI1 : Try.prog.cellsOf 3 = 1 := by kernel_rfl
theorem int_at {n : Nat} {cs : List Value} {i : Nat} {y : Option (DataW H × List MemPlace)} {spare : Nat → Bool} (h : DataW.trod enc Try.prog w base spare held n 3 ((cs.drop i).take (Try.prog.cellsOf 3)) = y) (hy : y.isSome = true) (hi : i < cs.length) : ∃ x, cs[i]? = some (.int .i64 x) ∧ -9223372036854775808 ≤ x ∧ x ≤ 9223372036854775807 := by
  rw [cellsI1] at h
  obtain ⟨y, rfl⟩ := Option.isSome_iff_exists.1 hy
  obtain ⟨x, e, _, hw⟩ := DataW.trod_int Try.underlying3 h
  rw [List.drop_eq_getElem_cons hi, List.take_succ_cons, List.take_zero] at e
  injection e with e
  exact ⟨x, by rw [List.getElem?_eq_getElem hi, e], bounds_i64 hw⟩
/-- Cuts by value -/
theorem open_cuts {v : Value} {d : DataW H} {p : List MemPlace} {spare : Nat → Bool} (hv : Value.okWide Try.prog w r b0 23 v) (h : DataW.Trod enc Try.prog w base spare held 23 v d p) : ∃ x y z : Int, v = .agg #[.int .i64 x, .int .i64 y, .int .i64 z] := by
  obtain ⟨cs, rfl, n, hf⟩ := open_agg Try.underlying23 hv h
  obtain ⟨xs, n', _, _, hlen, hxl, hat⟩ := DataW.trod_struct Try.underlying23 hf
  rw [cellsC] at hlen
  have h0 := hat 0 _ rfl
  have h1 := hat 1 _ rfl
  have h2 := hat 2 _ rfl
  have hxl' : xs.length = 3 := hxl
  obtain ⟨a, e0, _⟩ := int_at (i := 0) h0 (by simp; omega) (by omega)
  obtain ⟨b, e1, _⟩ := int_at (i := 1) h1 (by simp; omega) (by omega)
  obtain ⟨c, e2, _⟩ := int_at (i := 2) h2 (by simp; omega) (by omega)
  refine ⟨a, b, c, ?_⟩
  have e : cs.toList = [.int .i64 a, .int .i64 b, .int .i64 c] := by
    match hcs : cs.toList, hlen with
    | [v0, v1, v2], _ =>
      rw [hcs] at e0 e1 e2
      simp at e0 e1 e2
      rw [e0, e1, e2]
  rw [← Array.toList_inj.1 (show cs.toList = (#[.int .i64 a, .int .i64 b, .int .i64 c] : Array Value).toList from e)]
theorem bytes_at {n : Nat} {cs : List Value} {i : Nat} {y : Option (DataW H × List MemPlace)} (h : DataW.trod enc Try.prog w 0 (fun _ => true) held n 32 ((cs.drop i).take (Try.prog.cellsOf 32)) = y) (hy : y.isSome = true) (hi : i < cs.length) :
    ∃ A n c l, cs[i]? = some (.slice A n c) ∧ n ≤ c ∧ Rd w 1 A n (bys l) ∧ (0 < n → ∀ ad, A = some ad → ad.block < w.heap.size) ∧ (n = 0 ∨ ∃ es sp z, y = some z ∧ z.1 = .slice es sp ∧ es.length = n) := by
  rw [cellsSl] at h
  obtain ⟨y, rfl⟩ := Option.isSome_iff_exists.1 hy
  obtain ⟨A, m, c, l, e, h1, h2, h3, h4⟩ := bytes_trod h
  rw [List.drop_eq_getElem_cons hi, List.take_succ_cons, List.take_zero] at e
  injection e with e
  refine ⟨A, m, c, l, by rw [List.getElem?_eq_getElem hi, e], h1, h2, h3, ?_⟩
  rcases h4 with h4 | ⟨es, sp, h5, h6⟩
  · exact .inl h4
  · exact .inr ⟨es, sp, y, rfl, h5, h6⟩
/-- Two by value: four lists of bytes, none longer than the reading's bulk -/
theorem open_two {v : Value} {d : DataW H} {p : List MemPlace} (hv : Value.okWide Try.prog w r b0 56 v) (h : DataW.Trod enc Try.prog w 0 (fun _ => true) held 56 v d p) (hbk : Rows.uptoBulk d ≤ 1048576) :
    ∃ A an ac la M mn mc lm N nn nc ln B bn bc lb, v = .agg #[.slice A an ac, .slice M mn mc, .slice N nn nc, .slice B bn bc] ∧ (In w A an la ∧ an ≤ 1048576) ∧ (In w M mn lm ∧ mn ≤ 1048576) ∧ (In w N nn ln ∧ nn ≤ 1048576) ∧ (In w B bn lb ∧ bn ≤ 1048576) := by
  obtain ⟨cs, rfl, n, hf⟩ := open_agg Try.underlying56 hv h
  obtain ⟨xs, n', _, hx, hlen, hxl, hat⟩ := DataW.trod_struct Try.underlying56 hf
  rw [cellsT] at hlen
  have hxl' : xs.length = 4 := hxl
  have hd : d = .agg (xs.map (·.1)) := by
    simp only [Prod.mk.injEq] at hx
    exact hx.1
  have hsz : ∀ (i n : Nat), (n = 0 ∨ ∃ es sp z, xs[i]? = some z ∧ z.1 = .slice es sp ∧ es.length = n) → n ≤ 1048576 := by
    intro i n h
    rcases h with h | ⟨es, sp, z, h1, h2, h3⟩
    · omega
    · have s1 := bulks.slice_le es sp
      rw [← h2] at s1
      have s2 : Rows.uptoBulk z.1 ≤ Rows.uptoBulkAll (xs.map (·.1)) := bulks.part_le (List.mem_map.2 ⟨z, List.mem_of_getElem? h1, rfl⟩)
      have s3 := bulks.agg_part (xs.map (·.1))
      rw [← hd] at s3
      omega
  obtain ⟨A, an, ac, la, e0, _, a1, a2, a3⟩ := bytes_at (i := 0) (hat 0 _ rfl) (by simp; omega) (by omega)
  obtain ⟨M, mn, mc, lm, e1, _, b1, b2, b3⟩ := bytes_at (i := 1) (hat 1 _ rfl) (by simp; omega) (by omega)
  obtain ⟨N, nn, nc, ln, e2, _, c1, c2, c3⟩ := bytes_at (i := 2) (hat 2 _ rfl) (by simp; omega) (by omega)
  obtain ⟨B, bn, bc, lb, e3, _, d1, d2, d3⟩ := bytes_at (i := 3) (hat 3 _ rfl) (by simp; omega) (by omega)
  have a4 := hsz _ _ a3
  have b4 := hsz _ _ b3
  have c4 := hsz _ _ c3
  have d4 := hsz _ _ d3
  refine ⟨A, an, ac, la, M, mn, mc, lm, N, nn, nc, ln, B, bn, bc, lb, ?_, ⟨⟨a1, a2, by omega⟩, a4⟩, ⟨⟨b1, b2, by omega⟩, b4⟩, ⟨⟨c1, c2, by omega⟩, c4⟩, ⟨⟨d1, d2, by omega⟩, d4⟩⟩
  have e : cs.toList = [.slice A an ac, .slice M mn mc, .slice N nn nc, .slice B bn bc] := by
    match hcs : cs.toList, hlen with
    | [v0, v1, v2, v3], _ =>
      rw [hcs] at e0 e1 e2 e3
      simp at e0 e1 e2 e3
      rw [e0, e1, e2, e3]
  rw [← Array.toList_inj.1 (show cs.toList = (#[.slice A an ac, .slice M mn mc, .slice N nn nc, .slice B bn bc] : Array Value).toList from e)]
end
end Go.Proofs.Ytglkahonejblpaa
