/-
  Lists of symbols: as cells in memory, as an argument. No condition beyond each theorem's own.
-/
import Derived.Test.YthcgchkcanhmnaaDoorStFn
import Derived.Test.YthcgchkcanhmnaaDoorStOpenY
import Derived.Test.YthcgchkcanhmnaaDoorFresh
import Derived.Deep.Slices
namespace Go.Proofs.YthcgchkcanhmnaaDoor
open Go.RowKit Go.ChangeShapes Go.WideShapes Go.ChangeAt Go.Deep

/-- the cells of symbols, one behind the other -/
def syc : List Sy → List Value
  | [] => []
  | y :: r => .int .i64 y.k :: .int .u8 (y.y.toNat : Int) :: .int .i64 y.l :: .int .i64 y.x :: syc r
theorem syc_length (l : List Sy) : (syc l).length = l.length * 4 := by
  induction l with
  | nil => rfl
  | cons y r ih => simp only [syc, List.length_cons, ih]; omega
theorem syc_append (l r : List Sy) : syc (l ++ r) = syc l ++ syc r := by
  induction l with
  | nil => rfl
  | cons y l ih => simp only [syc, List.cons_append, ih]
theorem syc_one (l : List Sy) : ∀ u ∈ syc l, u.oneCell' = true := by
  induction l with
  | nil => intro u h; cases h
  | cons y r ih =>
    intro u h
    simp only [syc, List.mem_cons] at h
    rcases h with rfl | rfl | rfl | rfl | h
    · rfl
    · rfl
    · rfl
    · rfl
    · exact ih u h
theorem syc_get {l : List Sy} {i : Nat} {y : Sy} (h : l[i]? = some y) : (syc l)[i * 4]? = some (.int .i64 y.k) ∧ (syc l)[i * 4 + 1]? = some (.int .u8 (y.y.toNat : Int)) ∧ (syc l)[i * 4 + 2]? = some (.int .i64 y.l) ∧ (syc l)[i * 4 + 3]? = some (.int .i64 y.x) := by
  induction l generalizing i with
  | nil => simp at h
  | cons z r ih =>
    cases i with
    | zero =>
      simp at h
      subst h
      exact ⟨rfl, rfl, rfl, rfl⟩
    | succ i =>
      simp at h
      have := ih h
      have e : (i + 1) * 4 = i * 4 + 1 + 1 + 1 + 1 := by omega
      rw [e]
      simp only [syc, List.getElem?_cons_succ, show i * 4 + 1 + 1 + 1 + 1 + 1 = (i * 4 + 1) + 1 + 1 + 1 + 1 from rfl, show i * 4 + 1 + 1 + 1 + 1 + 2 = (i * 4 + 2) + 1 + 1 + 1 + 1 by omega, show i * 4 + 1 + 1 + 1 + 1 + 3 = (i * 4 + 3) + 1 + 1 + 1 + 1 by omega]
      exact this
/-- symbols that come in: they lie in w -/
def InS (w : World) (A : Option Addr) (n : Nat) (l : List Sy) : Prop := Rd w 4 A n (syc l) ∧ (0 < n → ∀ ad, A = some ad → ad.block < w.heap.size ∧ ad.spot = none) ∧ n ≤ 1048600
section
variable {w w' : World} {A : Option Addr} {n c : Nat} {l : List Sy}
theorem InS.len (h : InS w A n l) : l.length = n := by have := h.1.1; rw [syc_length] at this; omega
theorem InS.fr {S : Nat → Prop} (h : InS w A n l) (hf : Fr S w w') (hS : 0 < n → ∀ ad, A = some ad → ¬ S ad.block) : InS w' A n l :=
  ⟨h.1.keep0 fun h0 ad had => hf.block _ (h.2.1 h0 ad had).1 (hS h0 ad had), fun h0 ad had => ⟨Nat.lt_of_lt_of_le (h.2.1 h0 ad had).1 hf.size, (h.2.1 h0 ad had).2⟩, h.2.2⟩
theorem InS.below (h : InS w A n l) (hb : Below w.heap.size w w') : InS w' A n l :=
  h.fr (S := fun _ => False) ⟨hb.os, hb.tape, hb.output, hb.size, fun k hk _ => hb.block k hk⟩ fun _ _ _ e => e
theorem InS.nil (w : World) : InS w none 0 [] := ⟨⟨rfl, fun h => absurd h (by omega)⟩, (fun _ _ h => by cases h), by omega⟩
theorem InS.take {k : Nat} (h : InS w A n l) (hk : k ≤ n) : InS w A k (l.take k) := by
  refine ⟨?_, fun h0 => h.2.1 (by omega), by have := h.2.2; omega⟩
  have := h.1.take hk
  have e : (syc l).take (k * 4) = syc (l.take k) := by
    rw [show syc l = syc (l.take k) ++ syc (l.drop k) by rw [← syc_append, List.take_append_drop]]
    rw [List.take_append_of_le_length (by rw [syc_length, List.length_take, h.len]; omega), List.take_of_length_le (by rw [syc_length, List.length_take]; omega)]
  rwa [e] at this
theorem InS.at (h : InS w A n l) {i : Nat} (hi : i < n) : ∃ b off y, A = some ⟨b, off, none⟩ ∧ l[i]? = some y ∧ b < w.heap.size ∧ w.cell? ⟨b, off + i * 4, none⟩ = some (.int .i64 y.k) ∧ w.cell? ⟨b, off + (i * 4 + 1), none⟩ = some (.int .u8 (y.y.toNat : Int)) ∧ w.cell? ⟨b, off + (i * 4 + 2), none⟩ = some (.int .i64 y.l) ∧ w.cell? ⟨b, off + (i * 4 + 3), none⟩ = some (.int .i64 y.x) := by
  obtain ⟨⟨b, off, sp⟩, rfl, hc⟩ := h.1.2 (by omega)
  have hl := h.len
  have hs := (h.2.1 (by omega) _ rfl)
  have e : sp = none := hs.2
  subst e
  have hy : l[i]? = some l[i] := List.getElem?_eq_getElem (by omega)
  obtain ⟨g0, g1, g2, g3⟩ := syc_get hy
  have hadd : ∀ j, (⟨b, off, none⟩ : Addr).add j = ⟨b, off + j, none⟩ := fun j => by unfold Addr.add; split <;> simp_all
  have a0 := hc _ _ g0
  have a1 := hc _ _ g1
  have a2 := hc _ _ g2
  have a3 := hc _ _ g3
  rw [hadd] at a0 a1 a2 a3
  exact ⟨b, off, _, rfl, hy, hs.1, a0, a1, a2, a3⟩
end
section
variable {H : Type} {enc : TypeId × Value → H} {w : World} {b0 : Nat} {held : Bool} {r : Reach}
theorem byte_at5 {n : Nat} {cs : List Value} {i : Nat} {y : Option (DataW H × List MemPlace)} (h : DataW.trod enc Tryd.prog w 0 (fun _ => true) held n 5 ((cs.drop i).take (Tryd.prog.cellsOf 5)) = y) (hy : y.isSome = true) (hi : i < cs.length) : ∃ x : UInt8, cs[i]? = some (.int .u8 (x.toNat : Int)) := by
  rw [c05] at h
  obtain ⟨y, rfl⟩ := Option.isSome_iff_exists.1 hy
  obtain ⟨x, e, _, hw⟩ := DataW.trod_int Tryd.underlying5 h
  rw [List.drop_eq_getElem_cons hi, List.take_succ_cons, List.take_zero] at e
  injection e with e
  have hw := bounds_u8 hw
  refine ⟨UInt8.ofNat x.toNat, ?_⟩
  have hx : ((UInt8.ofNat x.toNat).toNat : Int) = x := by
    rw [UInt8.toNat_ofNat']; omega
  rw [hx]
  rw [List.getElem?_eq_getElem hi, e]
theorem cells_sy {n : Nat} {cs : List Value} {x : DataW H × List MemPlace} (hf : DataW.trod enc Tryd.prog w 0 (fun _ => true) held n 38 cs = some x) : ∃ y : Sy, cs = y.cs.toList := by
  obtain ⟨xs, n', _, _, hlen, hxl, hat⟩ := DataW.trod_struct Tryd.underlying38 hf
  rw [c24] at hlen
  have h0 := hat 0 _ rfl
  have h1 := hat 1 _ rfl
  have h2 := hat 2 _ rfl
  have h3 := hat 3 _ rfl
  have hxl' : xs.length = 4 := hxl
  obtain ⟨a, e0⟩ := int_at3 (i := 0) h0 (by simp; omega) (by omega)
  obtain ⟨b, e1⟩ := byte_at5 (i := 1) h1 (by simp; omega) (by omega)
  obtain ⟨c, e2⟩ := int_at3 (i := 2) h2 (by simp; omega) (by omega)
  obtain ⟨d, e3⟩ := int_at3 (i := 3) h3 (by simp; omega) (by omega)
  match cs, hlen, e0, e1, e2, e3 with
  | [v0, v1, v2, v3], _, e0, e1, e2, e3 =>
    simp at e0 e1 e2 e3
    exact ⟨⟨a, b, c, d⟩, by rw [e0, e1, e2, e3]; rfl⟩
/-- a list of symbols that comes in as an argument -/
theorem open_sys {v : Value} {d : DataW H} {p : List MemPlace} (hv : Value.okWide Tryd.prog w r b0 24 v) (h : DataW.Trod enc Tryd.prog w 0 (fun _ => true) held 24 v d p) :
    ∃ A n c l, v = .slice A n c ∧ n ≤ c ∧ Rd w 4 A n (syc l) ∧ (0 < n → ∀ ad, A = some ad → ad.block < w.heap.size ∧ ad.spot = none) ∧ (n = 0 ∨ ∃ es sp, d = .slice es sp ∧ es.length = n) := by
  obtain ⟨A, n, c, rfl⟩ := okWide_slice Tryd.underlying24 hv
  obtain ⟨fuel, hf⟩ := h
  rcases open_slice Tryd.underlying24 hf with ⟨hcs, _⟩ | ⟨a, len, cap, m, n', D, Pl, hcs, _, hl, hm, hmm, hx, hi⟩
  · simp [Value.cells] at hcs
    obtain ⟨rfl, rfl, rfl⟩ := hcs
    exact ⟨none, 0, 0, [], rfl, Nat.le_refl _, ⟨rfl, fun h => absurd h (by omega)⟩, (fun _ _ h => by cases h), .inl rfl⟩
  · simp [Value.cells] at hcs
    obtain ⟨rfl, rfl, rfl⟩ := hcs
    simp only [if_true] at hmm
    subst hmm
    have cell : ∀ i, i < n → ∃ y : Sy, w.cell? (a.add (i * 4)) = some (.int .i64 y.k) ∧ w.cell? (a.add (i * 4 + 1)) = some (.int .u8 (y.y.toNat : Int)) ∧ w.cell? (a.add (i * 4 + 2)) = some (.int .i64 y.l) ∧ w.cell? (a.add (i * 4 + 3)) = some (.int .i64 y.x) := by
      intro i hin
      obtain ⟨cs', hc, ht⟩ := hi i (by omega)
      obtain ⟨y, rfl⟩ := cells_sy ht
      rw [c24] at hc
      obtain ⟨_, _, hat⟩ := World.cells?_some hc
      have h0 := hat 0 (by omega)
      have h1 := hat 1 (by omega)
      have h2 := hat 2 (by omega)
      have h3 := hat 3 (by omega)
      rw [add_add'] at h0 h1 h2 h3
      exact ⟨y, by simpa [Sy.cs] using h0, by simpa [Sy.cs] using h1, by simpa [Sy.cs] using h2, by simpa [Sy.cs] using h3⟩
    have hall : ∃ l : List Sy, l.length = n ∧ ∀ i y, l[i]? = some y → w.cell? (a.add (i * 4)) = some (.int .i64 y.k) ∧ w.cell? (a.add (i * 4 + 1)) = some (.int .u8 (y.y.toNat : Int)) ∧ w.cell? (a.add (i * 4 + 2)) = some (.int .i64 y.l) ∧ w.cell? (a.add (i * 4 + 3)) = some (.int .i64 y.x) := by
      clear hi hf hx
      revert cell
      clear hl
      intro cell
      refine ⟨(List.range n).attach.map fun i => Classical.choose (cell i.1 (List.mem_range.1 i.2)), by simp, fun i x hx => ?_⟩
      have hin : i < n := by
        have := (List.getElem?_eq_some_iff.1 hx).1
        simpa using this
      have := Classical.choose_spec (cell i hin)
      simp [hin] at hx
      rw [← hx]
      exact this
    obtain ⟨l, hll, hlc⟩ := hall
    refine ⟨some a, n, _, l, rfl, hl, ⟨by rw [syc_length]; omega, fun _ => ⟨a, rfl, fun j u hu => ?_⟩⟩, fun h0 ad had => ?_, .inr ⟨_, _, by simp only [Prod.mk.injEq] at hx; exact hx.1, by simp⟩⟩
    · have hj : j < l.length * 4 := by have := (List.getElem?_eq_some_iff.1 hu).1; rwa [syc_length] at this
      have hg : l[j / 4]? = some l[j / 4] := List.getElem?_eq_getElem (by omega)
      obtain ⟨g0, g1, g2, g3⟩ := syc_get hg
      obtain ⟨c0, c1, c2, c3⟩ := hlc _ _ hg
      have hj4 : j = j / 4 * 4 ∨ j = j / 4 * 4 + 1 ∨ j = j / 4 * 4 + 2 ∨ j = j / 4 * 4 + 3 := by omega
      rcases hj4 with e | e | e | e
      · rw [e] at hu ⊢; rw [g0] at hu; cases hu; exact c0
      · rw [e] at hu ⊢; rw [g1] at hu; cases hu; exact c1
      · rw [e] at hu ⊢; rw [g2] at hu; cases hu; exact c2
      · rw [e] at hu ⊢; rw [g3] at hu; cases hu; exact c3
    · cases had
      obtain ⟨y, h1, _⟩ := cell 0 h0
      have := World.block_lt_of_cell? w _ h1
      rw [block_add] at this
      refine ⟨this, ?_⟩
      obtain ⟨b, off, spot⟩ := a
      simpa [Addr.add] using World.cell?_spot h1
end
end Go.Proofs.YthcgchkcanhmnaaDoor
