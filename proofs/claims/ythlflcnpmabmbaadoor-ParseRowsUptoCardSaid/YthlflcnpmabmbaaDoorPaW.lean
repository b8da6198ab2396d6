/-
  Walk of Plan: it answers as a plain function says. Conditions: the data lie in memory, a right piece and dictionary.
-/
import Derived.Test.YthlflcnpmabmbaaDoorPaP
namespace Go.Proofs.YthlflcnpmabmbaaDoor
open Go.RowKit Go.Shelf
attribute [local go_sem] Oper.semAt_some
set_option maxRecDepth 100000

theorem infoint : (Tryd.prog.info? 3).map (fun i => (i.zero, i.size, i.bytes)) = some (some (.int .i64 0), 1, 8) := by kernel_rfl
theorem infoml : (Tryd.prog.info? 86).map (fun i => (i.zero, i.size, i.bytes)) = some (some (.slice none 0 0), 1, 24) := by kernel_rfl
theorem made_one (v : Value) (n : Nat) (h : v.cells = #[v]) : (madeCells v.cells (n * 1)).toList = List.replicate n v := by
  rw [h, Nat.mul_one]
  unfold madeCells
  simp [Nat.mod_one]
  rw [List.eq_replicate_iff]
  simp
theorem syc_rep (n : Nat) (y : Sy) : ∀ j, j < n * 4 → (syc (List.replicate n y))[j]? = (Sy.cs y)[j % 4]? := by
  intro j hj
  have hq : (List.replicate n y)[j / 4]? = some y := by rw [List.getElem?_replicate, if_pos (by omega)]
  obtain ⟨g0, g1, g2, g3⟩ := syc_get hq
  rcases (by omega : j % 4 = 0 ∨ j % 4 = 1 ∨ j % 4 = 2 ∨ j % 4 = 3) with e | e | e | e <;> rw [e]
  · rw [show j = j / 4 * 4 by omega, g0]; rfl
  · rw [show j = j / 4 * 4 + 1 by omega, g1]; rfl
  · rw [show j = j / 4 * 4 + 2 by omega, g2]; rfl
  · rw [show j = j / 4 * 4 + 3 by omega, g3]; rfl
theorem made_sys (n : Nat) : (madeCells (Value.agg #[.int .i64 0, .int .u8 0, .int .i64 0, .int .i64 0]).cells (n * 4)).toList = syc (List.replicate n ⟨0, 0, 0, 0⟩) := by
  have h : (Value.agg #[.int .i64 0, .int .u8 0, .int .i64 0, .int .i64 0]).cells = Sy.cs ⟨0, 0, 0, 0⟩ := rfl
  rw [h]
  apply List.ext_getElem?
  intro j
  by_cases hj : j < n * 4
  · rw [syc_rep n _ j hj]
    unfold madeCells
    have h4 : j % 4 < (Sy.cs ⟨0, 0, 0, 0⟩).size := by show j % 4 < 4; omega
    have hs : (Sy.cs ⟨0, 0, 0, 0⟩).size = 4 := rfl
    rw [Array.getElem?_toList, Array.getElem?_map, Array.getElem?_range, if_pos hj]
    simp only [Option.map_some, hs]
    rw [getElem!_pos (Sy.cs ⟨0, 0, 0, 0⟩) (j % 4) h4, Array.getElem?_eq_getElem h4]
  · rw [List.getElem?_eq_none (by rw [Array.length_toList, size_madeCells]; omega), List.getElem?_eq_none (by rw [syc_length, List.length_replicate]; omega)]
theorem restX_zero (l : List UInt8) (hi : Nat) (dict : Int) (fr n : Nat) : restX (planR l hi dict 0) fr n = List.replicate n (.int .i64 0) := by
  rw [List.eq_replicate_iff]
  exact ⟨restX_len _ _ _, fun b hb => by unfold restX at hb; simp [planR] at hb; exact hb.2.symm⟩
theorem bestX_zero (l : List UInt8) (hi : Nat) (dict : Int) (fr n : Nat) : bestX (planR l hi dict 0) fr n = List.replicate n ⟨0, 0, 0, 0⟩ := by
  rw [List.eq_replicate_iff]
  exact ⟨bestX_len _ _ _, fun b hb => by unfold bestX at hb; simp [planR] at hb; exact hb.2.symm⟩
theorem keep1 {w1 : World} {N g i a : Nat} {v0 : Value} (h : ¬ g = N) : (w1.setCell ⟨N, a, none⟩ v0).cell? ⟨g, i, none⟩ = w1.cell? ⟨g, i, none⟩ := World.cell?_setCell_other w1 _ _ v0 (fun e => h (by first | exact (Addr.mk.inj e).1 | exact (Addr.mk.inj e).1.symm))
theorem keep4 {w1 : World} {N g i a b c d : Nat} {v0 v1 v2 v3 : Value} (h : ¬ g = N) : ((((w1.setCell ⟨N, a, none⟩ v0).setCell ⟨N, b, none⟩ v1).setCell ⟨N, c, none⟩ v2).setCell ⟨N, d, none⟩ v3).cell? ⟨g, i, none⟩ = w1.cell? ⟨g, i, none⟩ := by rw [keep1 h, keep1 h, keep1 h, keep1 h]
/-- the matches of each place -/
def mAt (l : List UInt8) (fr hi : Nat) (dict : Int) (j : Nat) : List (Nat × Nat) := recL (mats l dict (fr + j) (pmost hi (fr + j) : Int))
theorem mAt_le (l : List UInt8) (fr hi : Nat) (dict : Int) (j : Nat) : (mAt l fr hi dict j).length ≤ 32 := Nat.le_trans (recGo_len _) (mats_le _ _ _ _)
theorem mAt_most (l : List UInt8) (fr hi : Nat) (dict : Int) (j : Nat) : ∀ m ∈ mAt l fr hi dict j, m.1 ≤ pmost hi (fr + j) := by
  intro m hm
  obtain ⟨_, _, _, _, h5⟩ := mats_mem (recGo_mem _ m hm)
  unfold lft at h5
  omega
/-- the lists of matches that lie in memory -/
def Rows (M : Nat → List (Nat × Nat)) (D i : Nat) (xs : List Value) (w : World) : Prop := ∀ j, j < i → ∃ L lc, xs[j]? = some (.slice L (M j).length lc) ∧ w.ownsRow D 98 2 (.slice L (M j).length lc) (M j).length (ents (M j))
theorem Rows.below {M : Nat → List (Nat × Nat)} {D i : Nat} {xs : List Value} {w w' : World} (h : Rows M D i xs w) (hb : Below w.heap.size w w') : Rows M D i xs w' := fun j hj => by
  obtain ⟨L, lc, h1, h2⟩ := h j hj
  exact ⟨L, lc, h1, own_below h2 hb⟩
theorem Rows.fr {M : Nat → List (Nat × Nat)} {D i : Nat} {xs : List Value} {w w' : World} {S : Nat → Prop} (h : Rows M D i xs w) (hf : Fr S w w') (hS : ∀ g, D ≤ g → ¬ S g) : Rows M D i xs w' := fun j hj => by
  obtain ⟨L, lc, h1, h2⟩ := h j hj
  exact ⟨L, lc, h1, own_fr h2 hf (fun g hg => hS g (own_lt h2 hg).1)⟩
theorem Rows.snoc {M : Nat → List (Nat × Nat)} {D i : Nat} {xs : List Value} {w : World} {L : Option Addr} {lc : Nat} (h : Rows M D i xs w) (hi : i < xs.length) (ho : w.ownsRow D 98 2 (.slice L (M i).length lc) (M i).length (ents (M i))) : Rows M D (i + 1) (xs.set i (.slice L (M i).length lc)) w := fun j hj => by
  by_cases he : j = i
  · subst he
    exact ⟨L, lc, by rw [List.getElem?_set_self hi], ho⟩
  · obtain ⟨L', lc', h1, h2⟩ := h j (by omega)
    exact ⟨L', lc', by rw [List.getElem?_set_ne (by omega)]; exact h1, h2⟩
set_option maxHeartbeats 8000000 in
theorem Plan_ok (A : Option Addr) (m c : Nat) (l : List UInt8) (fr hi : Nat) (dict : Int) (w : World) (h : In w A m l) (h0 : m = 0 → A = none ∧ c = 0 ∨ ∃ a, A = some a) (hmc : m ≤ c) (hm : m ≤ 1048576) (h1 : fr ≤ hi) (h2 : hi ≤ m) (hd : 1 ≤ dict ∧ dict ≤ 4294967295) (hl : Laid w) :
    Calls Tryd.prog 15 #[.slice A m c, .int .i64 fr, .int .i64 hi, .int .i64 dict] w fun e w' => ∃ L lc, e = .returned (.tuple #[.slice L (planL l fr hi dict).length lc, .int .i64 0]) ∧ w'.ownsRow w.heap.size 24 4 (.slice L (planL l fr hi dict).length lc) (planL l fr hi dict).length (syc (planL l fr hi dict)) ∧ Below w.heap.size w w' := by
  obtain ⟨i0, hi0, hz0, hz1, hz2⟩ := info_parts infosy
  obtain ⟨i1, hi1, hy0, hy1, hy2⟩ := info_parts infoint
  obtain ⟨i2, hi2, hx0, hx1, hx2⟩ := info_parts infoml
  have HL := Lib.hid hl
  have hadB : Hid (0 < m → ∀ ad, A = some ad → ad.block < w.heap.size) := h.2.1
  have hlen : Hid (l.length = m) := h.len
  obtain ⟨B, hB⟩ : ∃ B, w.heap.size = B := ⟨_, rfl⟩
  obtain ⟨w1, hw1⟩ : ∃ w1, w.alloc (.cells #[.int .i64 fr] 3) = w1 := ⟨_, rfl⟩
  have hb1 : Below w.heap.size w w1 := by rw [← hw1]; exact (Below.refl _ _).alloc (Nat.le_refl _) _
  have hS1 : Blk w1 B 3 #[.int .i64 fr] := by rw [← hw1]; exact Blk.new_at hB.symm
  have hz1' : w1.heap.size = B + 1 := by rw [← hw1, World.size_alloc, hB]
  have hc1 := hS1.one
  have HN := Lib.hid (newPiece_ok A m c l fr hi dict w1 (h.below hb1) h0 hmc (by omega) h1 h2 hd)
  have H1 := Lib.hid (And.intro hb1 (And.intro hS1 hz1'))
  have HBe := Lib.hid hB
  obtain ⟨n, hn⟩ : ∃ n, hi - fr = n := ⟨_, rfl⟩
  have hnI : (hi : Int) - (fr : Int) = (n : Int) := by omega
  have hfn : fr + n = hi := by omega
  clear hl h h0 hb1 hS1 hz1' hn
  go_enter Tryd.func15, Tryd.ntmps15
  go_wp2_with fail
  refine HN.out.mono ?_
  rintro e w2 ⟨⟨q, cb, A', m', c', l', hi', dict'⟩, rfl, e1, e2, e3, e4, e5, e6, hqL, hcb, hP, hb2⟩
  simp only [] at e1 e2 e3 e4 e5 e6 hqL hcb
  subst e1 e2 e3 e4 e5 e6
  have hF2 := (H1.out.2.1.below hb2).one
  have HW2 := Lib.hid (And.intro (H1.out.2.1.below hb2) (And.intro hP (And.intro (bup H1.out.1 hb2) (And.intro hqL hcb))))
  clear hqL hcb hP hb2 HN hw1 hB
  go_wp2_with (at_make; refine wpList_make_full w2 rfl (.tmp 34) (.tmp 34) 85 rfl w2.heap.size 86 i2 _ 1 Tryd.underlying85 hi2 hx0 hx1 .i64 .i64 n n n rfl rfl rfl rfl (by rw [hx2]; omega) (by unfold maxLen; omega) (Nat.le_refl _) ?_; intro w3 hown3 hg3)
  rw [made_one _ _ rfl] at hown3
  obtain ⟨AB, hAB⟩ : ∃ AB, w2.heap.size = AB := ⟨_, rfl⟩
  obtain ⟨D, hD⟩ : ∃ D, w3.heap.size = D := ⟨_, rfl⟩
  rw [hAB] at hown3 ⊢
  have hb23 : Below w2.heap.size w2 w3 := ((Fr.refl (fun _ => False) w2).grown hg3 (fun g h => by cases h)).below (Nat.le_refl _) (fun k h => h.elim)
  obtain ⟨g1, g2, g3, g4, g5⟩ := HW2.out
  have hor1 := g2.or1
  have hfs := g2.f.fs
  simp only [] at hor1 hfs
  have hABD : AB < D := by have := (own_lt hown3 (g := AB) rfl).2; omega
  have HO : Hid (B < q.L ∧ q.fb < cb ∧ q.L ≤ cb ∧ cb < AB ∧ AB < D ∧ w.heap.size = B ∧ q.L ≤ q.fb) := ⟨by have := H1.out.2.2; omega, by omega, by omega, by omega, hABD, HBe.out, by omega⟩
  have HW3 := Lib.hid (And.intro hown3 (And.intro (g1.below hb23) (And.intro (g2.below hb23) (And.intro (bup g3 hb23) hD))))
  clear hown3 hg3 hb23 g1 g2 g3 g4 g5 hor1 hfs hABD HW2 hF2 hD H1 HBe hAB
  go_loopw [38] (fun s38 wr => ∃ (i : Nat) (xs : List Value), s38 = .int .i64 (i : Int) ∧ i ≤ n ∧ Hid (xs.length = n ∧ wr.ownsRow AB 86 1 (.slice (some ⟨AB, 0, none⟩) n n) n xs ∧ PIn ⟨q, cb, A', m', c', l', hi', dict'⟩ (fr + i) wr ∧ Blk wr B 3 #[.int .i64 fr] ∧ Rows (mAt l' fr hi' dict') D i xs wr ∧ Below w.heap.size w wr ∧ D ≤ wr.heap.size)) (fun s38 _ => n - (intOf s38).toNat)
  case atStart => exact ⟨0, _, rfl, Nat.zero_le _, List.length_replicate, HW3.out.1, HW3.out.2.2.1, HW3.out.2.1, fun j hj => absurd hj (Nat.not_lt_zero j), HW3.out.2.2.2.1, by have := HW3.out.2.2.2.2; omega⟩
  case round =>
    clear HW3
    obtain ⟨i, xs, rfl, hi, HI⟩ := hrel
    by_cases hlt : i < n
    · have hlt' : (i : Int) < (n : Int) := by omega
      obtain ⟨k1, k2, k3, k4, k5, k6, k7⟩ := HI.out
      have hql : q.l = l' := k3.ql
      have hll : l'.length = m' := k3.len
      have HSt := steps_any ⟨q, cb, A', m', c', l', hi', dict'⟩ (fr + i) wr k3 (by show fr + i < hi'; omega)
      simp only [] at HSt
      have hmx := mAt_le l' fr hi' dict' i
      have hM : recL (mats l' dict' (fr + i) (pmost hi' (fr + i) : Int)) = mAt l' fr hi' dict' i := rfl
      rw [hM, show ((fr + i : Nat) : Int) = (fr : Int) + (i : Int) by omega] at HSt
      have HSk : Hid (∀ W, PIn ⟨q, cb, A', m', c', l', hi', dict'⟩ (fr + i) W → Calls Tryd.prog 29 #[.pointer (some ⟨q.fb, 0, none⟩), .int .i64 1] W fun en w' => en = .returned (.int .i64 0) ∧ PIn ⟨q, cb, A', m', c', l', hi', dict'⟩ (fr + (i + 1)) w' ∧ Fr (fun g => g = q.fb) W w') := fun W hW => by
        refine (Skip_go q (fr + i) 1 W hW.f (by rw [hql, hll]; omega) (by rw [hql, hll]; omega)).mono ?_
        rintro en w' ⟨r1, r2, r3⟩
        exact ⟨r1, hW.skip r3 r2, r3⟩
      have HSt := Lib.hid HSt
      have cB := k4.one
      clear k1 k2 k3 k4 k5 k6 k7 hM hmx
      go_wp2_with fail
      refine HSt.out.mono ?_
      rintro e w4 ⟨L, lc, rfl, hRow, hb4⟩
      obtain ⟨k1, k2, k3, k4, k5, k6, k7⟩ := HI.out
      obtain ⟨o1, o2, o3, o4, o5, o6, o7⟩ := HO.out
      have k2' := own_below k2 hb4
      have c1 : w4.cell? ⟨AB, i, none⟩ = some (xs.getD i (.int .i64 0)) := by
        rw [k2'.cellAt (g := AB) (cap := n) i (by omega), List.getD_eq_getElem?_getD, List.getElem?_eq_getElem (by omega)]; rfl
      have f1 := k2'.frozenAt (g := AB) (cap := n) i
      obtain ⟨mm, hmm⟩ : ∃ mm, mAt l' fr hi' dict' i = mm := ⟨_, rfl⟩
      rw [hmm] at hRow
      obtain ⟨w5, hw5⟩ : ∃ w5, w4.setCell ⟨AB, i, none⟩ (.slice L mm.length lc) = w5 := ⟨_, rfl⟩
      have hF5 : Fr (fun g => g = AB) w4 w5 := by rw [← hw5]; exact (Fr.refl (fun g => g = AB) w4).setCell (p := ⟨AB, i, none⟩) (.inl rfl) _
      have h5 : Hid ((xs.set i (.slice L mm.length lc)).length = n ∧ w5.ownsRow AB 86 1 (.slice (some ⟨AB, 0, none⟩) n n) n (xs.set i (.slice L mm.length lc)) ∧ PIn ⟨q, cb, A', m', c', l', hi', dict'⟩ (fr + i) w5 ∧ Blk w5 B 3 #[.int .i64 fr] ∧ Rows (mAt l' fr hi' dict') D (i + 1) (xs.set i (.slice L mm.length lc)) w5 ∧ Below w.heap.size w w5 ∧ D ≤ w5.heap.size) := by
        refine ⟨by rw [List.length_set]; exact k1, by rw [← hw5]; exact own_set k2' i _, (k3.below hb4).fr2 hF5 (fun g h1 h2 e => by simp only [] at h2; omega) (fun h0 ad had e => by have := hadB.out h0 ad had; omega), (k4.below hb4).fr hF5 (by omega), ?_, (bup k6 hb4).trans (hF5.below (bup k6 hb4).size (fun g e => by omega)), by have := hb4.size; have := hF5.size; omega⟩
        subst hmm
        exact (Rows.snoc (k5.below hb4) (by omega) (own_mono hRow k7)).fr hF5 (fun g hg e => by omega)
      clear k1 k2 k3 k4 k5 k6 k7 k2' hF5 hRow hb4 HSt HI
      go_upto_region 10 with (fail)
      have x3 : w5.cell? ⟨cb, 3, none⟩ = some (.pointer (some ⟨q.fb, 0, none⟩)) := h5.out.2.2.1.b.cell 3
      clear hw5 c1 f1
      go_wp2_with fail
      refine (HSk.out w5 h5.out.2.2.1).mono ?_
      rintro e w6 ⟨rfl, hP6, hF6⟩
      have h6 : Hid ((xs.set i (.slice L mm.length lc)).length = n ∧ w6.ownsRow AB 86 1 (.slice (some ⟨AB, 0, none⟩) n n) n (xs.set i (.slice L mm.length lc)) ∧ PIn ⟨q, cb, A', m', c', l', hi', dict'⟩ (fr + (i + 1)) w6 ∧ Blk w6 B 3 #[.int .i64 fr] ∧ Rows (mAt l' fr hi' dict') D (i + 1) (xs.set i (.slice L mm.length lc)) w6 ∧ Below w.heap.size w w6 ∧ D ≤ w6.heap.size) := by
        obtain ⟨k1, k2, k3, k4, k5, k6, k7⟩ := h5.out
        exact ⟨k1, own_fr k2 hF6 (fun g hg e => by have hq : AB = g := Option.some.inj hg; omega), hP6, k4.fr hF6 (by omega), k5.fr hF6 (fun g hg e => by omega), k6.trans (hF6.below k6.size (fun g e => by omega)), by have := hF6.size; omega⟩
      clear hP6 hF6 h5 HSk x3
      go_wp2_with fail
      go_roundw
      case rel => exact ⟨i + 1, _, by go_num, by omega, h6.out⟩
      case measure => simp [intOf]; omega
    · obtain rfl : i = n := by omega
      have hge : ¬ (i : Int) < (i : Int) := by omega
      obtain ⟨wE, rfl⟩ : ∃ wE, wE = wr := ⟨_, rfl⟩
      obtain ⟨k1, k2, k3, k4, k5, k6, k7⟩ := HI.out
      have H := Lib.hid (And.intro k1 (And.intro k2 (And.intro k3 (And.intro k4 (And.intro k5 (And.intro k6 k7))))))
      have hx := Lib.hid hi
      clear k1 k2 k3 k4 k5 k6 k7 HI hi
      obtain ⟨E, hE⟩ : ∃ E, wE.heap.size = E := ⟨_, rfl⟩
      have hDE : D ≤ E := by have := H.out.2.2.2.2.2.2; omega
      go_upto_region 13 with (at_make; refine wpList_make_full wE rfl (.tmp 56) (.tmp 56) 61 rfl wE.heap.size 3 i1 _ 1 Tryd.underlying61 hi1 hy0 hy1 .i64 .i64 (i + 1) (i + 1) (i + 1) rfl rfl rfl rfl (by rw [hy2]; omega) (by unfold maxLen; omega) (Nat.le_refl _) ?_; intro w4 hown4 hg4)
      rw [made_one _ _ rfl, ← restX_zero l' hi' dict' fr (i + 1)] at hown4
      rw [hE] at hown4
      have hb4 : Below wE.heap.size wE w4 := ((Fr.refl (fun _ => False) wE).grown hg4 (fun g h => by cases h)).below (Nat.le_refl _) (fun k h => h.elim)
      obtain ⟨X, hX⟩ : ∃ X, w4.heap.size = X := ⟨_, rfl⟩
      have hEX : E < X := by have := (own_lt hown4 (g := E) rfl).2; omega
      obtain ⟨w5, hw5⟩ : ∃ w5, w4.alloc (.cells #[.slice (some ⟨E, 0, none⟩) (i + 1) (i + 1)] 61) = w5 := ⟨_, rfl⟩
      rw [hw5, hX]
      have hb5 : Below w4.heap.size w4 w5 := by rw [← hw5]; exact (Below.refl _ _).alloc (Nat.le_refl _) _
      have hX5 : Blk w5 X 61 #[.slice (some ⟨E, 0, none⟩) (i + 1) (i + 1)] := by rw [← hw5]; exact Blk.new_at hX.symm
      have hz5 : w5.heap.size = X + 1 := by rw [← hw5, World.size_alloc, hX]
      have H5 := Lib.hid (And.intro (bup hb4 hb5) (And.intro hX5 (own_below hown4 hb5)))
      have hEl := Lib.hid hE
      clear hb4 hb5 hown4 hg4 hw5 hX hX5 hE
      go_upto_region 15 with (at_make; refine wpList_make_full w5 rfl (.tmp 58) (.tmp 58) 22 rfl w5.heap.size 24 i0 _ 4 Tryd.underlying22 hi0 hz0 hz1 .i64 .i64 i i i rfl rfl rfl rfl (by rw [hz2]; omega) (by unfold maxLen; omega) (Nat.le_refl _) ?_; intro w6 hown6 hg6)
      rw [made_sys, ← bestX_zero l' hi' dict' fr i, hz5] at hown6
      have hb6 : Below w5.heap.size w5 w6 := ((Fr.refl (fun _ => False) w5).grown hg6 (fun g h => by cases h)).below (Nat.le_refl _) (fun k h => h.elim)
      have h6 : Hid (Below wE.heap.size wE w6 ∧ Blk w6 X 61 #[.slice (some ⟨E, 0, none⟩) (i + 1) (i + 1)] ∧ w6.ownsRow E 3 1 (.slice (some ⟨E, 0, none⟩) (i + 1) (i + 1)) (i + 1) (restX (planR l' hi' dict' 0) fr (i + 1)) ∧ w6.ownsRow (X + 1) 24 4 (.slice (some ⟨X + 1, 0, none⟩) i i) i (syc (bestX (planR l' hi' dict' 0) fr i))) := ⟨bup H5.out.1 hb6, H5.out.2.1.below hb6, own_below H5.out.2.2 hb6, hown6⟩
      clear H5 hb6 hown6 hg6
      go_loopw [17] (fun s17 wr => ∃ (k : Nat) (x : Int), s17 = .int .i64 x ∧ x + (k : Int) + 1 = (i : Int) ∧ k ≤ i ∧ Hid (Below wE.heap.size wE wr ∧ Blk wr X 61 #[.slice (some ⟨E, 0, none⟩) (i + 1) (i + 1)] ∧ wr.ownsRow E 3 1 (.slice (some ⟨E, 0, none⟩) (i + 1) (i + 1)) (i + 1) (restX (planR l' hi' dict' k) fr (i + 1)) ∧ wr.ownsRow (X + 1) 24 4 (.slice (some ⟨X + 1, 0, none⟩) i i) i (syc (bestX (planR l' hi' dict' k) fr i)))) (fun s17 _ => (intOf s17 + 1).toNat)
      case atStart => exact ⟨0, (i : Int) - 1, rfl, by omega, Nat.zero_le _, h6.out⟩
      case round =>
        clear h6
        obtain ⟨k, xi, rfl, hxk, hk, HJ⟩ := hrel
        by_cases hki : k < i
        · obtain ⟨j, rfl⟩ : ∃ j : Nat, xi = (j : Int) := ⟨xi.toNat, by omega⟩
          have hjk : j + k + 1 = i := by omega
          have hj0 : (0 : Int) ≤ (j : Int) := by omega
          have hji : (j : Int) < (i : Int) := by omega
          have hji1 : (j : Int) < (i : Int) + 1 := by omega
          obtain ⟨k1, k2, k3, k4, k5, k6, k7⟩ := H.out
          obtain ⟨o1, o2, o3, o4, o5, o6, o7⟩ := HO.out
          obtain ⟨j1, j2, j3, j4⟩ := HJ.out
          obtain ⟨L, lc, hxs, hrow⟩ := k5 j (by omega)
          have a0 : wr.cell? ⟨AB, j, none⟩ = some (.slice L (mAt l' fr hi' dict' j).length lc) := by
            rw [(own_below k2 j1).cellAt (g := AB) (cap := i) j (by omega)]; exact hxs
          have b0 : wr.cell? ⟨B, 0, none⟩ = some (.int .i64 fr) := (k4.below j1).one
          have x0 := j2.one
          have hnew : planR l' hi' dict' (k + 1) (fr + j) = cheapL (fun t => (planR l' hi' dict' k t).2) (fr + j) (l'.getD (fr + j) 0) (mAt l' fr hi' dict' j) := planR_new l' hi' dict' k (fr + j) (by omega)
          have HCh : Hid (∀ W, Below wr.heap.size wr W → Calls Tryd.prog 45 #[.pointer (some ⟨cb, 0, none⟩), .int .i64 ((fr : Int) + (j : Int)), .slice L (mAt l' fr hi' dict' j).length lc, .func (.func 46) #[] #[.pointer (some ⟨X, 0, none⟩), .pointer (some ⟨B, 0, none⟩)]] W fun e w' => e = .returned (.tuple #[(planR l' hi' dict' (k + 1) (fr + j)).1.v, .int .i64 (planR l' hi' dict' (k + 1) (fr + j)).2]) ∧ Below W.heap.size W w') := fun W hW => by
            rw [hnew, show (fr : Int) + (j : Int) = ((fr + j : Nat) : Int) by omega]
            have hbW := bup j1 hW
            exact cheapest_any ⟨q, cb, A', m', c', l', hi', dict'⟩ (fr + i) (fr + j) (mAt l' fr hi' dict' j) L lc D X B (fun t => (planR l' hi' dict' k t).2) W (k3.below hbW) (by show fr + j < hi'; omega) (own_below hrow hbW) (mAt_le _ _ _ _ _) (mAt_most l' fr hi' dict' j) (fun t => by have := planR_bd l' hi' dict' k t; omega)
              (fun W' hW' t h1 h2 => by
                have hbW' := bup hW hW'
                exact behind_any l' hi' dict' k fr (i + 1) t X B E (i + 1) W' (j2.below hbW') ((k4.below j1).below hbW') (own_below j3 hbW') (by simp only [] at h2; omega) (by omega)) (HL.out.below (bup k6 hbW))
          obtain ⟨⟨yv, pv⟩, hyp⟩ : ∃ y, planR l' hi' dict' (k + 1) (fr + j) = y := ⟨_, rfl⟩
          rw [hyp] at HCh
          obtain ⟨yk, yy, yl, yx⟩ := yv
          unfold Sy.v Sy.cs at HCh
          simp only [] at HCh
          obtain ⟨ml, hml⟩ : ∃ ml, (mAt l' fr hi' dict' j).length = ml := ⟨_, rfl⟩
          rw [hml] at HCh a0
          have HC5 : Hid (∀ W, Below wr.heap.size wr W → (W.cell? ⟨X, 0, none⟩ = some (.slice (some ⟨E, 0, none⟩) (i + 1) (i + 1)) ∧ W.cell? ⟨B, 0, none⟩ = some (.int .i64 fr) ∧ W.cell? ⟨AB, j, none⟩ = some (.slice L ml lc)) ∧ ((∃ v, W.cell? ⟨E, j, none⟩ = some v) ∧ W.frozen? ⟨E, j, none⟩ = false) ∧ (∃ v0 v1 v2 v3, W.cell? ⟨X + 1, j * 4, none⟩ = some v0 ∧ W.cell? ⟨X + 1, j * 4 + 1, none⟩ = some v1 ∧ W.cell? ⟨X + 1, j * 4 + 2, none⟩ = some v2 ∧ W.cell? ⟨X + 1, j * 4 + 3, none⟩ = some v3) ∧ W.frozen? ⟨X + 1, j * 4, none⟩ = false ∧ W.frozen? ⟨X + 1, j * 4 + 1, none⟩ = false ∧ W.frozen? ⟨X + 1, j * 4 + 2, none⟩ = false ∧ W.frozen? ⟨X + 1, j * 4 + 3, none⟩ = false) := fun W hW => by
            have hE := own_below j3 hW
            have hY := own_below j4 hW
            obtain ⟨g0, g1, g2, g3⟩ := syc_get (bestX_get (planR l' hi' dict' k) fr i j (by omega))
            refine ⟨⟨(j2.below hW).one, ((k4.below j1).below hW).one, ?_⟩, ⟨⟨_, (hE.cellAt (g := E) (cap := i + 1) j (by omega)).trans (restX_get _ _ _ _ (by omega))⟩, hE.frozenAt (g := E) (cap := i + 1) j⟩, ⟨_, _, _, _, (hY.cellAt (g := X + 1) (cap := i) _ (by omega)).trans g0, (hY.cellAt (g := X + 1) (cap := i) _ (by omega)).trans g1, (hY.cellAt (g := X + 1) (cap := i) _ (by omega)).trans g2, (hY.cellAt (g := X + 1) (cap := i) _ (by omega)).trans g3⟩, hY.frozenAt (g := X + 1) (cap := i) _, hY.frozenAt (g := X + 1) (cap := i) _, hY.frozenAt (g := X + 1) (cap := i) _, hY.frozenAt (g := X + 1) (cap := i) _⟩
            rw [(own_below (own_below k2 j1) hW).cellAt (g := AB) (cap := i) j (by omega), ← hml]; exact hxs
          have Hyp := Lib.hid hyp
          have Hhx := Lib.hid (And.intro hxs hrow)
          have Hml := Lib.hid hml
          have hwr : IntKind.i64.wrap ((fr : Int) + (j : Int)) = (fr : Int) + (j : Int) := IntWalk.i64_in _ (by omega)
          have n1 : ¬ E = X + 1 := by omega
          have n2 : ¬ X + 1 = E := by omega
          have n3 : ¬ X = E := by omega
          have n4 : ¬ X = X + 1 := by omega
          have n5 : ¬ B = E := by omega
          have n6 : ¬ B = X + 1 := by omega
          have n7 : ¬ AB = E := by omega
          have n8 : ¬ AB = X + 1 := by omega
          clear k1 k2 k3 k4 k5 k6 k7 j1 j2 j3 j4 hnew hyp hxs hrow hml
          go_upto_region 17 with (fail)
          go_region_held3 (fun w' => w'.cell? ⟨X, 0, none⟩ = some (.slice (some ⟨E, 0, none⟩) (i + 1) (i + 1)) ∧ w'.cell? ⟨B, 0, none⟩ = some (.int .i64 fr) ∧ w'.cell? ⟨AB, j, none⟩ = some (.slice L ml lc))
            (first | (with_reducible exact ⟨x0, b0, a0⟩) | (with_reducible exact ⟨p1, p2, p3⟩) | (with_reducible exact ⟨(keep4 n4).trans p1, (keep4 n6).trans p2, (keep4 n8).trans p3⟩) | (with_reducible exact ⟨(keep1 n3).trans p1, (keep1 n5).trans p2, (keep1 n7).trans p3⟩) | (with_reducible exact ⟨(keep1 n3).trans ((keep4 n4).trans p1), (keep1 n5).trans ((keep4 n6).trans p2), (keep1 n7).trans ((keep4 n8).trans p3)⟩) | (with_reducible exact ⟨(keep4 n4).trans ((keep1 n3).trans p1), (keep4 n6).trans ((keep1 n5).trans p2), (keep4 n8).trans ((keep1 n7).trans p3)⟩) | go_keep)
            (first | (go_at_call 45; refine (HCh.out _ (Below.refl _ _).drew).mono ?_; rintro en wc ⟨rfl, hbc⟩; have hbw : Below wr.heap.size wr wc := (by with_reducible exact bd1 hbc); obtain ⟨⟨p1, p2, p3⟩, ⟨⟨ve, q1⟩, q2⟩, ⟨v0, v1, v2, v3, r0, r1, r2, r3⟩, f0, f1, f2, f3⟩ := HC5.out wc hbw))
          go_wp2_with fail
          go_roundw
          case rel =>
            obtain ⟨j1, j2, j3, j4⟩ := HJ.out
            obtain ⟨o1, o2, o3, o4, o5, o6, o7⟩ := HO.out
            have hEl' := hEl.out
            have j1' := bup j1 hbw
            have hFs : Fr (fun g => g = X + 1 ∨ g = E) wc (((((wc.setCell ⟨X + 1, j * 4, none⟩ (.int .i64 yk)).setCell ⟨X + 1, j * 4 + 1, none⟩ (.int .u8 (yy.toNat : Int))).setCell ⟨X + 1, j * 4 + 2, none⟩ (.int .i64 yl)).setCell ⟨X + 1, j * 4 + 3, none⟩ (.int .i64 yx)).setCell ⟨E, j, none⟩ (.int .i64 pv)) :=
              (((((Fr.refl (fun g => g = X + 1 ∨ g = E) wc).setCell (p := ⟨X + 1, j * 4, none⟩) (.inl (.inl rfl)) _).setCell (p := ⟨X + 1, j * 4 + 1, none⟩) (.inl (.inl rfl)) _).setCell (p := ⟨X + 1, j * 4 + 2, none⟩) (.inl (.inl rfl)) _).setCell (p := ⟨X + 1, j * 4 + 3, none⟩) (.inl (.inl rfl)) _).setCell (p := ⟨E, j, none⟩) (.inl (.inr rfl)) _
            have hq1 : some E ≠ (Value.slice (some ⟨X + 1, 0, none⟩) i i).ownBlock := fun e => n1 (Option.some.inj e)
            have hq2 : some (X + 1) ≠ (Value.slice (some ⟨E, 0, none⟩) (i + 1) (i + 1)).ownBlock := fun e => n2 (Option.some.inj e)
            refine ⟨k + 1, (j : Int) - 1, by go_num, by omega, by omega, j1'.trans (hFs.below j1'.size (fun g e => by omega)), (j2.below hbw).fr hFs (by omega), ?_, ?_⟩
            · have := own_set (own_far (own_far (own_far (own_far (own_below j3 hbw) (p := ⟨X + 1, j * 4, none⟩) hq2 (.int .i64 yk)) (p := ⟨X + 1, j * 4 + 1, none⟩) hq2 (.int .u8 (yy.toNat : Int))) (p := ⟨X + 1, j * 4 + 2, none⟩) hq2 (.int .i64 yl)) (p := ⟨X + 1, j * 4 + 3, none⟩) hq2 (.int .i64 yx)) j (.int .i64 pv)
              have e := restX_set l' hi' dict' fr k j (i + 1) (by omega) (by omega)
              rw [Hyp.out] at e
              rw [← e]
              exact this
            · have := own_far (own_set (own_set (own_set (own_set (own_below j4 hbw) (j * 4) (.int .i64 yk)) (j * 4 + 1) (.int .u8 (yy.toNat : Int))) (j * 4 + 2) (.int .i64 yl)) (j * 4 + 3) (.int .i64 yx)) (p := ⟨E, j, none⟩) hq1 (.int .i64 pv)
              have e := bestX_set l' hi' dict' fr k j i (by omega) (by omega)
              rw [Hyp.out] at e
              rw [← e, ← syc_set]
              exact this
          case measure => simp [intOf]
        · obtain rfl : k = i := by omega
          have hneg : ¬ (0 : Int) ≤ xi := by omega
          obtain ⟨j1, j2, j3, j4⟩ := HJ.out
          have H4 := Lib.hid (And.intro j1 j4)
          clear j1 j2 j3 j4 HJ hxk hk hki
          obtain ⟨wJ, rfl⟩ : ∃ wJ, wJ = wr := ⟨_, rfl⟩
          obtain ⟨G, hG⟩ : ∃ G, wJ.heap.size = G := ⟨_, rfl⟩
          have hXG : X + 1 < G := by have := (own_lt H4.out.2 (g := X + 1) rfl).2; omega
          have HG := Lib.hid hG
          clear hG
          obtain ⟨T, hT⟩ : ∃ T, (fun p => (planT l' hi' dict' p).1) = T := ⟨_, rfl⟩
          have HT0 : Hid (planL l' fr hi' dict' = pathGo T hi' (hi' - fr) fr) := by rw [← hT]; rfl
          have HTy : Hid (∀ p, p < hi' → p + ysz (T p) ≤ hi') := fun p hp => by rw [← hT]; exact planT_ysz l' hi' dict' p hp
          have HTb : Hid (bestX (planR l' hi' dict' k) fr k = (List.range k).map fun j => T (fr + j)) := by
            show _ = _
            unfold bestX
            apply List.map_congr_left
            intro a ha
            rw [← hT, planR_T l' hi' dict' k (fr + a) (by omega)]
          have H5 : Hid (wJ.ownsRow (X + 1) 24 4 (.slice (some ⟨X + 1, 0, none⟩) k k) k (syc ((List.range k).map fun j => T (fr + j)))) := by rw [← HTb.out]; exact H4.out.2
          obtain ⟨PL, hPL⟩ : ∃ PL, planL l' fr hi' dict' = PL := ⟨_, rfl⟩
          rw [hPL] at HT0
          have HPL := Lib.hid hPL
          clear hT HTb hPL
          go_upto_region 19 with (fail)
          go_wp2_with fail
          go_loopw [18, 19] (fun s18 s19 wr => ∃ (a : Nat) (acc : List Sy) (L : Option Addr) (lc : Nat), s18 = .slice L acc.length lc ∧ s19 = .int .i64 (a : Int) ∧ a ≤ k ∧ acc.length ≤ a ∧ Hid (PL = acc ++ pathGo T hi' (hi' - (fr + a)) (fr + a) ∧ wr.ownsRow G 24 4 (.slice L acc.length lc) acc.length (syc acc) ∧ wr.ownsRow (X + 1) 24 4 (.slice (some ⟨X + 1, 0, none⟩) k k) k (syc ((List.range k).map fun j => T (fr + j))) ∧ Below wE.heap.size wE wr ∧ G ≤ wr.heap.size)) (fun _ s19 _ => k - (intOf s19).toNat)
          case atStart => exact ⟨0, [], none, 0, rfl, rfl, Nat.zero_le _, Nat.zero_le _, HT0.out, World.ownsRow_nil _ _ _ _, H5.out, H4.out.1, by have := HG.out; omega⟩
          case round =>
            clear H4 H5 HT0 HG
            obtain ⟨a, acc, L, lc, rfl, rfl, hak, haa, HK⟩ := hrel
            by_cases hlt : a < k
            · have hlt' : (a : Int) < (k : Int) := by omega
              obtain ⟨k1, k2, k3, k4, k5⟩ := HK.out
              have hpa : fr + a < hi' := by omega
              rw [path_step T hi' (fr + a) hpa] at k1
              have hz := HTy.out (fr + a) hpa
              have hg : ((List.range k).map fun j => T (fr + j))[a]? = some (T (fr + a)) := by simp [hlt]
              obtain ⟨g0, g1, g2, g3⟩ := syc_get hg
              have hyi := ysz_int (T (fr + a))
              have hyp := ysz_pos (T (fr + a))
              obtain ⟨y, hy⟩ : ∃ y, T (fr + a) = y := ⟨_, rfl⟩
              rw [hy] at k1 hz g0 g1 g2 g3 hyi hyp
              obtain ⟨z, hzz⟩ : ∃ z, ysz y = z := ⟨_, rfl⟩
              rw [hzz] at k1 hz hyi hyp
              obtain ⟨yk, yy, yl, yx⟩ := y
              simp only [] at g0 g1 g2 g3 hyi
              have b0 := (k3.cellAt (g := X + 1) (cap := k) (a * 4) (by omega)).trans g0
              have b1 := (k3.cellAt (g := X + 1) (cap := k) (a * 4 + 1) (by omega)).trans g1
              have b2 := (k3.cellAt (g := X + 1) (cap := k) (a * 4 + 2) (by omega)).trans g2
              have b3 := (k3.cellAt (g := X + 1) (cap := k) (a * 4 + 3) (by omega)).trans g3
              have HG4 : Hid ((syc ((List.range k).map fun j => T (fr + j)))[a * 4]? = some (.int .i64 yk) ∧ (syc ((List.range k).map fun j => T (fr + j)))[a * 4 + 1]? = some (.int .u8 (yy.toNat : Int)) ∧ (syc ((List.range k).map fun j => T (fr + j)))[a * 4 + 2]? = some (.int .i64 yl) ∧ (syc ((List.range k).map fun j => T (fr + j)))[a * 4 + 3]? = some (.int .i64 yx)) := ⟨g0, g1, g2, g3⟩
              have HK2 := Lib.hid (And.intro k2 (And.intro k3 (And.intro k4 k5)))
              have HP : Hid (PL = (acc ++ [⟨yk, yy, yl, yx⟩]) ++ pathGo T hi' (hi' - (fr + (a + z))) (fr + (a + z))) := by
                show _ = _
                rw [k1, List.append_assoc]
                rw [show fr + a + z = fr + (a + z) by omega]
                rfl
              have HSz := Lib.hid (fun (W : World) => size_any yk yl yx yy W)
              rw [← hyi] at HSz
              have hsc : syc (acc ++ [⟨yk, yy, yl, yx⟩]) = syc acc ++ syc [⟨yk, yy, yl, yx⟩] := syc_append _ _
              have Hsc := Lib.hid hsc
              have Hzz := Lib.hid (And.intro hzz (And.intro hy hyi))
              have hGw := k5
              clear k1 k2 k3 k4 k5 HK hg g0 g1 g2 g3 hsc hzz hy hyi
              go_upto_region 21 with (at_builtin; refine wpList_append_rd (w := wr.alloc (.cells #[.int .i64 yk, .int .u8 (yy.toNat : Int), .int .i64 yl, .int .i64 yx] 24)) rfl (.tmp 95) (.tmp 100) 22 rfl G 24 i0 _ 4 32 Tryd.underlying22 hi0 hz0 hz1 hz2 rfl (by decide) (.slice L acc.length lc) acc.length (syc acc) rfl (HK2.out.1.alloc _) (some ⟨wr.heap.size, 0, none⟩) 1 1 (syc [⟨yk, yy, yl, yx⟩]) rfl (Rd.of_blk (Blk.new _ _ _) rfl rfl) (syc_one _) (by simp only [maxLen]; omega) (by omega) (by simp; omega) ?_; intro L2 lc2 we hown hg hat)
              obtain ⟨k2, k3, k4, k5⟩ := HK2.out
              have hEl' := hEl.out
              have hFe : Fr (fun g => some g = (Value.slice L acc.length lc).ownBlock) wr we := ((Fr.refl _ wr).alloc _).grown hg (fun g hg' => .inl hg'.symm)
              have hol : ∀ g, some g = (Value.slice L acc.length lc).ownBlock → G ≤ g := fun g e => (own_lt k2 e.symm).1
              have k3e := own_fr k3 hFe (fun g hg' e => by have := hol _ e; have hq : X + 1 = g := Option.some.inj hg'; omega)
              have k4e : Below wE.heap.size wE we := k4.trans (hFe.below k4.size (fun g e => by have := hol _ e; omega))
              have b0' := (k3e.cellAt (g := X + 1) (cap := k) (a * 4) (by omega)).trans HG4.out.1
              have b1' := (k3e.cellAt (g := X + 1) (cap := k) (a * 4 + 1) (by omega)).trans HG4.out.2.1
              have b2' := (k3e.cellAt (g := X + 1) (cap := k) (a * 4 + 2) (by omega)).trans HG4.out.2.2.1
              have b3' := (k3e.cellAt (g := X + 1) (cap := k) (a * 4 + 3) (by omega)).trans HG4.out.2.2.2
              rw [← Hsc.out] at hown
              have HE := Lib.hid (And.intro hown (And.intro k3e (And.intro k4e (show G ≤ we.heap.size from Nat.le_trans hGw hFe.size))))
              clear k2 k3 k4 k5 hFe hol k3e k4e hown hg hat b0 b1 b2 b3 HK2 HG4
              go_wp2_with fail
              refine (HSz.out _).mono ?_
              rintro en ws ⟨rfl, hbs⟩
              go_wp2_with fail
              go_roundw
              case rel =>
                obtain ⟨k2, k3, k4, k5⟩ := HE.out
                refine ⟨a + z, acc ++ [⟨yk, yy, yl, yx⟩], L2, lc2, by rw [List.length_append]; rfl, by go_num, by omega, by rw [List.length_append]; simp only [List.length_cons, List.length_nil]; omega, HP.out, ?_, own_below k3 hbs, bup k4 hbs, Nat.le_trans k5 hbs.size⟩
                rw [List.length_append]
                exact own_below k2 hbs
              case measure => simp [intOf]; omega
            · have hge : ¬ (a : Int) < (k : Int) := by omega
              obtain ⟨k1, k2, k3, k4, k5⟩ := HK.out
              rw [path_done T hi' (fr + a) (by omega), List.append_nil] at k1
              have HF := Lib.hid (And.intro k1 (And.intro k2 k4))
              clear k1 k2 k3 k4 k5 HK
              go_wp2_with fail
              go_ret2
              obtain ⟨rfl, k2, k4⟩ := HF.out
              obtain ⟨c1, c2, c3, c4, c5, c6, c7⟩ := H.out
              rw [HPL.out]
              have hB := HO.out.2.2.2.2.2.1
              exact ⟨L, lc, rfl, own_mono k2 (by have := HO.out; have := hEl.out; omega), bup c6 k4⟩
end Go.Proofs.YthlflcnpmabmbaaDoor
