
/-
  Walk: the law WindowRows returns true, whatever the bytes and the numbers; nothing that was there is written. Conditions: the bytes lie in memory.
-/
import Derived.Test.YtcfaocbdhfmhbaaMade
import Derived.Test.YtcfaocbdhfmhbaaStr
namespace Go.Proofs.Ytcfaocbdhfmhbaa
open Go.RowKit

theorem ext_add (d a m : Nat) (l : List UInt8) : ext d (a + m) l = ext d m (ext d a l) := by
  induction m with
  | zero => rfl
  | succ m ih =>
    show (let l' := ext d (a + m) l; l' ++ [l'.getD (l'.length - d) 0]) = (let l' := ext d m (ext d a l); l' ++ [l'.getD (l'.length - d) 0])
    rw [ih]
theorem ext_get_old (d n : Nat) (l : List UInt8) {i : Nat} (h : i < l.length) : (ext d n l)[i]? = l[i]? := by
  induction n with
  | zero => rfl
  | succ n ih =>
    show (ext d n l ++ [_])[i]? = _
    rw [List.getElem?_append_left (by rw [ext_length]; omega), ih]
theorem ext_get (d n : Nat) (l : List UInt8) (h1 : 1 ≤ d) (h2 : d ≤ l.length) : ∀ i, i < n → (ext d n l)[l.length + i]? = (ext d n l)[l.length + i - d]? := by
  induction n with
  | zero => intro i hi; omega
  | succ n ih =>
    intro i hi
    show (ext d n l ++ [_])[_]? = (ext d n l ++ [_])[_]?
    have hl := ext_length d n l
    by_cases e : i = n
    · subst e
      rw [List.getElem?_append_right (by omega), hl, Nat.sub_self, List.getElem?_append_left (by rw [hl]; omega)]
      have h5 : l.length + i - d < (ext d i l).length := by rw [hl]; omega
      rw [List.getD_eq_getElem?_getD, List.getElem?_eq_getElem h5]
      rfl
    · rw [List.getElem?_append_left (by omega), List.getElem?_append_left (by omega)]
      exact ih i (by omega)
theorem ext_prefix (d n : Nat) (l : List UInt8) : (ext d n l).take l.length = l := by
  induction n with
  | zero => exact List.take_length
  | succ n ih => show (ext d n l ++ [_]).take _ = _; rw [List.take_append_of_le_length (by rw [ext_length]; omega), ih]
theorem rows_two (d a m : Nat) (l : List UInt8) : (ext d (a + m) l).drop l.length = (ext d a l).drop l.length ++ (ext d m (ext d a l)).drop (ext d a l).length := by
  rw [ext_add]
  conv => lhs; rw [← List.take_append_drop (ext d a l).length (ext d m (ext d a l)), ext_prefix]
  rw [List.drop_append_of_le_length (by rw [ext_length]; omega)]
theorem rows_new (d n : Nat) (l : List UInt8) (h1 : 1 ≤ d) (h2 : d ≤ l.length) {i : Nat} (hi : i < n) (hd : i < d) : ((ext d n l).drop l.length)[i]? = l[l.length - d + i]? := by
  rw [List.getElem?_drop, ext_get d n l h1 h2 i hi, ext_get_old _ _ _ (by omega)]
  congr 1; omega
theorem rows_old (d n : Nat) (l : List UInt8) (h1 : 1 ≤ d) (h2 : d ≤ l.length) {i : Nat} (hi : i < n) (hd : ¬ i < d) : ((ext d n l).drop l.length)[i]? = ((ext d n l).drop l.length)[i - d]? := by
  rw [List.getElem?_drop, ext_get d n l h1 h2 i hi, List.getElem?_drop]
  congr 1; omega

theorem CopyRel.below {B b size : Nat} {r : Option Nat} {all : List UInt8} {d k c : Nat} {A : Option Addr} {r' : Option Nat} {w wr : World} (h : CopyRel B b size r all d w k A c r' wr) (hw : Win w B b r size all) {C : Nat} (hC : C ≤ B) : Below C w wr :=
  h.fr.below (by have := hw.base; have := hw.lt.1; omega) fun k hk => by
    rcases hk with rfl | hk
    · have := hw.base; omega
    · have := (hw.lt.2 k hk.symm).1; omega
/-- the numbers with which the law goes on -/
def RowsGood (n : Nat) (a m : Int) : Prop := 0 < n ∧ n ≤ 2000 ∧ 0 ≤ a ∧ 0 ≤ m ∧ a ≤ 273 ∧ m ≤ 273 - a
set_option maxHeartbeats 1000000 in
theorem rows_out (A : Option Addr) (n c : Nat) (l : List UInt8) (dist a m : Int) (w : World) (h : In w A n l) (hg : ¬ RowsGood n a m) :
    Calls Try.prog 3 #[.slice A n c, .int .i64 dist, .int .i64 a, .int .i64 m] w fun e w' => e = .returned (.bool true) ∧ Below w.heap.size w w' := by
  have Hg := Lib.hid hg
  have hn := h.2.2
  clear hg
  go_enter Try.func3, Try.ntmps3
  go_wp2_with fail
  refine (made_any 2000 A n c l w h).mono ?_
  rintro e w1 ⟨r1, rfl, hW1, hb1⟩
  have Hb1 := Lib.hid hb1
  clear hW1 hb1
  go_wp2_with fail
  refine (made_any 2000 A n c l w1 (h.below Hb1.out)).mono ?_
  rintro e w2 ⟨r2, rfl, hW2, hb2⟩
  have Hb2 := Lib.hid hb2
  clear hW2 hb2
  have Hbb : Hid (Below w.heap.size w w2) := Hb1.out.trans (Hb2.out.mono Hb1.out.size)
  clear Hb1 Hb2
  go_upto_if 55 with (fail)
  all_goals go_wp2_with fail
  all_goals first | (go_ret; exact ⟨rfl, Hbb.out⟩) | (exfalso; exact Hg.out ⟨by omega, by omega, by omega, by omega, by omega, by omega⟩)

set_option maxHeartbeats 2000000 in
set_option maxRecDepth 100000 in
theorem rows_good (A : Option Addr) (n c : Nat) (l : List UInt8) (dist : Int) (a m : Nat) (w : World) (h : In w A n l) (h0 : 0 < n) (hn : n ≤ 2000) (ham : a + m ≤ 273) :
    Calls Try.prog 3 #[.slice A n c, .int .i64 dist, .int .i64 (a : Int), .int .i64 (m : Int)] w fun e w' => e = .returned (.bool true) ∧ Below w.heap.size w w' := by
  obtain ⟨bb, off, rfl, hcb⟩ := h.1.cells_at h0
  have Hbb : Hid (bb < w.heap.size) := h.2.1 h0 _ rfl
  have Hcb := Lib.hid hcb
  clear hcb
  have hl := Lib.hid h.len
  have g0 : ((n : Int) == 0) = false := beq_eq_false_iff_ne.2 (by omega)
  have g1 : (n : Int) ≤ 2000 := by omega
  have g2 : (m : Int) ≤ 273 - (a : Int) := by omega
  have g3 : (a : Int) + (m : Int) ≤ 273 := by omega
  have t1 : -(n : Int) < dist.tmod n := by have := Int.lt_tmod_of_pos dist (b := (n : Int)) (by omega); omega
  have t2 : dist.tmod n < (n : Int) := Int.tmod_lt_of_pos dist (by omega)
  go_enter Try.func3, Try.ntmps3
  go_wp2_with fail
  refine (made_any 2000 _ n c l w h).mono ?_
  rintro e w1 ⟨r1, rfl, hW1, hb1⟩
  have HW1 := Lib.hid hW1
  have Hb1 := Lib.hid hb1
  clear hW1 hb1
  go_wp2_with fail
  refine (made_any 2000 _ n c l w1 (h.below Hb1.out)).mono ?_
  rintro e w2 ⟨r2, rfl, hW2, hb2⟩
  have HW2 := Lib.hid hW2
  have Hb2 := Lib.hid hb2
  clear hW2 hb2
  go_upto_if 61 with (fail)
  go_cut [11] (fun s11 wx => ∃ d : Nat, s11 = .int .i64 (d : Int) ∧ d < n ∧ w2 = wx)
  case first =>
    by_cases hs : dist.tmod n < 0
    · obtain ⟨d, hd⟩ : ∃ d : Nat, (d : Int) = -dist.tmod n := ⟨(-dist.tmod n).toNat, by omega⟩
      go_wp2_with fail
      go_meet
      exact ⟨d, by rw [hd], by omega, rfl⟩
    · obtain ⟨d, hd⟩ : ∃ d : Nat, (d : Int) = dist.tmod n := ⟨(dist.tmod n).toNat, by omega⟩
      go_wp2_with fail
      go_meet
      exact ⟨d, by rw [hd], by omega, rfl⟩
  case rest =>
    obtain ⟨d0, rfl, hd0, rfl⟩ := hcut
    obtain ⟨d, hd⟩ : ∃ d, d = d0 + 1 := ⟨_, rfl⟩
    have hdx : (d0 : Int) + 1 = (d : Int) := by omega
    have hd1 : 1 ≤ d := by omega
    have hd2 : d ≤ n := by omega
    clear t1 t2 hd
    obtain ⟨N, hN⟩ : ∃ N, N = a + m := ⟨_, rfl⟩
    have hNx : (a : Int) + (m : Int) = (N : Int) := by omega
    have HN := Lib.hid hN
    clear hN
    have hll : full 2000 l = n := by unfold full; rw [hl.out]; omega
    have Hll := Lib.hid hll
    clear hll
    have hlen : l.length < 4611686018427380000 := by rw [hl.out]; omega
    have Hlen := Lib.hid hlen
    clear hlen
    have hWa : Win w2 w.heap.size w.heap.size r1 2000 l := HW1.out.below Hb2.out
    have Hs1 : Hid (∀ k, (k = w.heap.size ∨ some k = r1) → k < w1.heap.size) := by
      intro k hk
      rcases hk with rfl | hk
      · exact HW1.out.lt.1
      · exact (HW1.out.lt.2 k hk.symm).2
    have Hwa := Lib.hid hWa
    clear hWa
    go_wp2_with fail
    refine (Copy_yes w.heap.size w.heap.size 2000 r1 l d N w2 Hwa.out hd1 (by rw [Hll.out]; exact hd2) (by have := HN.out; omega) Hlen.out).mono ?_
    rintro e w3 ⟨A1, c1, r3, rfl, R1⟩
    have hWb : Win w3 w1.heap.size w1.heap.size r2 2000 l := HW2.out.fr R1.fr (fun hk => by have := Hs1.out _ hk; omega) (fun g hg hk => by have := Hs1.out _ hk; have := (HW2.out.lt.2 g hg).1; omega)
    have Hwb := Lib.hid hWb
    have HR1 := Lib.hid R1
    clear hWb R1
    go_wp2_with fail
    refine (Copy_yes w1.heap.size w1.heap.size 2000 r2 l d a w3 Hwb.out hd1 (by rw [Hll.out]; exact hd2) (by have := HN.out; omega) Hlen.out).mono ?_
    rintro e w4 ⟨A2, c2, r4, rfl, R2⟩
    have HR2 := Lib.hid R2
    clear R2
    go_wp2_with fail
    refine (Copy_yes w1.heap.size w1.heap.size 2000 r4 (ext d a l) d m w4 HR2.out.win hd1 (by have := full_ext d a 2000 l; rw [Hll.out] at this; omega) (by have := HN.out; omega) (by rw [ext_length]; have := hl.out; omega)).mono ?_
    rintro e w5 ⟨A3, c3, r5, rfl, R3⟩
    have HR3 := Lib.hid R3
    clear R3
    have hs23 : w2.heap.size ≤ w3.heap.size := HR1.out.fr.size
    have hs34 : w3.heap.size ≤ w4.heap.size := HR2.out.fr.size
    have hlt2 : ∀ k, (k = w1.heap.size ∨ some k = r2) → k < w2.heap.size := fun k hk => by
      rcases hk with rfl | hk
      · exact HW2.out.lt.1
      · exact (HW2.out.lt.2 k hk.symm).2
    have hx4 := own_fr HR1.out.own HR2.out.fr (fun g hg hk => by have := hlt2 g hk; have := (own_lt HR1.out.own hg).1; omega)
    have hx5 := own_fr hx4 HR3.out.fr (fun g hg hk => by
      have h1 := own_lt HR1.out.own hg
      rcases hk with hk | hk
      · have := hlt2 g (.inl hk); omega
      · rcases HR2.out.at_ g hk.symm with h2 | h2
        · have := hlt2 g (.inr h2.symm); omega
        · omega)
    have hy5 := own_fr HR2.out.own HR3.out.fr (fun g hg hk => by
      have h1 := own_lt HR2.out.own hg
      rcases hk with hk | hk
      · have := hlt2 g (.inl hk); omega
      · exact HR2.out.ne g hk.symm hg)
    have hBel : Below w.heap.size w w5 := by
      have e1 : Below w.heap.size w w2 := Hb1.out.trans (Hb2.out.mono Hb1.out.size)
      exact ((e1.trans (HR1.out.below Hwa.out (Nat.le_refl _))).trans (HR2.out.below Hwb.out Hb1.out.size)).trans (HR3.out.below HR2.out.win Hb1.out.size)
    have HBel := Lib.hid hBel
    obtain ⟨X, hX⟩ : ∃ X, (ext d N l).drop l.length = X := ⟨_, rfl⟩
    obtain ⟨Y, hY⟩ : ∃ Y, (ext d a l).drop l.length = Y := ⟨_, rfl⟩
    obtain ⟨Z, hZ⟩ : ∃ Z, (ext d m (ext d a l)).drop (ext d a l).length = Z := ⟨_, rfl⟩
    have hXYZ : strOf X = strOf (Y ++ Z) := by rw [← hX, ← hY, ← hZ, HN.out, rows_two]
    have hXl : X.length = N := by rw [← hX, List.length_drop, ext_length]; omega
    have hz5 := HR3.out.own
    rw [hX] at hx5
    rw [hY] at hy5
    rw [hZ] at hz5
    have rx := Rd.of_own hx5
    have kx := conv_rd (c := c1) rx
    have ky := conv_rd (c := c2) (Rd.of_own hy5)
    have kz := conv_rd (c := c3) (Rd.of_own hz5)
    have hsz : (strOf Y).size + (strOf Z).size ≤ 273 := by
      have h1 : Y.length + Z.length = N := by rw [← hXl]; have := congrArg ByteArray.size hXYZ; simpa [strOf_size] using this.symm
      rw [strOf_size, strOf_size]; have := HN.out; omega
    have heq : ((strOf X).toList == (strOf Y ++ strOf Z).toList) = true := by rw [strOf_append, ← hXYZ]; exact beq_self_eq_true _
    have Hcw : Hid (∀ i x, l[i]? = some x → w5.cell? ⟨bb, off + i, none⟩ = some (.int .u8 (x.toNat : Int))) := fun i x hx => (hBel.cell (p := ⟨bb, off + i, none⟩) Hbb.out).trans (Hcb.out i x hx)
    have HX := Lib.hid hX
    have HXl := Lib.hid hXl
    have Hrx := Lib.hid rx
    clear hX hY hZ hXYZ hXl hx4 hx5 hy5 hz5 rx hBel hlt2 Hcb Hbb h
    go_wp2_with fail
    clear kx ky kz heq hsz g2 g3
    go_loop [18] (fun s18 => ∃ i : Nat, s18 = .int .i64 (i : Int) ∧ i ≤ N) (fun s18 => N - (intOf s18).toNat)
    case atStart => exact ⟨0, rfl, Nat.zero_le _⟩
    case round =>
      obtain ⟨i, rfl, hi⟩ := hrel
      by_cases hiN : i < N
      · have hiN' : (i : Int) < (N : Int) := by omega
        have hN0 : N ≤ 273 := by have := HN.out; omega
        obtain ⟨bx, ox, rfl, hcx⟩ := Hrx.out.cells_at (by omega)
        have hXi : X[i]? = some (X[i]'(by rw [HXl.out]; exact hiN)) := List.getElem?_eq_getElem _
        obtain ⟨y, hy⟩ : ∃ y, X[i]'(by rw [HXl.out]; exact hiN) = y := ⟨_, rfl⟩
        rw [hy] at hXi
        have q0 := hcx i y hXi
        have Hcx := Lib.hid hcx
        clear hy hcx
        by_cases hid : i < d
        · have hid' : (i : Int) < (d : Int) := by omega
          obtain ⟨j, hj⟩ : ∃ j, j = n - d + i := ⟨_, rfl⟩
          have hj1 : (n : Int) - (d : Int) + (i : Int) = (j : Int) := by omega
          have hj2 : (j : Int) < (n : Int) := by omega
          have q1 := Hcw.out j y (by rw [hj, ← hl.out, ← rows_new d N l hd1 (by rw [hl.out]; exact hd2) hiN hid, HX.out]; exact hXi)
          clear hj hXi
          go_wp2_with fail
          go_round
          case rel => exact ⟨i + 1, by go_num, by omega⟩
          case measure => simp [intOf]; omega
        · have hid' : ¬ (i : Int) < (d : Int) := by omega
          obtain ⟨j, hj⟩ : ∃ j, j = i - d := ⟨_, rfl⟩
          have hj1 : (i : Int) - (d : Int) = (j : Int) := by omega
          have hj2 : (j : Int) < (N : Int) := by omega
          have q1 := Hcx.out j y (by rw [hj, ← HX.out, ← rows_old d N l hd1 (by rw [hl.out]; exact hd2) hiN hid, HX.out]; exact hXi)
          clear hj hXi
          go_wp2_with fail
          go_round
          case rel => exact ⟨i + 1, by go_num, by omega⟩
          case measure => simp [intOf]; omega
      · obtain rfl : i = N := by omega
        go_wp2_with fail
        go_ret
        exact ⟨rfl, HBel.out⟩

theorem rows_law (A : Option Addr) (n c : Nat) (l : List UInt8) (dist a m : Int) (w : World) (h : In w A n l) :
    Calls Try.prog 3 #[.slice A n c, .int .i64 dist, .int .i64 a, .int .i64 m] w fun e w' => e = .returned (.bool true) ∧ Below w.heap.size w w' := by
  by_cases hg : RowsGood n a m
  · obtain ⟨h1, h2, h3, h4, h5, h6⟩ := hg
    obtain ⟨a', rfl⟩ : ∃ a' : Nat, a = (a' : Int) := ⟨a.toNat, by omega⟩
    obtain ⟨m', rfl⟩ : ∃ m' : Nat, m = (m' : Int) := ⟨m.toNat, by omega⟩
    exact rows_good A n c l dist a' m' w h h1 h2 (by omega)
  · exact rows_out A n c l dist a m w h hg
end Go.Proofs.Ytcfaocbdhfmhbaa
