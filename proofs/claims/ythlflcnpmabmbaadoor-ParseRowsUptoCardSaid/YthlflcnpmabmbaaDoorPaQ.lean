/-
  Walks: prices of rows, the program's and the document's: one plain fold; the law ParsePrices returns true. Conditions: the symbols lie in memory and are at most 1048576; the tables as Laid says.
-/
import Derived.Test.YthlflcnpmabmbaaDoorPaPr
namespace Go.Proofs.YthlflcnpmabmbaaDoor
open Go.RowKit

/-- the sum, and the first error -/
def prsGo : Int → List Sy → Int × Int
  | s, [] => (s, 0)
  | s, y :: r => if formedN y.k y.l y.x = 0 then prsGo (s + prV y.k y.l y.x) r else (0, formedN y.k y.l y.x)
def PrsPost (p : Int × Int) (w : World) (e : Ending) (w' : World) : Prop := e = .returned (.tuple #[.int .i64 p.1, .int .i64 p.2]) ∧ Below w.heap.size w w'
theorem drop_at {l : List Sy} {i : Nat} {y : Sy} (hy : l[i]? = some y) : l.drop i = y :: l.drop (i + 1) := by
  obtain ⟨hi, h⟩ := List.getElem?_eq_some_iff.1 hy
  rw [List.drop_eq_getElem_cons hi, h]
set_option maxHeartbeats 1000000 in
theorem Prices_any (A : Option Addr) (m mc : Nat) (l : List Sy) (w : World) (h : InS w A m l) (hl : Laid w) : Calls Tryd.prog 8 #[.slice A m mc] w (PrsPost (prsGo 0 l) w) := by
  have hm := h.2.2
  have Hlen := Lib.hid h.len
  have H0 : Hid (prsGo 0 l = prsGo 0 (l.drop 0)) := rfl
  go_enter Tryd.func8, Tryd.ntmps8
  go_wp2_with fail
  go_loopw [4, 11] (fun s4 s11 wr => ∃ (i : Nat) (s : Int), s11 = .int .i64 (i : Int) ∧ i ≤ m ∧ s4 = .int .i64 s ∧ 0 ≤ s ∧ s ≤ 49 * (i : Int) ∧ Hid (prsGo 0 l = prsGo s (l.drop i)) ∧ Hid (Below w.heap.size w wr)) (fun _ s11 _ => m - (intOf s11).toNat)
  case atStart => exact ⟨0, 0, rfl, Nat.zero_le _, rfl, by omega, by omega, H0, Below.refl _ _⟩
  case round =>
    clear H0
    obtain ⟨i, s, rfl, hi, rfl, hs0, hs, H, Hb⟩ := hrel
    by_cases hlt : i < m
    · have hlt' : (i : Int) < (m : Int) := by omega
      obtain ⟨yb, yo, y, rfl, hy, hyb, y0, y1, y2, y3⟩ := (h.below Hb.out).at hlt
      rw [← Nat.add_assoc] at y1 y2 y3
      have H1 : Hid (prsGo 0 l = if formedN y.k y.l y.x = 0 then prsGo (s + prV y.k y.l y.x) (l.drop (i + 1)) else (0, formedN y.k y.l y.x)) := by
        have := H.out
        rw [drop_at hy] at this
        exact this
      have hbd := prV_bd y.k y.l y.x
      clear H hy
      obtain ⟨k, z, yl, x⟩ := y
      simp only [] at y0 y1 y2 y3 H1 hbd
      have hc := Price_any k yl x z (wr.alloc (.cells #[.int .i64 k, .int .u8 (z.toNat : Int), .int .i64 yl, .int .i64 x] 24)) ((hl.below Hb.out).below ((Below.refl _ _).alloc (Nat.le_refl _) _))
      unfold PrPost at hc
      obtain ⟨f, hf⟩ : ∃ f, formedN k yl x = f := ⟨_, rfl⟩
      obtain ⟨v, hv⟩ : ∃ v, prV k yl x = v := ⟨_, rfl⟩
      rw [hf, hv] at hc H1
      rw [hv] at hbd
      clear hf hv
      go_wp2_with fail
      refine hc.mono ?_
      rintro e w2 ⟨rfl, hb2⟩
      have Hb2 : Hid (Below w.heap.size w w2) := bup (bmk Hb.out _) hb2
      clear hc hb2 y0 y1 y2 y3
      by_cases hf0 : f = 0
      · subst hf0
        have H2 : Hid (prsGo 0 l = prsGo (s + v) (l.drop (i + 1))) := by have := H1.out; rw [if_pos rfl] at this; exact this
        clear H1
        go_wp2_with fail
        go_roundw
        case rel => exact ⟨i + 1, s + v, by go_num, by omega, rfl, by omega, by omega, H2, Hb2⟩
        case measure => simp [intOf]; omega
      · have hf1 : (f == 0) = false := beq_eq_false_iff_ne.2 hf0
        have hf2 : (f != 0) = true := bne_iff_ne.2 hf0
        have H2 : Hid (prsGo 0 l = (0, f)) := by have := H1.out; rw [if_neg hf0] at this; exact this
        clear H1 hf0
        go_wp2_with fail
        go_ret2
        exact ⟨by rw [H2.out]; rfl, Hb2.out⟩
    · obtain rfl : i = m := by omega
      have H2 : Hid (prsGo 0 l = (s, 0)) := by
        have := H.out
        rw [List.drop_of_length_le (by have := Hlen.out; omega)] at this
        exact this
      clear H
      go_wp2_with fail
      go_ret2
      exact ⟨by rw [H2.out]; rfl, Hb.out⟩
set_option maxHeartbeats 1000000 in
theorem PricesR_any (A : Option Addr) (m mc : Nat) (l : List Sy) (w : World) (h : InS w A m l) : Calls Tryd.prog 9 #[.slice A m mc] w (PrsPost (prsGo 0 l) w) := by
  have hm := h.2.2
  have Hlen := Lib.hid h.len
  have H0 : Hid (prsGo 0 l = prsGo 0 (l.drop 0)) := rfl
  go_enter Tryd.func9, Tryd.ntmps9
  go_wp2_with fail
  go_loopw [4, 5] (fun s4 s5 wr => ∃ (i : Nat) (s : Int), s5 = .int .i64 (i : Int) ∧ i ≤ m ∧ s4 = .int .i64 s ∧ 0 ≤ s ∧ s ≤ 49 * (i : Int) ∧ Hid (prsGo 0 l = prsGo s (l.drop i)) ∧ Hid (Below w.heap.size w wr)) (fun _ s5 _ => m - (intOf s5).toNat)
  case atStart => exact ⟨0, 0, rfl, Nat.zero_le _, rfl, by omega, by omega, H0, Below.refl _ _⟩
  case round =>
    clear H0
    obtain ⟨i, s, rfl, hi, rfl, hs0, hs, H, Hb⟩ := hrel
    by_cases hlt : i < m
    · have hlt' : (i : Int) < (m : Int) := by omega
      obtain ⟨yb, yo, y, rfl, hy, hyb, y0, y1, y2, y3⟩ := (h.below Hb.out).at hlt
      rw [← Nat.add_assoc] at y1 y2 y3
      have H1 : Hid (prsGo 0 l = if formedN y.k y.l y.x = 0 then prsGo (s + prV y.k y.l y.x) (l.drop (i + 1)) else (0, formedN y.k y.l y.x)) := by
        have := H.out
        rw [drop_at hy] at this
        exact this
      have hbd := prV_bd y.k y.l y.x
      clear H hy
      obtain ⟨k, z, yl, x⟩ := y
      simp only [] at y0 y1 y2 y3 H1 hbd
      have hc := PriceR_any k yl x z wr
      unfold PrPost at hc
      obtain ⟨f, hf⟩ : ∃ f, formedN k yl x = f := ⟨_, rfl⟩
      obtain ⟨v, hv⟩ : ∃ v, prV k yl x = v := ⟨_, rfl⟩
      rw [hf, hv] at hc H1
      rw [hv] at hbd
      clear hf hv
      go_wp2_with fail
      refine hc.mono ?_
      rintro e w2 ⟨rfl, hb2⟩
      have Hb2 : Hid (Below w.heap.size w w2) := bup Hb.out hb2
      clear hc hb2 y0 y1 y2 y3
      by_cases hf0 : f = 0
      · subst hf0
        have H2 : Hid (prsGo 0 l = prsGo (s + v) (l.drop (i + 1))) := by have := H1.out; rw [if_pos rfl] at this; exact this
        clear H1
        go_wp2_with fail
        go_roundw
        case rel => exact ⟨i + 1, s + v, by go_num, by omega, rfl, by omega, by omega, H2, Hb2⟩
        case measure => simp [intOf]; omega
      · have hf1 : (f == 0) = false := beq_eq_false_iff_ne.2 hf0
        have hf2 : (f != 0) = true := bne_iff_ne.2 hf0
        have H2 : Hid (prsGo 0 l = (0, f)) := by have := H1.out; rw [if_neg hf0] at this; exact this
        clear H1 hf0
        go_wp2_with fail
        go_ret2
        exact ⟨by rw [H2.out]; rfl, Hb2.out⟩
    · obtain rfl : i = m := by omega
      have H2 : Hid (prsGo 0 l = (s, 0)) := by
        have := H.out
        rw [List.drop_of_length_le (by have := Hlen.out; omega)] at this
        exact this
      clear H
      go_wp2_with fail
      go_ret2
      exact ⟨by rw [H2.out]; rfl, Hb.out⟩
set_option maxHeartbeats 1000000 in
theorem same_any (A A' : Option Addr) (m mc mc' : Nat) (l : List Sy) (w : World) (h : InS w A m l) (h' : InS w A' m l) : Calls Tryd.prog 10 #[.slice A m mc, .slice A' m mc'] w fun e w' => e = .returned (.bool true) ∧ Below w.heap.size w w' := by
  have hm := h.2.2
  go_enter Tryd.func10, Tryd.ntmps10
  go_wp2_with fail
  go_loopw [13] (fun s13 wr => ∃ (i : Nat), s13 = .int .i64 (i : Int) ∧ i ≤ m ∧ Hid (Below w.heap.size w wr)) (fun s13 _ => m - (intOf s13).toNat)
  case atStart => exact ⟨0, rfl, Nat.zero_le _, Below.refl _ _⟩
  case round =>
    obtain ⟨i, rfl, hi, Hb⟩ := hrel
    by_cases hlt : i < m
    · have hlt' : (i : Int) < (m : Int) := by omega
      obtain ⟨yb, yo, y, rfl, hy, hyb, y0, y1, y2, y3⟩ := (h.below Hb.out).at hlt
      obtain ⟨zb, zo, y', rfl, hy', hzb, z0, z1, z2, z3⟩ := (h'.below Hb.out).at hlt
      obtain rfl : y = y' := by rw [hy] at hy'; exact Option.some.inj hy'
      rw [← Nat.add_assoc] at y1 y2 y3 z1 z2 z3
      obtain ⟨k, z, yl, x⟩ := y
      simp only [] at y0 y1 y2 y3 z0 z1 z2 z3
      clear hy hy'
      go_upto_region 6 with (fail)
      go_quiet (fail)
      have Hb2 : Hid (Below w.heap.size w (wr.drewN nq)) := below_drewN Hb.out _
      clear y0 y1 y2 y3 z0 z1 z2 z3
      go_wp2_with fail
      go_roundw
      case rel => exact ⟨i + 1, by go_num, by omega, Hb2⟩
      case measure => simp [intOf]; omega
    · obtain rfl : i = m := by omega
      go_wp2_with fail
      go_ret
      exact ⟨rfl, Hb.out⟩
end Go.Proofs.YthlflcnpmabmbaaDoor
