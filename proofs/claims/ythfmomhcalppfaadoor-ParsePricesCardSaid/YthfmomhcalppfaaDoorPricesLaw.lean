/-
  Walks: prices of rows, the program's and the document's: one plain fold; the law ParsePrices returns true. Conditions: the symbols lie in memory and are at most 4398046510976 (2^47 - 4096 bytes); the tables as Laid says.
-/
import Derived.Test.YthfmomhcalppfaaDoorPrice
namespace Go.Proofs.YthfmomhcalppfaaDoor
open Go.RowKit

/-- the sum, and the first error -/
def prsGo : Int → List Sy → Int × Int
  | s, [] => (s, 0)
  | s, y :: r => if formedN y.k y.l y.x = 0 then prsGo (s + prV y.k y.l y.x) r else (0, formedN y.k y.l y.x)
def PrsPost (p : Int × Int) (w : World) (e : Ending) (w' : World) : Prop := e = .returned (.tuple #[.int .i64 p.1, .int .i64 p.2]) ∧ Below w.heap.size w w'
theorem drop_at {l : List Sy} {i : Nat} {y : Sy} (hy : l[i]? = some y) : l.drop i = y :: l.drop (i + 1) := by
  obtain ⟨hi, h⟩ := List.getElem?_eq_some_iff.1 hy
  rw [List.drop_eq_getElem_cons hi, h]
set_option maxHeartbeats 1000000 in
theorem Prices_any (A : Option Addr) (m mc : Nat) (l : List Sy) (w : World) (h : InS w A m l) (hl : Laid w) : Calls Tryd.prog 4 #[.slice A m mc] w (PrsPost (prsGo 0 l) w) := by
  have hm := h.2.2
  have Hlen := Lib.hid h.len
  have H0 : Hid (prsGo 0 l = prsGo 0 (l.drop 0)) := rfl
  go_enter Tryd.func4, Tryd.ntmps4
  go_wp2_with fail
  go_loopw [4, 11] (fun s4 s11 wr => ∃ (i : Nat) (s : Int), s11 = .int .i64 (i : Int) ∧ i ≤ m ∧ s4 = .int .i64 s ∧ 0 ≤ s ∧ s ≤ 49 * (i : Int) ∧ Hid (prsGo 0 l = prsGo s (l.drop i)) ∧ Hid (Below w.heap.size w wr)) (fun _ s11 _ => m - (intOf s11).toNat)
  case atStart => exact ⟨0, 0, rfl, Nat.zero_le _, rfl, by omega, by omega, H0, Below.refl _ _⟩
  case round =>
    clear H0
    obtain ⟨i, s, rfl, hi, rfl, hs0, hs, H, Hb⟩ := hrel
    by_cases hlt : i < m
    · have hlt' : (i : Int) < (m : Int) := by omega
      obtain ⟨yb, yo, y, rfl, hy, hyb, y0, y1, y2, y3⟩ := (h.below Hb.out).at hlt
      rw [← Nat.add_assoc] at y1 y2 y3
      have H1 : Hid (prsGo 0 l = if formedN y.k y.l y.x = 0 then prsGo (s + prV y.k y.l y.x) (l.drop (i + 1)) else (0, formedN y.k y.l y.x)) := by
        have := H.out
        rw [drop_at hy] at this
        exact this
      have hbd := prV_bd y.k y.l y.x
      clear H hy
      obtain ⟨k, z, yl, x⟩ := y
      simp only [] at y0 y1 y2 y3 H1 hbd
      have hc := Price_any k yl x z (wr.alloc (.cells #[.int .i64 k, .int .u8 (z.toNat : Int), .int .i64 yl, .int .i64 x] 24)) ((hl.below Hb.out).below ((Below.refl _ _).alloc (Nat.le_refl _) _))
      unfold PrPost at hc
      obtain ⟨f, hf⟩ : ∃ f, formedN k yl x = f := ⟨_, rfl⟩
      obtain ⟨v, hv⟩ : ∃ v, prV k yl x = v := ⟨_, rfl⟩
      rw [hf, hv] at hc H1
      rw [hv] at hbd
      clear hf hv
      go_wp2_with fail
      refine hc.mono ?_
      rintro e w2 ⟨rfl, hb2⟩
      have Hb2 : Hid (Below w.heap.size w w2) := bup (bmk Hb.out _) hb2
      clear hc hb2 y0 y1 y2 y3
      by_cases hf0 : f = 0
      · subst hf0
        have H2 : Hid (prsGo 0 l = prsGo (s + v) (l.drop (i + 1))) := by have := H1.out; rw [if_pos rfl] at this; exact this
        clear H1
        go_wp2_with fail
        go_roundw
        case rel => exact ⟨i + 1, s + v, by go_num, by omega, rfl, by omega, by omega, H2, Hb2⟩
        case measure => simp [intOf]; omega
      · have hf1 : (f == 0) = false := beq_eq_false_iff_ne.2 hf0
        have hf2 : (f != 0) = true := bne_iff_ne.2 hf0
        have H2 : Hid (prsGo 0 l = (0, f)) := by have := H1.out; rw [if_neg hf0] at this; exact this
        clear H1 hf0
        go_wp2_with fail
        go_ret2
        exact ⟨by rw [H2.out]; rfl, Hb2.out⟩
    · obtain rfl : i = m := by omega
      have H2 : Hid (prsGo 0 l = (s, 0)) := by
        have := H.out
        rw [List.drop_of_length_le (by have := Hlen.out; omega)] at this
        exact this
      clear H
      go_wp2_with fail
      go_ret2
      exact ⟨by rw [H2.out]; rfl, Hb.out⟩
set_option maxHeartbeats 1000000 in
theorem PricesR_any (A : Option Addr) (m mc : Nat) (l : List Sy) (w : World) (h : InS w A m l) : Calls Tryd.prog 5 #[.slice A m mc] w (PrsPost (prsGo 0 l) w) := by
  have hm := h.2.2
  have Hlen := Lib.hid h.len
  have H0 : Hid (prsGo 0 l = prsGo 0 (l.drop 0)) := rfl
  go_enter Tryd.func5, Tryd.ntmps5
  go_wp2_with fail
  go_loopw [4, 5] (fun s4 s5 wr => ∃ (i : Nat) (s : Int), s5 = .int .i64 (i : Int) ∧ i ≤ m ∧ s4 = .int .i64 s ∧ 0 ≤ s ∧ s ≤ 49 * (i : Int) ∧ Hid (prsGo 0 l = prsGo s (l.drop i)) ∧ Hid (Below w.heap.size w wr)) (fun _ s5 _ => m - (intOf s5).toNat)
  case atStart => exact ⟨0, 0, rfl, Nat.zero_le _, rfl, by omega, by omega, H0, Below.refl _ _⟩
  case round =>
    clear H0
    obtain ⟨i, s, rfl, hi, rfl, hs0, hs, H, Hb⟩ := hrel
    by_cases hlt : i < m
    · have hlt' : (i : Int) < (m : Int) := by omega
      obtain ⟨yb, yo, y, rfl, hy, hyb, y0, y1, y2, y3⟩ := (h.below Hb.out).at hlt
      rw [← Nat.add_assoc] at y1 y2 y3
      have H1 : Hid (prsGo 0 l = if formedN y.k y.l y.x = 0 then prsGo (s + prV y.k y.l y.x) (l.drop (i + 1)) else (0, formedN y.k y.l y.x)) := by
        have := H.out
        rw [drop_at hy] at this
        exact this
      have hbd := prV_bd y.k y.l y.x
      clear H hy
      obtain ⟨k, z, yl, x⟩ := y
      simp only [] at y0 y1 y2 y3 H1 hbd
      have hc := PriceR_any k yl x z wr
      unfold PrPost at hc
      obtain ⟨f, hf⟩ : ∃ f, formedN k yl x = f := ⟨_, rfl⟩
      obtain ⟨v, hv⟩ : ∃ v, prV k yl x = v := ⟨_, rfl⟩
      rw [hf, hv] at hc H1
      rw [hv] at hbd
      clear hf hv
      go_wp2_with fail
      refine hc.mono ?_
      rintro e w2 ⟨rfl, hb2⟩
      have Hb2 : Hid (Below w.heap.size w w2) := bup Hb.out hb2
      clear hc hb2 y0 y1 y2 y3
      by_cases hf0 : f = 0
      · subst hf0
        have H2 : Hid (prsGo 0 l = prsGo (s + v) (l.drop (i + 1))) := by have := H1.out; rw [if_pos rfl] at this; exact this
        clear H1
        go_wp2_with fail
        go_roundw
        case rel => exact ⟨i + 1, s + v, by go_num, by omega, rfl, by omega, by omega, H2, Hb2⟩
        case measure => simp [intOf]; omega
      · have hf1 : (f == 0) = false := beq_eq_false_iff_ne.2 hf0
        have hf2 : (f != 0) = true := bne_iff_ne.2 hf0
        have H2 : Hid (prsGo 0 l = (0, f)) := by have := H1.out; rw [if_neg hf0] at this; exact this
        clear H1 hf0
        go_wp2_with fail
        go_ret2
        exact ⟨by rw [H2.out]; rfl, Hb2.out⟩
    · obtain rfl : i = m := by omega
      have H2 : Hid (prsGo 0 l = (s, 0)) := by
        have := H.out
        rw [List.drop_of_length_le (by have := Hlen.out; omega)] at this
        exact this
      clear H
      go_wp2_with fail
      go_ret2
      exact ⟨by rw [H2.out]; rfl, Hb.out⟩
set_option maxHeartbeats 1000000 in
theorem same_any (A A' : Option Addr) (m mc mc' : Nat) (l : List Sy) (w : World) (h : InS w A m l) (h' : InS w A' m l) : Calls Tryd.prog 6 #[.slice A m mc, .slice A' m mc'] w fun e w' => e = .returned (.bool true) ∧ Below w.heap.size w w' := by
  have hm := h.2.2
  go_enter Tryd.func6, Tryd.ntmps6
  go_wp2_with fail
  go_loopw [13] (fun s13 wr => ∃ (i : Nat), s13 = .int .i64 (i : Int) ∧ i ≤ m ∧ Hid (Below w.heap.size w wr)) (fun s13 _ => m - (intOf s13).toNat)
  case atStart => exact ⟨0, rfl, Nat.zero_le _, Below.refl _ _⟩
  case round =>
    obtain ⟨i, rfl, hi, Hb⟩ := hrel
    by_cases hlt : i < m
    · have hlt' : (i : Int) < (m : Int) := by omega
      obtain ⟨yb, yo, y, rfl, hy, hyb, y0, y1, y2, y3⟩ := (h.below Hb.out).at hlt
      obtain ⟨zb, zo, y', rfl, hy', hzb, z0, z1, z2, z3⟩ := (h'.below Hb.out).at hlt
      obtain rfl : y = y' := by rw [hy] at hy'; exact Option.some.inj hy'
      rw [← Nat.add_assoc] at y1 y2 y3 z1 z2 z3
      obtain ⟨k, z, yl, x⟩ := y
      simp only [] at y0 y1 y2 y3 z0 z1 z2 z3
      clear hy hy'
      go_upto_region 6 with (fail)
      go_quiet (fail)
      have Hb2 : Hid (Below w.heap.size w (wr.drewN nq)) := below_drewN Hb.out _
      clear y0 y1 y2 y3 z0 z1 z2 z3
      go_wp2_with fail
      go_roundw
      case rel => exact ⟨i + 1, by go_num, by omega, Hb2⟩
      case measure => simp [intOf]; omega
    · obtain rfl : i = m := by omega
      go_wp2_with fail
      go_ret
      exact ⟨rfl, Hb.out⟩
set_option maxHeartbeats 4000000 in
set_option maxRecDepth 100000 in
theorem prices_law (A : Option Addr) (m mc : Nat) (l : List Sy) (w : World) (h : InS w A m l) (hm : m ≤ 4398046510976) (hl : Laid w) :
    Calls Tryd.prog 3 #[.slice A m mc] w fun e w' => e = .returned (.bool true) ∧ Below w.heap.size w w' := by
  obtain ⟨i0, hi0, hz0, hz1, hz2⟩ := info_parts infosy
  have H := Lib.hid h
  have HL := Lib.hid hl
  have Hlen := Lib.hid h.len
  clear h hl
  go_enter Tryd.func3, Tryd.ntmps3
  go_wp2_with (first | (at_builtin; refine wpList_freshS rfl (.tmp 14) (.tmp 15) rfl w.heap.size rfl rfl A m mc l rfl H.out ?_; intro a1 c1 w1 hF; have H1 := Lib.hid hF; clear hF) | (at_builtin; refine wpList_append_rd (w := w1.alloc (.cells #[.int .i64 (-9), .int .u8 0, .int .i64 0, .int .i64 0] 24)) rfl (.tmp 17) (.tmp 19) 22 rfl w.heap.size 24 i0 _ 4 32 Tryd.underlying22 hi0 hz0 hz1 hz2 rfl (by decide) (.slice a1 m c1) m (syc l) rfl (H1.out.1.alloc _) (some ⟨w1.heap.size, 0, none⟩) 1 1 (syc [⟨-9, 0, 0, 0⟩]) rfl (Rd.of_blk (Blk.new _ _ _) rfl rfl) (syc_one _) (by simp only [maxLen]; omega) (by omega) (by have := H1.out.2.size; simp; omega) ?_; intro a2 c2 w2 hown2 hg2 hat2; have hmc2 : m ≤ c2 := (by have := own_le hown2; omega)))
  have HB2 : Hid (Below w.heap.size w w2) := (H1.out.2.alloc H1.out.2.size _).grown hg2 (by have := H1.out.2.size; simp; omega) (fun g hg => (own_lt H1.out.1 hg).1)
  have hIS2 : InS w2 a2 (m + 1) (l ++ [⟨-9, 0, 0, 0⟩]) := InS.of_own (by rw [syc_append]; exact hown2) (by omega)
  have hc2 : m + 1 ≤ c2 := own_le hown2
  have HI2 := Lib.hid hIS2
  clear hown2 hg2 hat2 hIS2 H1
  have htk : (l ++ [(⟨-9, 0, 0, 0⟩ : Sy)]).take m = l := by rw [List.take_append_of_le_length (by rw [Hlen.out]; exact Nat.le_refl _), List.take_of_length_le (by rw [Hlen.out]; exact Nat.le_refl _)]
  have HT : Hid (InS w2 a2 m l) := by have := HI2.out.take (show m ≤ m + 1 by omega); rw [htk] at this; exact this
  clear htk
  go_wp2_with fail
  refine (Prices_any a2 m c2 l w2 HT.out (HL.out.below HB2.out)).mono ?_
  rintro e w3 ⟨rfl, hb3⟩
  have HB3 : Hid (Below w.heap.size w w3) := bup HB2.out hb3
  have HI3 := Lib.hid (HI2.out.below hb3)
  have HT3 := Lib.hid (HT.out.below hb3)
  clear hb3 HI2 HT HB2
  obtain ⟨s, f, hp⟩ : ∃ s f, prsGo 0 l = (s, f) := ⟨_, _, rfl⟩
  rw [hp]
  have Hp := Lib.hid hp
  clear hp
  go_wp2_with fail
  refine (PricesR_any A m mc l w3 (H.out.below HB3.out)).mono ?_
  rintro e w4 ⟨rfl, hb4⟩
  rw [Hp.out]
  have HB4 : Hid (Below w.heap.size w w4) := bup HB3.out hb4
  have HI4 := Lib.hid (HI3.out.below hb4)
  have HT4 := Lib.hid (HT3.out.below hb4)
  clear hb4 HI3 HT3 HB3 Hp
  go_wp2_with fail
  refine (same_any a2 A m c2 mc l w4 HT4.out (H.out.below HB4.out)).mono ?_
  rintro e w5 ⟨rfl, hb5⟩
  have HB5 : Hid (Below w.heap.size w w5) := bup HB4.out hb5
  obtain ⟨g, off, y, rfl, hy, hg, y0, y1, y2, y3⟩ := (HI4.out.below hb5).at (show m < m + 1 by omega)
  rw [List.getElem?_append_right (by rw [Hlen.out]; exact Nat.le_refl _), Hlen.out, Nat.sub_self] at hy
  cases hy
  simp only [] at y0
  clear hb5 HI4 HT4 HB4 y1 y2 y3
  go_wp2_with fail
  clear y0
  go_loopw [62] (fun s62 wr => ∃ (i : Nat), s62 = .int .i64 (i : Int) ∧ i ≤ m ∧ Hid (Below w5.heap.size w5 wr)) (fun s62 _ => m - (intOf s62).toNat)
  case atStart => exact ⟨0, rfl, Nat.zero_le _, Below.refl _ _⟩
  case round =>
    obtain ⟨i, rfl, hi, Hb⟩ := hrel
    by_cases hlt : i < m
    · have hlt' : (i : Int) < (m : Int) := by omega
      obtain ⟨yb, yo, y, rfl, hy, hyb, y0, y1, y2, y3⟩ := ((H.out.below HB5.out).below Hb.out).at hlt
      rw [← Nat.add_assoc] at y1 y2 y3
      obtain ⟨k, z, yl, x⟩ := y
      simp only [] at y0 y1 y2 y3
      have hc := Price_any k yl x z (wr.alloc (.cells #[.int .i64 k, .int .u8 (z.toNat : Int), .int .i64 yl, .int .i64 x] 24)) (((HL.out.below HB5.out).below Hb.out).below ((Below.refl _ _).alloc (Nat.le_refl _) _))
      unfold PrPost at hc
      have hcR := PriceR_any k yl x z
      unfold PrPost at hcR
      obtain ⟨f', hf⟩ : ∃ f', formedN k yl x = f' := ⟨_, rfl⟩
      obtain ⟨v, hv⟩ : ∃ v, prV k yl x = v := ⟨_, rfl⟩
      rw [hf, hv] at hc hcR
      have HcR := Lib.hid hcR
      clear hf hv hy hcR
      go_wp2_with fail
      refine hc.mono ?_
      rintro e w6 ⟨rfl, hb6⟩
      have hY := (Blk.new wr 24 #[.int .i64 k, .int .u8 (z.toNat : Int), .int .i64 yl, .int .i64 x]).below hb6
      have Hb6 : Hid (Below w5.heap.size w5 w6) := bup (bmk Hb.out _) hb6
      clear hc hb6 y0 y1 y2 y3
      obtain ⟨y0, y1, y2, y3⟩ := hY.four
      go_wp2_with fail
      refine (HcR.out w6).mono ?_
      rintro e w7 ⟨rfl, hb7⟩
      have Hb7 : Hid (Below w5.heap.size w5 w7) := bup Hb6.out hb7
      clear hb7 y0 y1 y2 y3 hY
      go_wp2_with fail
      go_roundw
      case rel => exact ⟨i + 1, by go_num, by omega, Hb7⟩
      case measure => simp [intOf]; omega
    · obtain rfl : i = m := by omega
      go_wp2_with fail
      go_ret
      exact ⟨rfl, bup HB5.out Hb.out⟩
theorem prices_law_ (A : Option Addr) (m mc : Nat) (l : List Sy) (w : World) (h : InS w A m l) (hm : m ≤ 4398046510976) (_hc : m ≤ mc) (hl : Laid w) :
    Calls Tryd.prog 3 #[.slice A m mc] w fun e w' => e = .returned (.bool true) ∧ Below w.heap.size w w' := prices_law A m mc l w h hm hl
end Go.Proofs.YthfmomhcalppfaaDoor
