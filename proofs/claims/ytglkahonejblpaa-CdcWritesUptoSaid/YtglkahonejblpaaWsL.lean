/-
  Walk: the law CdcWrites returns true. Conditions: the script lies in memory, its bytes and steps are at most 1048576.
-/
import Derived.Test.YtglkahonejblpaaWsC
import Derived.Deep.CutBlock
import Derived.Outline
namespace Go.Proofs.Ytglkahonejblpaa
open Go.RowKit

/-- what is held at the head of a round -/
structure WsRel (B X Y R S : Nat) (least most bits : Int) (tot : Nat → Nat) (w : World) (i : Nat) (g : LG) (wr : World) : Prop where
  sp : SP (famW B X Y R S least most bits g) B wr
  below : Below w.heap.size w wr
  e1 : wrL least most bits 0 0 [] g.la = ((wrL least most bits 0 0 [] g.la).1, g.sum, g.n, g.left)
  e2 : g.rt = (wrL least most bits 0 0 [] g.la).1.length
  e3 : wrL 64 100 3 0 0 [] g.ls = ((wrL 64 100 3 0 0 [] g.ls).1, g.suy, g.ny, g.lefy)
  e4 : g.st = (wrL 64 100 3 0 0 [] g.ls).1.length
  la : g.la.length ≤ tot i
  ls : g.ls.length ≤ tot i
  pg : g.pgs.length ≤ tot i + i
set_option maxHeartbeats 8000000 in
set_option maxRecDepth 100000 in
theorem writes_law (A : Option Addr) (n c : Nat) (tot : Nat → Nat) (least most bits : Int) (w : World) (hA : InScr w A n tot) (hn : n ≤ 1048576) (hT : ∀ i, i ≤ n → tot i ≤ 1048576) (hnc : n ≤ c) :
    Calls Try.prog 3 #[.agg #[.int .i64 least, .int .i64 most, .int .i64 bits], .slice A n c] w fun e w' => e = .returned (.bool true) ∧ Below w.heap.size w w' := by
  obtain ⟨w0, hw0⟩ : ∃ w0, w.alloc (.cells #[.int .i64 least, .int .i64 most, .int .i64 bits] 23) = w0 := ⟨_, rfl⟩
  have Hb0 : Hid (Below w.heap.size w w0) := by rw [← hw0]; exact bmk_ (Below.refl _ _) _
  obtain ⟨Z, hZ⟩ : ∃ Z, w.heap.size = Z := ⟨_, rfl⟩
  have HX : Hid (Blk w0 Z 23 #[.int .i64 least, .int .i64 most, .int .i64 bits]) := by rw [← hw0, ← hZ]; exact Blk.new _ _ _
  have HC : Hid (∀ W : World, Below w0.heap.size w0 W → W.cell? ⟨Z, 0, none⟩ = some (.int .i64 least) ∧ W.cell? ⟨Z, 1, none⟩ = some (.int .i64 most) ∧ W.cell? ⟨Z, 2, none⟩ = some (.int .i64 bits)) := fun W hW => ⟨(HX.out.below hW).cell 0, (HX.out.below hW).cell 1, (HX.out.below hW).cell 2⟩
  have HA := Lib.hid hA
  have hz0 : Z < w0.heap.size := HX.out.lt
  obtain ⟨x0, x1, x2⟩ := HC.out w0 (Below.refl _ _)
  have HLg := Lib.hid (fun (W : World) (hW : Below w0.heap.size w0 W) => RLegal_any least most bits W)
  have HT := Lib.hid hT
  clear hA hT
  by_cases hok : CutsOk least most bits
  · have Hok := Lib.hid hok
    simp only [if_pos hok] at HLg
    have HN := Lib.hid (New_yes least most bits w0 hok)
    clear hok
    go_enter Try.func3, Try.ntmps3
    go_wp2_with fail
    refine HN.out.mono ?_
    rintro e w1 ⟨X, rfl, hX0, hX, hb1⟩
    have HX1 := Lib.hid hX
    have HX0 := Lib.hid hX0
    have Hb1 := Lib.hid hb1
    have hz1 : Z < w1.heap.size := by have := Hb1.out.size; omega
    clear hX hX0 hb1 x0 x1 x2 HN
    obtain ⟨x0, x1, x2⟩ := HC.out w1 Hb1.out
    have HL1 := Lib.hid (HLg.out w1 Hb1.out)
    clear HLg
    go_wp2_with fail
    refine HL1.out.mono ?_
    rintro e w2 ⟨rfl, hb2⟩
    clear x0 x1 x2
    go_wp2_with fail
    refine (fixed_any _).mono ?_
    rintro e w3 ⟨rfl, hb3⟩
    have Hb3 : Hid (Below w1.heap.size w1 w3) := bup hb2 hb3
    have HX3 := Lib.hid (HX1.out.below Hb3.out)
    have hz3 : Z < w3.heap.size := by have := Hb3.out.size; omega
    clear hb2 hb3 HL1 HX1
    go_wp2_with fail
    have hD := Blk.new w3 23 #[.int .i64 64, .int .i64 100, .int .i64 3]
    obtain ⟨w4, hw4⟩ : ∃ w4, w3.alloc (.cells #[.int .i64 64, .int .i64 100, .int .i64 3] 23) = w4 := ⟨_, rfl⟩
    have Hb4 : Hid (Below w1.heap.size w1 w4) := by rw [← hw4]; exact bmk_ Hb3.out _
    have HX4 : Hid (Blk w4 X 71 (rollX (.slice none 0 0) least most bits 0 0)) := by rw [← hw4]; exact HX3.out.alloc _
    rw [hw4] at hD
    rw [hw4]
    obtain ⟨D, hDe⟩ : ∃ D, w3.heap.size = D := ⟨_, rfl⟩
    rw [hDe] at hD
    rw [hDe]
    have HD := Lib.hid hD
    clear hw4 hDe hD HX3 Hb3
    refine (New_yes 64 100 3 w4 ok2).mono ?_
    rintro e w5 ⟨Y, rfl, hY0, hY, hb5⟩
    have HX5 := Lib.hid (HX4.out.below hb5)
    have HD5 := Lib.hid (HD.out.below hb5)
    have HY5 := Lib.hid hY
    have Hb5 : Hid (Below w1.heap.size w1 w5) := bup Hb4.out hb5
    have HXY : Hid (X ≠ Y) := by have := HX4.out.lt; show X ≠ Y; omega
    have HBY : Hid (w.heap.size ≤ Y) := by have := Hb0.out.size; have := Hb1.out.size; have := Hb4.out.size; show _ ≤ _; omega
    have HBX : Hid (w.heap.size ≤ X) := Nat.le_trans Hb0.out.size HX0.out
    clear hY0 hY hb5 HX4 HD Hb4
    have hD5 := HD5.out.lt
    obtain ⟨d0, d1, d2⟩ := HD5.out.three
    have Hb5' : Hid (Below w0.heap.size w0 w5) := bup Hb1.out Hb5.out
    have hz5 : Z < w5.heap.size := by have := Hb5'.out.size; omega
    obtain ⟨x0, x1, x2⟩ := HC.out w5 Hb5'.out
    go_wp2_with fail
    have hR := Blk.new w5 34 #[.int .i64 least, .int .i64 most, .int .i64 bits, .slice none 0 0, .int .i64 0]
    have hS := Blk.new (w5.alloc (.cells #[.int .i64 least, .int .i64 most, .int .i64 bits, .slice none 0 0, .int .i64 0] 34)) 34 #[.int .i64 64, .int .i64 100, .int .i64 3, .slice none 0 0, .int .i64 0]
    have hR' := hR.alloc (.cells #[.int .i64 64, .int .i64 100, .int .i64 3, .slice none 0 0, .int .i64 0] 34)
    obtain ⟨w6, hw6⟩ : ∃ w6, (w5.alloc (.cells #[.int .i64 least, .int .i64 most, .int .i64 bits, .slice none 0 0, .int .i64 0] 34)).alloc (.cells #[.int .i64 64, .int .i64 100, .int .i64 3, .slice none 0 0, .int .i64 0] 34) = w6 := ⟨_, rfl⟩
    have Hb56 : Hid (Below w5.heap.size w5 w6) := by rw [← hw6]; exact bmk_ (bmk_ (Below.refl _ _) _) _
    rw [hw6] at hR' hS
    rw [World.size_alloc] at hS
    obtain ⟨R, hRe⟩ : ∃ R, w5.heap.size = R := ⟨_, rfl⟩
    have H0 : Hid (WsRel w.heap.size X Y R (R + 1) least most bits tot w 0 LG.zero w6) := by
      rw [hRe] at hR' hS
      refine ⟨SPW.start (HX5.out.below Hb56.out) (HY5.out.below Hb56.out) hR' hS HXY.out (by omega) HBX.out HBY.out (by rw [← hRe]; have := Hb0.out.size; have := Hb5'.out.size; omega) (by rw [← hRe]; have := Hb0.out.size; have := Hb5'.out.size; omega), bup Hb0.out (bup Hb5'.out Hb56.out), rfl, rfl, rfl, rfl, Nat.zero_le _, Nat.zero_le _, Nat.zero_le _⟩
    rw [hw6, hRe]
    clear hw6 hRe hR hS hR' HX5 HY5 HD5 d0 d1 d2 x0 x1 x2 Hb5 Hb5' Hb56 hz5 hz3 hz1 hD5 HXY HBX HBY HX0 HX HC
    go_loopw [12, 13] (fun s12 s13 wr => ∃ (i : Nat) (g : LG), s12 = .slice g.L g.pgs.length g.c ∧ s13 = .int .i64 (i : Int) ∧ i ≤ n ∧ Hid (WsRel w.heap.size X Y R (R + 1) least most bits tot w i g wr)) (fun _ s13 _ => n - (intOf s13).toNat)
    case atStart => exact ⟨0, LG.zero, rfl, rfl, Nat.zero_le _, H0⟩
    case round => as_aux_lemma =>
      clear H0
      obtain ⟨i, g, rfl, rfl, hi, H⟩ := hrel
      by_cases hlt : i < n
      · have hlt' : (i : Int) < (n : Int) := by omega
        obtain ⟨b, off, L, m, cc, l, e, hA, hbl, a0, a1, hIn, hmc, ht1, ht2⟩ := HA.out i hlt
        subst hA
        have a0 := (H.out.below.cell (p := ⟨b, off + i * 2, none⟩) hbl).trans a0
        have a1 := (H.out.below.cell (p := ⟨b, off + i * 2 + 1, none⟩) hbl).trans a1
        have hbl2 : b < wr.heap.size := by have := H.out.below.size; omega
        have HIn := Lib.hid hIn
        obtain ⟨wx, hwx⟩ : ∃ wx, wr.alloc (.cells #[.slice L m cc, .bool e] 37) = wx := ⟨_, rfl⟩
        obtain ⟨N, hN⟩ : ∃ N, wr.heap.size = N := ⟨_, rfl⟩
        have HSP : Hid (SP (famW w.heap.size X Y R (R + 1) least most bits { g with bx := some (N, #[.slice L m cc, .bool e]) }) w.heap.size wx) := by rw [← hwx, ← hN]; exact SPW.box H.out.sp _
        have HO : Hid (Blk wx N 37 #[.slice L m cc, .bool e]) := HSP.out.hold .bx
        have Hbx : Hid (Below wr.heap.size wr wx) := by rw [← hwx]; exact bmk_ (Below.refl _ _) _
        have hic : i ≤ c ∧ i < c := by omega
        have Hbwx : Hid (Below w.heap.size w wx) := bup H.out.below Hbx.out
        go_upto_region 17 with (fail)
        clear hwx hN hIn a0 a1
        have hNl := HO.out.lt
        obtain ⟨y0, y1⟩ := HO.out.two
        cases e
        · have Hln := Lib.hid HIn.out.len
          have HRo := Lib.hid (Room (c := cc) HSP.out (HIn.out.below Hbwx.out) (show m ≤ 1048576 by omega))
          have hm20 : m ≤ 1048576 := by omega
          have hla : g.la.length ≤ 1048576 := by have := H.out.la; omega
          have hls : g.ls.length ≤ 1048576 := by have := H.out.ls; omega
          obtain ⟨hlf1, hlf2⟩ := left_le H.out.e1
          obtain ⟨hlf3, hlf4⟩ := left_le H.out.e3
          have hpgs : g.pgs.length ≤ 2097152 := by have := H.out.pg; omega
          go_wp2_with fail
          refine HRo.out.mono ?_
          rintro e w7 ⟨IA, ic, rfl, hS7, hb7⟩
          have HS7 := Lib.hid hS7
          have Hb7 : Hid (Below w.heap.size w w7) := Hbwx.out.trans hb7
          have HW1 := Lib.hid (WriteX HS7.out rfl Hln.out hm20 Hok.out (show g.left.length ≤ 1048576 by omega) (show g.n ≤ 1048576 by omega))
          clear HRo hS7 hb7 y0 y1 hNl HO
          go_wp2_with fail
          refine HW1.out.mono ?_
          rintro e w8 ⟨s8, rfl, hr8, hS8, hb8⟩
          have HS8 := Lib.hid hS8
          have Hr8 := Lib.hid hr8
          have Hb8 : Hid (Below w.heap.size w w8) := Hb7.out.trans hb8
          have HW2 := Lib.hid (WriteY HS8.out rfl Hln.out hm20 (show g.lefy.length ≤ 1048576 by omega) (show g.ny ≤ 1048576 by omega))
          clear HW1 HS7 hS8 hr8 hb8 Hb7
          go_wp2_with fail
          refine HW2.out.mono ?_
          rintro e w9 ⟨s9, rfl, hr9, hS9, hb9⟩
          have HS9 := Lib.hid hS9
          have Hr9 := Lib.hid hr9
          have Hb9 : Hid (Below w.heap.size w w9) := Hb8.out.trans hb9
          have HO9 : Hid (Blk w9 N 37 #[.slice L m cc, .bool false]) := HS9.out.hold .bx
          have hN9 := HO9.out.lt
          obtain ⟨y0, y1⟩ := HO9.out.two
          have HW3 := Lib.hid (WriteR (c := cc) HS9.out (HIn.out.below Hb9.out) hm20 Hok.out hla H.out.e1 H.out.e2)
          clear HW2 HS8 hS9 hr9 hb9 Hb8
          go_wp2_with fail
          refine HW3.out.mono ?_
          rintro e w10 ⟨O3, oc3, vs, RA, rc, rfl, hvs, hpv, hS10, hb10⟩
          have HS10 := Lib.hid hS10
          have Hvs := Lib.hid hvs
          have Hpv := Lib.hid hpv
          have Hb10 : Hid (Below w.heap.size w w10) := Hb9.out.trans hb10
          have HO10 : Hid (Blk w10 N 37 #[.slice L m cc, .bool false]) := HS10.out.hold .bx
          clear HW3 HS9 hS10 hvs hpv hb10 Hb9 y0 y1 hN9 HO9
          have hN10 := HO10.out.lt
          obtain ⟨y0, y1⟩ := HO10.out.two
          have HW4 := Lib.hid (WriteS (c := cc) HS10.out (HIn.out.below Hb10.out) hm20 hls H.out.e3 H.out.e4)
          go_wp2_with fail
          refine HW4.out.mono ?_
          rintro e w11 ⟨O4, oc4, us, SA, sc, rfl, hus, hpu, hS11, hb11⟩
          have HS11 := Lib.hid hS11
          have Hus := Lib.hid hus
          have Hpu := Lib.hid hpu
          have Hb11 : Hid (Below w.heap.size w w11) := Hb10.out.trans hb11
          have HO11 : Hid (Blk w11 N 37 #[.slice L m cc, .bool false]) := HS11.out.hold .bx
          clear HW4 HS10 hS11 hus hpu hb11 Hb10 y0 y1 hN10 HO10
          have hN11 := HO11.out.lt
          obtain ⟨y0, y1⟩ := HO11.out.two
          have HV : Hid (byP vs = byP s8.ps) := by have := Hvs.out; rw [Hr8.out] at this; exact this
          have HU : Hid (byP us = byP s9.ps) := by have := Hus.out; rw [Hr9.out] at this; exact this
          have hv1 : vs.length = s8.ps.length := by have := congrArg List.length HV.out; simpa [byP] using this
          have hu1 : us.length = s9.ps.length := by have := congrArg List.length HU.out; simpa [byP] using this
          obtain ⟨k1, hk1⟩ : ∃ k1, s8.ps.length = k1 := ⟨_, rfl⟩
          obtain ⟨k2, hk2⟩ : ∃ k2, s9.ps.length = k2 := ⟨_, rfl⟩
          rw [hk1] at hv1
          rw [hk2] at hu1
          rw [hv1, hu1, hk1, hk2]
          have HK1 : Hid (s8.ps.length = k1 ∧ vs.length = k1) := ⟨hk1, hv1⟩
          have HK2 : Hid (s9.ps.length = k2 ∧ us.length = k2) := ⟨hk2, hu1⟩
          have hkb : k1 ≤ m ∧ k2 ≤ m := by
            have h1 := (wrL_bd least most bits l g.sum g.n g.left).2.2
            have h2 := (wrL_bd 64 100 3 l g.suy g.ny g.lefy).2.2
            rw [Hr8.out, Hln.out] at h1
            rw [Hr9.out, Hln.out] at h2
            simp only [List.length_map, hk1, hk2] at h1 h2
            exact ⟨h1, h2⟩
          clear hk1 hk2 hv1 hu1
          have HHe := Lib.hid (held_any IA L m ic cc l w11 (SPW.inn HS11.out rfl Hln.out (by omega)).2.1 (HIn.out.below Hb11.out) (SPW.inn HS11.out rfl Hln.out (by omega)).2.2)
          go_wp2_with fail
          refine HHe.out.mono ?_
          rintro e w12 ⟨rfl, hb12⟩
          have HS12 := Lib.hid (HS11.out.keep hb12)
          have Hb12 : Hid (Below w.heap.size w w12) := Hb11.out.trans (hb12.mono HS11.out.le)
          clear HS11 hb12 Hb11 HHe y0 y1 hN11 HO11
          obtain ⟨G, hG⟩ : ∃ G : LG, SP (famW w.heap.size X Y R (R + 1) least most bits G) w.heap.size w12 ∧ GF least most bits g G s8 s9 l vs us O3 oc3 O4 oc4 RA SA IA ic ∧ G.il = l ++ [77] := ⟨_, HS12.out, ⟨rfl, rfl, rfl, rfl, rfl, rfl, rfl, rfl, rfl, rfl, rfl, rfl, rfl, rfl, rfl, rfl, rfl, rfl, rfl, rfl, rfl, rfl, rfl, rfl, rfl, rfl, rfl, rfl, rfl, rfl⟩, rfl⟩
          have HG := Lib.hid hG.2.1
          have HS : Hid (∀ wz, wz = w12 → ∃ il : List UInt8, il.length = m + 1 ∧ SP (famW w.heap.size X Y R (R + 1) least most bits { G with il := il }) w.heap.size wz ∧ Below w.heap.size w wz) := fun wz hz => ⟨l ++ [77], by rw [List.length_append, Hln.out]; rfl, by rw [hz, ← hG.2.2]; exact hG.1, by rw [hz]; exact Hb12.out⟩
          have hm63 : m + 1 ≤ 1048577 := by omega
          clear hG HS12
          go_upto_block 2 with (fail)
          go_cut [13] (fun s13 wy => s13 = .int .i64 (i : Int) ∧ Hid (∃ il : List UInt8, il.length = m + 1 ∧ SP (famW w.heap.size X Y R (R + 1) least most bits { G with il := il }) w.heap.size wy ∧ Below w.heap.size w wy))
          case first => as_aux_lemma =>
            --<E3
            go_wp2_with fail
            go_loopw [21] (fun s21 wr => ∃ j : Nat, s21 = .int .i64 (j : Int) ∧ j ≤ m ∧ Hid (∃ il : List UInt8, il.length = m + 1 ∧ SP (famW w.heap.size X Y R (R + 1) least most bits { G with il := il }) w.heap.size wr ∧ Below w.heap.size w wr)) (fun s21 _ => m - (intOf s21).toNat)
            case atStart => exact ⟨0, rfl, Nat.zero_le _, HS.out _ rfl⟩
            case round => as_aux_lemma =>
              clear HS
              obtain ⟨j, rfl, hj, HJ⟩ := hrel
              by_cases hjl : j < m
              · have hjl' : (j : Int) < (m : Int) := by omega
                obtain ⟨il, hil, hsp, hbl⟩ := HJ.out
                have hown : wr.ownsRow w.heap.size 5 1 (.slice IA (m + 1) ic) (m + 1) (bys il) := by
                  have : wr.ownsRow w.heap.size 5 1 (.slice G.IA il.length G.ic) il.length (bys il) := hsp.hold .inn
                  rw [hil, HG.out.IA, HG.out.ic] at this
                  exact this
                obtain ⟨gb, cap, hv, _, _⟩ := hown.form (by omega)
                injection hv with hA _ hcap
                have HIA := Lib.hid hA
                subst hA
                subst hcap
                have e0 := hown.cellAt j (by omega)
                obtain ⟨u, hu⟩ : ∃ u, (bys il)[j]? = some u := ⟨_, List.getElem?_eq_getElem (by rw [bys_length]; omega)⟩
                rw [hu] at e0
                have e2 := hown.frozenAt j
                have hF : Fr (fun k => (Value.slice G.IA il.length G.ic).ownBlock = some k) wr (wr.setCell ⟨gb, j, none⟩ (.int .u8 3)) := (Fr.refl _ _).setCell (p := ⟨gb, j, none⟩) (.inl (by rw [HG.out.IA]; rfl)) _
                have hnew : (wr.setCell ⟨gb, j, none⟩ (.int .u8 3)).ownsRow w.heap.size 5 1 (.slice (some ⟨gb, 0, none⟩) (m + 1) ic) (m + 1) (bys (il.set j 3)) := by
                  have := own_set hown j (.int .u8 3)
                  have h3 : (bys il).set j (.int .u8 3) = bys (il.set j 3) := by simp [bys, List.map_set]
                  rw [h3] at this
                  exact this
                have HN : Hid (∃ il : List UInt8, il.length = m + 1 ∧ SP (famW w.heap.size X Y R (R + 1) least most bits { G with il := il }) w.heap.size (wr.setCell ⟨gb, j, none⟩ (.int .u8 3)) ∧ Below w.heap.size w (wr.setCell ⟨gb, j, none⟩ (.int .u8 3))) := by
                  refine ⟨il.set j 3, by rw [List.length_set]; exact hil, SPW.over hsp (il := il.set j 3) (List.length_set ..) ?_ hF, hbl.trans (hsp.to_below (fun z => z = .inn) hF (fun k hk => ⟨.inn, rfl, hk⟩))⟩
                  show World.ownsRow _ _ _ _ (.slice G.IA il.length G.ic) il.length _
                  rw [hil, HG.out.IA, HG.out.ic]
                  exact hnew
                have hjm : j < m + 1 ∧ j ≤ m := by omega
                clear hown hu hF hnew hsp hbl hil
                go_wp2_with fail
                go_roundw
                case rel => exact ⟨j + 1, by go_num, by omega, HN⟩
                case measure => simp [intOf]; omega
              · have hjl' : decide ((j : Int) < (m : Int)) = false := decide_eq_false (by omega)
                go_wp2_with fail
                go_meet
                exact ⟨rfl, HJ⟩
            --E3>
          case rest => as_aux_lemma =>
            obtain ⟨rfl, H13⟩ := hcut
            obtain ⟨w13, rfl⟩ : ∃ w13 : World, w13 = wc := ⟨_, rfl⟩
            obtain ⟨il, _, hS13, hB13⟩ := H13.out
            have HS13 := Lib.hid hS13
            have Hb13 := Lib.hid hB13
            clear hS13 hB13 H13 HS
            go_upto_block 4 with (fail)
            go_cut [13] (fun s13 wy => s13 = .int .i64 (i : Int) ∧ Hid (Below w13.heap.size w13 wy))
            case first => as_aux_lemma =>
              --<E4
              go_wp2_with fail
              go_loopw [22] (fun s22 wr => ∃ j : Nat, s22 = .int .i64 (j : Int) ∧ j ≤ k1 ∧ Hid (Below w13.heap.size w13 wr)) (fun s22 _ => k1 - (intOf s22).toNat)
              case atStart => exact ⟨0, rfl, Nat.zero_le _, Below.refl _ _⟩
              case round => as_aux_lemma =>
                obtain ⟨j, rfl, hj, HJ⟩ := hrel
                by_cases hjl : j < k1
                · have hjl' : (j : Int) < (k1 : Int) := by omega
                  have hsp := HS13.out.keep HJ.out
                  obtain ⟨p, hp⟩ : ∃ p, s8.ps[j]? = some p := ⟨_, List.getElem?_eq_getElem (by rw [HK1.out.1]; exact hjl)⟩
                  obtain ⟨v, hv⟩ : ∃ v, vs[j]? = some v := ⟨_, List.getElem?_eq_getElem (by rw [HK1.out.2]; exact hjl)⟩
                  have hpv : v.2.2 = p.2.2 := by
                    have h1 := congrArg (fun x => x[j]?) HV.out
                    simp only [byP, List.getElem?_map, hp, hv, Option.map_some, Option.some.injEq] at h1
                    exact h1
                  have r1 : wr.ownsRow w.heap.size 32 1 (.slice s8.O s8.ps.length s8.oc) s8.ps.length (svs s8.ps) := by
                    have h1 := hsp.hold .o
                    simp only [famW, HG.out.ps, HG.out.O, HG.out.oc] at h1
                    exact h1
                  have r2 : wr.ownsRow w.heap.size 32 1 (.slice O3 vs.length oc3) vs.length (svs vs) := by
                    have h1 := hsp.hold .o3
                    simp only [famW, HG.out.vs, HG.out.O3, HG.out.oc3] at h1
                    exact h1
                  have hq1 := own_le r1
                  have hq2 := own_le r2
                  rw [HK1.out.1] at hq1
                  rw [HK1.out.2] at hq2
                  obtain ⟨b1, hb1, hb1l, z1⟩ := row_at r1 hp
                  obtain ⟨b2, hb2, hb2l, z2⟩ := row_at r2 hv
                  have hin1 : Rd wr 1 p.1 p.2.2.length (bys p.2.2) := Rd.of_own (by have h1 := hsp.hold (.t j); simp only [famW, HG.out.dn, Nat.not_lt_zero, if_false, HG.out.ps, hp, optC] at h1; exact h1)
                  have hin2 : Rd wr 1 v.1 v.2.2.length (bys v.2.2) := (Hpv.out v (List.mem_of_getElem? hv)).1 wr (In.of_own (by have h1 := hsp.hold .ra; simp only [famW, HG.out.RA, HG.out.la] at h1; exact h1) (by rw [List.length_append, Hln.out]; omega)) |>.1
                  obtain ⟨pA, pc, pl⟩ := p
                  obtain ⟨vA, vc, vl⟩ := v
                  simp only [] at hpv z1 z2 hin1 hin2
                  subst hpv
                  have hcv1 : ∀ a, (convert 32 9 (.slice pA vl.length pc)).run Try.prog (wr.drewN a) = .ok (.string (strOf vl)) (wr.drewN a) := fun a => conv_rd (hin1.keep fun _ _ => rfl)
                  have hcv2 : ∀ a, (convert 32 9 (.slice vA vl.length vc)).run Try.prog (wr.drewN a) = .ok (.string (strOf vl)) (wr.drewN a) := fun a => conv_rd (hin2.keep fun _ _ => rfl)
                  have hjj : j < k1 ∧ j ≤ s8.oc ∧ j ≤ oc3 ∧ (j : Int) < (k1 : Int) := by omega
                  clear hsp hp hv r1 r2 hq1 hq2 hin1 hin2
                  rw [hb1, hb2]
                  clear hb1 hb2
                  go_wp2_with fail
                  go_quiet (fail)
                  go_wp2_with fail
                  go_roundw
                  case rel => exact ⟨j + 1, by go_num, by omega, below_drewN HJ.out _⟩
                  case measure => simp [intOf]; omega
                · have hjl' : decide ((j : Int) < (k1 : Int)) = false := decide_eq_false (by omega)
                  go_wp2_with fail
                  go_meet
                  exact ⟨rfl, HJ⟩
              --E4>
            case rest => as_aux_lemma =>
              obtain ⟨rfl, Hcw14⟩ := hcut
              obtain ⟨w14, rfl⟩ : ∃ w14 : World, w14 = wc := ⟨_, rfl⟩
              have HS14 := Lib.hid (HS13.out.keep Hcw14.out)
              have Hb14 : Hid (Below w.heap.size w w14) := Hb13.out.trans (Hcw14.out.mono HS13.out.le)
              clear Hcw14 HS13 Hb13
              go_upto_block 6 with (fail)
              go_cut [13] (fun s13 wy => s13 = .int .i64 (i : Int) ∧ Hid (Below w14.heap.size w14 wy))
              case first => as_aux_lemma =>
                --<E5
                go_wp2_with fail
                go_loopw [23] (fun s23 wr => ∃ j : Nat, s23 = .int .i64 (j : Int) ∧ j ≤ k2 ∧ Hid (Below w14.heap.size w14 wr)) (fun s23 _ => k2 - (intOf s23).toNat)
                case atStart => exact ⟨0, rfl, Nat.zero_le _, Below.refl _ _⟩
                case round => as_aux_lemma =>
                  obtain ⟨j, rfl, hj, HJ⟩ := hrel
                  by_cases hjl : j < k2
                  · have hjl' : (j : Int) < (k2 : Int) := by omega
                    have hsp := HS14.out.keep HJ.out
                    obtain ⟨p, hp⟩ : ∃ p, s9.ps[j]? = some p := ⟨_, List.getElem?_eq_getElem (by rw [HK2.out.1]; exact hjl)⟩
                    obtain ⟨v, hv⟩ : ∃ v, us[j]? = some v := ⟨_, List.getElem?_eq_getElem (by rw [HK2.out.2]; exact hjl)⟩
                    have hpv : v.2.2 = p.2.2 := by
                      have h1 := congrArg (fun x => x[j]?) HU.out
                      simp only [byP, List.getElem?_map, hp, hv, Option.map_some, Option.some.injEq] at h1
                      exact h1
                    have r1 : wr.ownsRow w.heap.size 32 1 (.slice s9.O s9.ps.length s9.oc) s9.ps.length (svs s9.ps) := by
                      have h1 := hsp.hold .o2
                      simp only [famW, HG.out.qs, HG.out.O2, HG.out.oc2] at h1
                      exact h1
                    have r2 : wr.ownsRow w.heap.size 32 1 (.slice O4 us.length oc4) us.length (svs us) := by
                      have h1 := hsp.hold .o4
                      simp only [famW, HG.out.us, HG.out.O4, HG.out.oc4] at h1
                      exact h1
                    have hq1 := own_le r1
                    have hq2 := own_le r2
                    rw [HK2.out.1] at hq1
                    rw [HK2.out.2] at hq2
                    obtain ⟨b1, hb1, hb1l, z1⟩ := row_at r1 hp
                    obtain ⟨b2, hb2, hb2l, z2⟩ := row_at r2 hv
                    have hin1 : Rd wr 1 p.1 p.2.2.length (bys p.2.2) := Rd.of_own (by have h1 := hsp.hold (.t2 j); simp only [famW, HG.out.qs, hp, optC] at h1; exact h1)
                    have hin2 : Rd wr 1 v.1 v.2.2.length (bys v.2.2) := (Hpu.out v (List.mem_of_getElem? hv)).1 wr (In.of_own (by have h1 := hsp.hold .sa; simp only [famW, HG.out.SA, HG.out.ls] at h1; exact h1) (by rw [List.length_append, Hln.out]; omega)) |>.1
                    obtain ⟨pA, pc, pl⟩ := p
                    obtain ⟨vA, vc, vl⟩ := v
                    simp only [] at hpv z1 z2 hin1 hin2
                    subst hpv
                    have hcv1 : ∀ a, (convert 32 9 (.slice pA vl.length pc)).run Try.prog (wr.drewN a) = .ok (.string (strOf vl)) (wr.drewN a) := fun a => conv_rd (hin1.keep fun _ _ => rfl)
                    have hcv2 : ∀ a, (convert 32 9 (.slice vA vl.length vc)).run Try.prog (wr.drewN a) = .ok (.string (strOf vl)) (wr.drewN a) := fun a => conv_rd (hin2.keep fun _ _ => rfl)
                    have hjj : j < k2 ∧ j ≤ s9.oc ∧ j ≤ oc4 ∧ (j : Int) < (k2 : Int) := by omega
                    clear hsp hp hv r1 r2 hq1 hq2 hin1 hin2
                    rw [hb1, hb2]
                    clear hb1 hb2
                    go_wp2_with fail
                    go_quiet (fail)
                    go_wp2_with fail
                    go_roundw
                    case rel => exact ⟨j + 1, by go_num, by omega, below_drewN HJ.out _⟩
                    case measure => simp [intOf]; omega
                  · have hjl' : decide ((j : Int) < (k2 : Int)) = false := decide_eq_false (by omega)
                    go_wp2_with fail
                    go_meet
                    exact ⟨rfl, HJ⟩
                --E5>
              case rest => as_aux_lemma =>
                obtain ⟨rfl, Hcw15⟩ := hcut
                obtain ⟨w15, rfl⟩ : ∃ w15 : World, w15 = wc := ⟨_, rfl⟩
                have HS15 := Lib.hid (HS14.out.keep Hcw15.out)
                have Hb15 : Hid (Below w.heap.size w w15) := Hb14.out.trans (Hcw15.out.mono HS14.out.le)
                clear Hcw15 HS14 Hb14
                have HK0 : Hid (∃ (L' : Option Addr) (c' : Nat) (pgs' : List Pg), SP (famW w.heap.size X Y R (R + 1) least most bits { G with il := il, L := L', c := c', pgs := pgs', done := 0 }) w.heap.size w15 ∧ Below w.heap.size w w15 ∧ pgs'.length = g.pgs.length + 0 ∧ L' = g.L ∧ c' = g.c) := ⟨G.L, G.c, G.pgs, by
                  have h1 : ({ G with il := il, done := 0 } : LG) = { G with il := il } := by rw [← HG.out.dn]
                  have h2 := HS15.out
                  rw [← h1] at h2
                  exact h2, Hb15.out, by rw [HG.out.pgs]; rfl, HG.out.L, HG.out.c⟩
                obtain ⟨L0, c0, pgs0, hK0⟩ := HK0.out
                have HK0' := Lib.hid hK0
                obtain ⟨q0, hq0⟩ : ∃ q0, pgs0.length = q0 := ⟨_, rfl⟩
                have hgq : g.pgs.length = q0 := by rw [← hq0, hK0.2.2.1]; rfl
                have hgL : g.L = L0 := hK0.2.2.2.1.symm
                have hgc : g.c = c0 := hK0.2.2.2.2.symm
                have Hgq := Lib.hid hgq
                rw [hgq] at hpgs ⊢
                rw [hgL, hgc]
                clear HK0 hK0 HS15 Hb15 hgq hgL hgc
                have Hq0 := Lib.hid hq0
                clear hq0
                go_upto_block 8 with (fail)
                go_cut [12, 13] (fun s12 s13 wy => ∃ (L' : Option Addr) (c' : Nat) (pgs' : List Pg), s12 = .slice L' (q0 + k1) c' ∧ s13 = .int .i64 (i : Int) ∧ Hid (SP (famW w.heap.size X Y R (R + 1) least most bits { G with il := il, L := L', c := c', pgs := pgs', done := k1 }) w.heap.size wy ∧ Below w.heap.size w wy ∧ pgs'.length = q0 + k1))
                case first => as_aux_lemma =>
                  --<E6
                  go_wp2_with fail
                  go_loopw [12, 24] (fun s12 s24 wr => ∃ (L' : Option Addr) (c' j : Nat) (pgs' : List Pg), s12 = .slice L' (q0 + j) c' ∧ s24 = .int .i64 (j : Int) ∧ j ≤ k1 ∧ Hid (SP (famW w.heap.size X Y R (R + 1) least most bits { G with il := il, L := L', c := c', pgs := pgs', done := j }) w.heap.size wr ∧ Below w.heap.size w wr ∧ pgs'.length = q0 + j)) (fun _ s24 _ => k1 - (intOf s24).toNat)
                  case atStart => exact ⟨L0, c0, 0, pgs0, rfl, rfl, Nat.zero_le _, HK0'.out.1, HK0'.out.2.1, Hq0.out⟩
                  case round => as_aux_lemma =>
                    obtain ⟨L', c', j, pgs', rfl, rfl, hj, HJ⟩ := hrel
                    by_cases hjl : j < k1
                    · have hjl' : (j : Int) < (k1 : Int) := by omega
                      obtain ⟨p, hp⟩ : ∃ p, s8.ps[j]? = some p := ⟨_, List.getElem?_eq_getElem (by rw [HK1.out.1]; exact hjl)⟩
                      have r1 : wr.ownsRow w.heap.size 32 1 (.slice s8.O s8.ps.length s8.oc) s8.ps.length (svs s8.ps) := by
                        have h1 := HJ.out.1.hold .o
                        simp only [famW, HG.out.ps, HG.out.O, HG.out.oc] at h1
                        exact h1
                      have hq1 := own_le r1
                      rw [HK1.out.1] at hq1
                      obtain ⟨b1, hb1, hb1l, z1⟩ := row_at r1 hp
                      have hpl : p.2.2.length ≤ 4294967296 := by
                        have h1 : (byP s8.ps).flatten ++ s8.left = g.left ++ l := by
                          have := (wrL_bd least most bits l g.sum g.n g.left).2.1
                          rw [Hr8.out] at this
                          exact this
                        have h2 : p.2.2.length ≤ (byP s8.ps).flatten.length := flat_le (List.mem_map.2 ⟨p, List.mem_of_getElem? hp, rfl⟩)
                        have h3 := congrArg List.length h1
                        rw [List.length_append, List.length_append, Hln.out] at h3
                        omega
                      have HKT := Lib.hid (KeepT HJ.out.1 (p := p) (by show G.ps[j]? = some p; rw [HG.out.ps]; exact hp) (by show pgs'.length ≤ _; rw [HJ.out.2.2]; omega) hpl)
                      simp only [HJ.out.2.2] at HKT
                      have hjj : j < k1 ∧ j ≤ s8.oc ∧ (j : Int) < (k1 : Int) := by omega
                      obtain ⟨pA, pc, pl⟩ := p
                      try dsimp only at z1
                      try dsimp only at HKT
                      clear hp r1 hq1 hpl
                      rw [hb1]
                      clear hb1
                      go_wp2_with fail
                      refine HKT.out.mono ?_
                      rintro e w16 ⟨L2, c2, pg, rfl, hS16, hb16⟩
                      have HS16 := Lib.hid hS16
                      have Hb16 : Hid (Below w.heap.size w w16) := HJ.out.2.1.trans hb16
                      have Hpl2 : Hid ((pgs' ++ [pg]).length = q0 + (j + 1)) := by show _ = _; rw [List.length_append, HJ.out.2.2]; rfl
                      clear HKT hS16 hb16
                      go_wp2_with fail
                      go_roundw
                      case rel => exact ⟨L2, c2, j + 1, pgs' ++ [pg], rfl, by go_num, by omega, HS16.out, Hb16.out, Hpl2.out⟩
                      case measure => simp [intOf]; omega
                    · have hjk : j = k1 := by omega
                      subst hjk
                      have hjl' : decide ((j : Int) < (j : Int)) = false := decide_eq_false (by omega)
                      go_wp2_with fail
                      go_meet
                      exact ⟨L', c', pgs', rfl, rfl, HJ.out⟩
                  --E6>
                case rest => as_aux_lemma =>
                  obtain ⟨L', c', pgs', rfl, rfl, H17⟩ := hcut
                  obtain ⟨w17, rfl⟩ : ∃ w17 : World, w17 = wc := ⟨_, rfl⟩
                  clear HK0'
                  obtain ⟨j0, hj0, jz0, jz1, jz2⟩ := info_parts infosl
                  have Hrow : Hid (w17.ownsRow w.heap.size 32 1 (.slice s8.O k1 s8.oc) k1 (svs s8.ps)) := by
                    have h1 := H17.out.1.hold .o
                    simp only [famW, HG.out.ps, HG.out.O, HG.out.oc] at h1
                    rw [HK1.out.1] at h1
                    exact h1
                  have hk1 : k1 ≤ 1048576 := by omega
                  have Hsz17 : Hid (w.heap.size ≤ w17.heap.size) := H17.out.2.1.size
                  have H1 : Hid (∀ w18, (∃ o o', ((w17.alloc o).alloc o').grownBy w18 (Value.slice s8.O k1 s8.oc).ownBlock) → SP (famW w.heap.size X Y R (R + 1) least most bits ({ G with il := il, L := L', c := c', pgs := pgs', done := k1 } : LG).clear) w.heap.size w18 ∧ Below w.heap.size w w18) := fun w18 ⟨o, o', hg⟩ => by
                    have hF : Fr (fun k => (Value.slice G.O G.ps.length G.oc).ownBlock = some k) w17 w18 := (((Fr.refl _ _).alloc o).alloc o').grown hg (fun q hq => .inl (by rw [HG.out.O, HG.out.ps, HG.out.oc, HK1.out.1]; exact hq))
                    exact ⟨SPW.more H17.out.1 hF, H17.out.2.1.trans (H17.out.1.to_below (fun z => z = .o) hF (fun k hk => ⟨.o, rfl, hk⟩))⟩
                  go_wp2_with (at_builtin; refine wpList_append_rd (w := (w17.alloc (.cells #[.int .u8 1] 5)).alloc (.cells #[.slice (some ⟨w17.heap.size, 0, none⟩) 1 1] 32)) rfl (.tmp 180) (.tmp 182) 41 rfl w.heap.size 32 j0 _ 1 24 Try.underlying41 hj0 jz0 jz1 jz2 rfl (by decide) (.slice s8.O k1 s8.oc) k1 (svs s8.ps) rfl ((Hrow.out.alloc _).alloc _) (some ⟨w17.heap.size + 1, 0, none⟩) 1 1 [.slice (some ⟨w17.heap.size, 0, none⟩) 1 1] rfl ⟨rfl, fun _ => ⟨_, rfl, by have h5 := World.news_of_block (heap_alloc_new (w17.alloc (.cells #[.int .u8 1] 5)) (.cells #[.slice (some ⟨w17.heap.size, 0, none⟩) 1 1] 32)); rw [World.size_alloc] at h5; exact h5⟩⟩ (by intro u hu; simp at hu; subst hu; rfl) (by simp only [maxLen]; omega) (by omega) (by have := Hsz17.out; simp; omega) ?_; intro O5 oc5 w18 hown5 hg5 hat5; have H18 := Lib.hid (H1.out w18 ⟨_, _, hg5⟩); clear hown5 hg5 hat5)
                  go_roundw
                  case rel =>
                    refine ⟨i + 1, ({ G with il := il, L := L', c := c', pgs := pgs', done := k1 } : LG).clear, ?_, by go_num, by omega, ⟨H18.out.1, H18.out.2, ?_, ?_, ?_, ?_, ?_, ?_, ?_⟩⟩
                    · show Value.slice L' (q0 + k1) c' = Value.slice L' pgs'.length c'
                      rw [H17.out.2.2]
                    · show wrL least most bits 0 0 [] G.la = ((wrL least most bits 0 0 [] G.la).1, G.sum, G.n, G.left)
                      rw [HG.out.la, HG.out.sm, HG.out.n, HG.out.lf]
                      have h1 := (wr_next (l := l) H.out.e1 H.out.e2).2.1
                      rw [Hr8.out] at h1
                      exact h1
                    · show G.rt = (wrL least most bits 0 0 [] G.la).1.length
                      rw [HG.out.rt, HG.out.la]
                    · show wrL 64 100 3 0 0 [] G.ls = ((wrL 64 100 3 0 0 [] G.ls).1, G.suy, G.ny, G.lefy)
                      rw [HG.out.ls, HG.out.sy, HG.out.ny, HG.out.lg]
                      have h1 := (wr_next (l := l) H.out.e3 H.out.e4).2.1
                      rw [Hr9.out] at h1
                      exact h1
                    · show G.st = (wrL 64 100 3 0 0 [] G.ls).1.length
                      rw [HG.out.st, HG.out.ls]
                    · show G.la.length ≤ tot (i + 1)
                      rw [HG.out.la, List.length_append, Hln.out]
                      have := H.out.la
                      omega
                    · show G.ls.length ≤ tot (i + 1)
                      rw [HG.out.ls, List.length_append, Hln.out]
                      have := H.out.ls
                      omega
                    · show pgs'.length ≤ tot (i + 1) + (i + 1)
                      rw [H17.out.2.2]
                      have := H.out.pg
                      have := Hgq.out
                      omega
                  case measure => simp [intOf]; omega
        · --<E1
          have HEX := Lib.hid (End_any X g.lv least most bits g.sum g.n wx (HSP.out.hold .wx))
          go_wp2_with fail
          refine HEX.out.mono ?_
          rintro e w7 ⟨rfl, hX7, hF7⟩
          have HSP7 := Lib.hid (SPW.endX HSP.out hX7 hF7)
          have Hb7 : Hid (Below w.heap.size w w7) := Hbwx.out.trans (HSP.out.to_below (fun z => z = .wx) hF7 (fun k hk => ⟨.wx, rfl, hk⟩))
          have hlf : (wrL least most bits 0 0 [] g.la).2.2.2 = g.left := by rw [H.out.e1]
          have Hlf := Lib.hid hlf
          have HRC7 : Hid (RC w.heap.size R least most bits w7 g.RA g.rc g.la g.rt) := ⟨HSP7.out.hold .r, HSP7.out.hold .ra, (HSP7.out.inb .r R rfl).1⟩
          have hla : g.la.length ≤ 1048576 := by have := H.out.la; omega
          have HRE := Lib.hid (fun (W : World) (hW : Below w7.heap.size w7 W) => REnd_any w.heap.size R least most bits g.RA g.rc g.la g.rt W (HRC7.out.below hW) Hok.out (by omega) H.out.e2)
          rw [hlf] at HRE
          have HP7 : Hid (w7.ownsRow w.heap.size 5 1 g.lv g.left.length (bys g.left)) := HSP7.out.hold .p
          have hcv0 : (convert 32 9 g.lv).run Try.prog w7.drew = .ok (.string (strOf g.left)) w7.drew := conv_rd (Rd.of_own (own_below HP7.out (Below.refl _ _).drew))
          clear hX7 hF7 HEX hlf
          go_upto_region 19 with (fail)
          go_cut [85] (fun s85 wy => s85 = .bool false ∧ Hid (SP (famW w.heap.size X Y R (R + 1) least most bits { g with LA := none, lc := 0, left := [], sum := 0, n := 0, bx := some (N, #[.slice L m cc, .bool true]), PA := g.LA, pc := g.lc, pl := g.left, RA := none, rc := 0, la := [], rt := 0 }) w.heap.size wy ∧ Below w.heap.size w wy))
          case first => as_aux_lemma =>
            --<E2
            go_region_with (go_at_call 11; refine (HRE.out _ (by first | (with_reducible exact (Below.refl _ _)) | (with_reducible exact (Below.refl _ _).drew))).mono ?_; rintro en w8 ⟨F, fc, rfl, hF, hRC, hFr⟩; have hFr' : Fr (fun k => k = R) w7 w8 := (Fr.refl _ _).drew.trans hFr; have HSP8 := Lib.hid (SPW.endR HSP7.out hRC hFr'); have Hb8 : Hid (Below w.heap.size w w8) := Hb7.out.trans (HSP7.out.to_below (fun z => z = .r) hFr' (fun k hk => ⟨.r, rfl, hk⟩)); have hcv1 : (convert 32 9 g.lv).run Try.prog w8 = .ok (.string (strOf g.left)) w8 := conv_rd (Rd.of_own (HSP8.out.hold .p)); have hcv2 : (convert 32 9 (.slice F g.left.length fc)).run Try.prog w8 = .ok (.string (strOf g.left)) w8 := conv_rd hF.1; clear hF hRC hFr hFr')
            all_goals go_wp2_with fail
            all_goals go_meet
            all_goals exact ⟨rfl, HSP8.out, Hb8.out⟩
            --E2>
          case rest => as_aux_lemma =>
            obtain ⟨rfl, H9⟩ := hcut
            obtain ⟨w9, rfl⟩ : ∃ w9 : World, w9 = wc := ⟨_, rfl⟩
            clear HRE HRC7 HP7 hcv0 HSP7 Hb7
            have hpg : g.pgs.length ≤ 2097152 := by have := H.out.pg; omega
            have hll : g.left.length ≤ 1048576 := by have := (left_le H.out.e1).1; have := H.out.la; omega
            have HK := Lib.hid (keep_any w.heap.size w.heap.size g.L g.c g.pgs g.LA g.left.length g.lc g.left w9 (H9.out.1.hold .bk) (H9.out.1.hold .p) H9.out.1.le H9.out.1.le (by omega) (by omega))
            go_wp2_with fail
            refine HK.out.mono ?_
            rintro e w10 ⟨O', oc', L', c', rfl, hrow, hpi, hF, hL, hO, hap⟩
            have HSP10 := Lib.hid (SPW.keepP H9.out.1 hrow hpi hF hL hO hap)
            have Hb10 : Hid (Below w.heap.size w w10) := H9.out.2.trans (H9.out.1.to_below (fun z => z = .bk ∨ z = .p) hF (fun k hk => by
              rcases hk with hk | hk
              · exact ⟨.bk, .inl rfl, hk.symm⟩
              · exact ⟨.p, .inr rfl, hk.symm⟩))
            clear hrow hpi hF hL hO hap HK
            go_wp2_with fail
            go_roundw
            case rel =>
              refine ⟨i + 1, _, ?_, by go_num, by omega, ⟨HSP10.out, Hb10.out, rfl, rfl, H.out.e3, H.out.e4, Nat.zero_le _, ?_, ?_⟩⟩
              · simp only [List.length_append]; rfl
              · have := H.out.ls; show g.ls.length ≤ _; omega
              · have := H.out.pg; show (g.pgs ++ [_]).length ≤ _; rw [List.length_append]; simp only [List.length_singleton]; omega
            case measure => simp [intOf]; omega
          --E1>
      · have hlt' : decide ((i : Int) < (n : Int)) = false := decide_eq_false (by omega)
        have hpg : g.pgs.length ≤ 2097152 := by
          have := H.out.pg
          have := HT.out i hi
          omega
        have hla : g.la.length ≤ 1048576 := by have := H.out.la; have := HT.out i hi; omega
        have hls : g.ls.length ≤ 1048576 := by have := H.out.ls; have := HT.out i hi; omega
        have HEX : Hid (∀ W : World, Below wr.heap.size wr W → Calls Try.prog 10 #[.pointer (some ⟨X, 0, none⟩)] W fun e w' => e = .returned g.lv ∧ SP (famW w.heap.size X Y R (R + 1) least most bits { g with LA := none, lc := 0, left := [], sum := 0, n := 0, PA := g.LA, pc := g.lc, pl := g.left }) w.heap.size w' ∧ Below w.heap.size w w') := fun W hW =>
          (EndX (H.out.sp.keep hW)).mono fun e w' ⟨h1, h2, h3⟩ => ⟨h1, h2, (H.out.below.trans (hW.mono H.out.sp.le)).trans h3⟩
        go_upto_region 50 with (fail)
        --<E7
        go_region_with (first | (go_at_call 10; ((with_reducible refine (HEX.out _ (by first | (with_reducible exact (Below.refl _ _)) | (with_reducible exact (Below.refl _ _).drew))).mono ?_); rintro en w1 ⟨rfl, hS1, hb1⟩; have HS1 := Lib.hid hS1; have Hbw1 := Lib.hid hb1; have hcvA : (convert 32 9 g.lv).run Try.prog w1 = .ok (.string (strOf g.left)) w1 := conv_rd (Rd.of_own (hS1.hold .p)); clear hS1 hb1)) | (go_at_call 11; ((with_reducible refine (EndR HS1.out Hok.out hla H.out.e1 H.out.e2).mono ?_); rintro en w2 ⟨F, fc, rfl, hF, hS2, hb2⟩; have HS2 := Lib.hid hS2; have Hbw2 := Lib.hid (Hbw1.out.trans hb2); have hcvB : (convert 32 9 g.lv).run Try.prog w2 = .ok (.string (strOf g.left)) w2 := conv_rd (Rd.of_own (hS2.hold .p)); have hcvC : (convert 32 9 (.slice F g.left.length fc)).run Try.prog w2 = .ok (.string (strOf g.left)) w2 := conv_rd hF.1; clear hS2 hb2 hF)) | (go_at_call 10; ((with_reducible refine (EndY HS2.out).mono ?_); rintro en w3 ⟨he, hS3, hb3⟩; (have he : en = .returned g.mv := he); subst he; have HS3 := Lib.hid hS3; have Hbw3 := Lib.hid (Hbw2.out.trans hb3); have hcvD : (convert 32 9 g.mv).run Try.prog w3 = .ok (.string (strOf g.lefy)) w3 := conv_rd (Rd.of_own (hS3.hold .inn)); clear hS3 hb3)) | (go_at_call 11; ((with_reducible refine (EndS HS3.out hls H.out.e3 H.out.e4).mono ?_); rintro en w4 ⟨F2, fc2, rfl, hF, hS4, hb4⟩; have HS4 := Lib.hid hS4; have Hbw4 := Lib.hid (Hbw3.out.trans hb4); have hcvE : (convert 32 9 g.mv).run Try.prog w4 = .ok (.string (strOf g.lefy)) w4 := conv_rd (Rd.of_own (hS4.hold .inn)); have hcvF : (convert 32 9 (.slice F2 g.lefy.length fc2)).run Try.prog w4 = .ok (.string (strOf g.lefy)) w4 := conv_rd hF.1; clear hS4 hb4 hF)) | (go_at_call 17; refine (Kept HS4.out (show g.pgs.length ≤ 4294967296 by omega)).mono ?_; rintro en w5 ⟨rfl, hb5⟩; have Hbw5 : Hid (Below w.heap.size w w5) := Hbw4.out.trans hb5; clear hb5))
        all_goals go_wp2_with fail
        all_goals go_ret
        all_goals exact ⟨rfl, Hbw5.out⟩
        --E7>
  · have HN := Lib.hid (New_no least most bits w0 hok)
    simp only [if_neg hok] at HLg
    clear hok
    go_enter Try.func3, Try.ntmps3
    go_wp2_with fail
    refine HN.out.mono ?_
    rintro e w1 ⟨rfl, hb1⟩
    have Hb1 := Lib.hid hb1
    have hz1 : Z < w1.heap.size := by have := Hb1.out.size; omega
    clear hb1 x0 x1 x2 HN
    obtain ⟨x0, x1, x2⟩ := HC.out w1 Hb1.out
    have HL1 := Lib.hid (HLg.out w1 Hb1.out)
    clear HLg
    go_wp2_with fail
    refine HL1.out.mono ?_
    rintro e w2 ⟨rfl, hb2⟩
    clear x0 x1 x2
    go_wp2_with fail
    refine (fixed_any _).mono ?_
    rintro e w3 ⟨rfl, hb3⟩
    have Hb3 : Hid (Below w.heap.size w w3) := bup Hb0.out (bup Hb1.out (bup hb2 hb3))
    clear hb2 hb3 HL1
    go_wp2_with fail
    go_ret
    exact ⟨rfl, hZ ▸ Hb3.out⟩
end Go.Proofs.Ytglkahonejblpaa
