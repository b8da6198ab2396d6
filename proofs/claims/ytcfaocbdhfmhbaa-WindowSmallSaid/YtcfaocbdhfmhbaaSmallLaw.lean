
/-
  Walk: the law WindowSmall returns true, whatever the bytes and the steps; nothing that was there is written. Conditions: the lists lie in memory.
-/
import Derived.Test.YtcfaocbdhfmhbaaTwo
import Derived.Test.YtcfaocbdhfmhbaaStr
namespace Go.Proofs.Ytcfaocbdhfmhbaa
open Go.RowKit

/-- the small window's size -/
def ssize (size : Int) : Nat := if size < 1 ∨ 1000 < size then 5 else size.toNat
theorem ssize_bd (size : Int) : 1 ≤ ssize size ∧ ssize size ≤ 1000 := by unfold ssize; split <;> omega
theorem msize_small (s : Nat) (h1 : 1 ≤ s) (h2 : s ≤ 2000) : msize (s : Int) = s := by unfold msize; rw [if_neg (by omega)]; omega
theorem msize_2000 : msize 2000 = 2000 := by decide
set_option pp.deepTerms true
set_option maxHeartbeats 2000000 in
set_option maxRecDepth 100000 in
theorem small_law (size : Int) (A : Option Addr) (n c : Nat) (l : List UInt8) (C : Option Addr) (m mc : Nat) (w : World) (h : In w A n l) (hI : InOps w C m) (hm : m ≤ 140737488351232) :
    Calls Try.prog 6 #[.int .i64 size, .slice A n c, .slice C m mc] w fun e w' => e = .returned (.bool true) ∧ Below w.heap.size w w' := by
  have hl := Lib.hid h.len
  have hn := h.2.2
  obtain ⟨s, hs⟩ : ∃ s, ssize size = s := ⟨_, rfl⟩
  have hbd := ssize_bd size
  rw [hs] at hbd
  have Hs := Lib.hid hs
  clear hs
  go_enter Try.func6, Try.ntmps6
  go_upto_region 1 with (fail)
  go_cut [27] (fun s27 wx => ∃ t : Bool, s27 = .bool t ∧ Hid (t = decide (size < 1 ∨ 1000 < size)) ∧ w = wx)
  case first =>
    rcases (by omega : size < 1 ∨ (1 ≤ size ∧ 1000 < size) ∨ (1 ≤ size ∧ size ≤ 1000)) with h1 | ⟨h1, h2⟩ | ⟨h1, h2⟩
    all_goals
      go_wp2_with fail
      go_meet
      refine ⟨_, rfl, ?_, rfl⟩
      show _ = _
      first | exact (decide_eq_true (by omega)).symm | exact (decide_eq_false (by omega)).symm | exact decide_eq_decide.2 (by omega) | simp
  case rest =>
    obtain ⟨t, rfl, ht, rfl⟩ := hcut
    go_upto_if 27 with (fail)
    go_cut [0] (fun s0 wx => s0 = .int .i64 (s : Int) ∧ w = wx)
    case first =>
      have h3 := Hs.out
      unfold ssize at h3
      cases t
      · have ht := of_decide_eq_false ht.out.symm
        rw [if_neg ht] at h3
        have h4 : size = (s : Int) := by omega
        subst h4
        go_wp2_with fail
        go_meet
        exact ⟨rfl, rfl⟩
      · have ht := of_decide_eq_true ht.out.symm
        rw [if_pos ht] at h3
        subst h3
        go_wp2_with fail
        go_meet
        exact ⟨rfl, rfl⟩
    case rest =>
      obtain ⟨rfl, rfl⟩ := hcut
      go_wp2_with fail
      refine (made_any (s : Int) A n c l w h).mono ?_
      rintro e w1 ⟨r1, rfl, hW1, hb1⟩
      rw [msize_small s (by omega) (by omega)] at hW1
      have HW1 := Lib.hid hW1
      have Hb1 := Lib.hid hb1
      clear hW1 hb1
      go_wp2_with fail
      refine (made_any 2000 A n c l w1 (h.below Hb1.out)).mono ?_
      rintro e w2 ⟨r2, rfl, hW2, hb2⟩
      rw [msize_2000] at hW2
      have hPQ : w.heap.size < w1.heap.size := HW1.out.lt.1
      have HB : Hid (TwoW w w2 w.heap.size w1.heap.size s 2000 r1 r2 l l) := ⟨HW1.out.below hb2, hW2, fun g hg e => by have := (HW1.out.lt.2 g hg).2; have := (hW2.lt.2 g e).1; omega, Hb1.out.trans (hb2.mono Hb1.out.size), by omega, Nat.le_refl _, Hb1.out.size⟩
      clear hW2 hb2 HW1 Hb1
      obtain ⟨P, hP⟩ : ∃ P, w.heap.size = P := ⟨_, rfl⟩
      obtain ⟨Q, hQ⟩ : ∃ Q, w1.heap.size = Q := ⟨_, rfl⟩
      rw [hP, hQ] at HB hPQ
      rw [hP, hQ]
      have Hl0 : Hid (l.length ≤ n) := by show l.length ≤ n; have := hl.out; omega
      have HP := Lib.hid hP
      clear hP hQ
      go_wp2_with fail
      go_loopw [41] (fun s41 wr => ∃ (i : Nat) (r1 r2 : Option Nat) (all : List UInt8), s41 = .int .i64 (i : Int) ∧ i ≤ m ∧ Hid (all.length ≤ n + 400 * i) ∧ Hid (TwoW w wr P Q s 2000 r1 r2 all all)) (fun s41 _ => m - (intOf s41).toNat)
      case atStart => exact ⟨0, r1, r2, l, rfl, Nat.zero_le _, Hl0, HB⟩
      case round =>
        clear HB Hl0
        obtain ⟨i, r1, r2, all, rfl, hi, Hall, HB⟩ := hrel
        by_cases him : i < m
        · have him' : (i : Int) < (m : Int) := by omega
          obtain ⟨cb, co, kind, wn, dist, nn, B, bn, bc, bl, rfl, ho0⟩ := hI i him
          have Hsrc := Lib.hid ho0.src
          have ho := ho0.below HB.out.below
          have Ho := Lib.hid ho
          clear ho0
          obtain ⟨o0, o1, o2, o3, o4⟩ : _ ∧ _ ∧ _ ∧ _ ∧ _ := ⟨ho.c0, ho.c1, ho.c2, ho.c3, ho.c4⟩
          clear ho
          obtain ⟨N, hN⟩ : ∃ N, wr.heap.size = N := ⟨_, rfl⟩
          go_upto_region 10 with (fail)
          have hBk0 := Blk.new wr 39 (opCells kind wn dist nn B bn bc)
          have HB0 := Lib.hid (HB.out.later ((Below.refl _ wr).alloc (Nat.le_refl _) (.cells (opCells kind wn dist nn B bn bc) 39)))
          have HoA := Lib.hid (Ho.out.below ((Below.refl _ wr).alloc (Nat.le_refl _) (.cells (opCells kind wn dist nn B bn bc) 39)))
          unfold opCells at hBk0 HB0 HoA
          rw [hN] at hBk0
          obtain ⟨wa, hwa⟩ : ∃ wa, wr.alloc (.cells #[.int .i64 kind, .int .i64 wn, .int .i64 dist, .int .i64 nn, .slice B bn bc] 39) = wa := ⟨_, rfl⟩
          rw [hwa] at hBk0 HB0 HoA ⊢
          clear hwa hN o0 o1 o2 o3 o4 HB Ho
          obtain ⟨q0, q1, q2, q3, q4⟩ := hBk0.five
          have HBk := Lib.hid hBk0
          go_upto_region 10 with (fail)
          go_cut [53] (fun s53 wx => ∃ t : Bool, s53 = .bool t ∧ Hid (t = decide (kind = 1 ∧ bn ≤ 100)) ∧ wa = wx)
          case first =>
            by_cases hk1 : kind = 1
            · have hk : (kind == 1) = true := beq_iff_eq.2 hk1
              have Hk1 := Lib.hid hk1
              clear hk1
              go_wp2_with fail
              go_meet
              refine ⟨_, rfl, ?_, rfl⟩
              show _ = _
              rw [Hk1.out]
              first | exact (decide_eq_true (by omega)).symm | exact (decide_eq_false (by omega)).symm | exact decide_eq_decide.2 (by omega) | simp
            · have hk : (kind == 1) = false := beq_eq_false_iff_ne.2 hk1
              have Hk1 := Lib.hid hk1
              clear hk1
              go_wp2_with fail
              go_meet
              refine ⟨_, rfl, ?_, rfl⟩
              exact (decide_eq_false (fun h => Hk1.out h.1)).symm
          case rest =>
            obtain ⟨t, rfl, ht, rfl⟩ := hcut
            go_upto_if 53 with (fail)
            go_cut [] (fun wx => ∃ (r1 r2 : Option Nat) (all : List UInt8), Hid (all.length ≤ n + 400 * i + 100) ∧ Hid (TwoW w wx P Q s 2000 r1 r2 all all) ∧ Hid (Blk wx N 39 #[.int .i64 kind, .int .i64 wn, .int .i64 dist, .int .i64 nn, .slice B bn bc]))
            case first =>
              cases t
              · go_wp2_with fail
                go_meet
                exact ⟨r1, r2, all, by have := Hall.out; show _ ≤ _; omega, HB0, HBk⟩
              · have hkb := of_decide_eq_true ht.out.symm
                have hb100 : bn ≤ 100 := hkb.2
                clear hkb ht
                have HIn : Hid (In wa B bn bl) := ⟨HoA.out.rd, HoA.out.src, by omega⟩
                have qa := (HBk.out.alloc (.cells #[] 5)).cell_ 4 rfl
                go_wp2_with (at_builtin; refine wpList_fresh rfl (.tmp 55) (.tmp 57) rfl _ rfl rfl B bn _ bl rfl HIn.out ?_; intro a1 c1 w1 hF; have HF := Lib.hid hF; clear hF)
                refine (Put_fresh HB0.out.one HF.out (by have := Hall.out; omega)).mono ?_
                rintro e w3 ⟨rfl, r3, hW3, hFr3, hA3⟩
                have hT3 := HB0.out.left hFr3 hW3 hA3
                have hBk3 := blk_past HBk.out HB0.out.one hFr3 (by decide) (by decide)
                have HIn3 := Lib.hid (in_past HIn.out Hsrc.out HB0.out.base.1 HB0.out.one hFr3)
                have HT3 := Lib.hid hT3
                have HBk3 := Lib.hid hBk3
                have qb := (hBk3.alloc (.cells #[] 5)).cell_ 4 rfl
                clear hW3 hFr3 hA3 hT3 hBk3 qa q0 q1 q2 q3 q4 HIn HF
                go_wp2_with (at_builtin; refine wpList_fresh rfl (.tmp 61) (.tmp 63) rfl _ rfl rfl B bn _ bl rfl HIn3.out ?_; intro a4 c4 w4 hF; have HF := Lib.hid hF; clear hF)
                refine (Put_fresh HT3.out.two HF.out (by have := Hall.out; omega)).mono ?_
                rintro e w5 ⟨rfl, r5, hW5, hFr5, hA5⟩
                have HT5 := Lib.hid (HT3.out.right hFr5 hW5 hA5)
                have HBk5 := Lib.hid (blk_past HBk3.out HT3.out.two hFr5 (by decide) (by decide))
                have Hlen5 : Hid ((all ++ bl).length ≤ n + 400 * i + 100) := by
                  have h1 := HIn3.out.len
                  have h2 := Hall.out
                  show _ ≤ _
                  rw [List.length_append]; omega
                clear hW5 hFr5 hA5
                go_wp2_with fail
                go_meet
                exact ⟨r3, r5, all ++ bl, Hlen5, HT5, HBk5⟩
            case rest =>
              have hk2 := ht
              clear HB0 HBk Hall q0 q1 q2 q3 q4 HoA ht hk2
              obtain ⟨r1, r2, all, Hall, HB, HBk⟩ := hcut
              obtain ⟨q0, q1, q2, q3, q4⟩ := HBk.out.five
              by_cases hk2 : kind = 2
              · have hk : (kind == 2) = true := beq_iff_eq.2 hk2
                have hk' : (kind != 2) = false := by rw [hk2]; rfl
                clear hk2
                have hN : N < wc.heap.size := HBk.out.lt
                go_wp2_with fail
                have hcases : (1 ≤ dist ∧ dist ≤ full s all ∧ 0 ≤ nn ∧ nn ≤ 273) ∨ (dist < 1) ∨ (1 ≤ dist ∧ (full s all : Int) < dist) ∨ (1 ≤ dist ∧ dist ≤ full s all ∧ nn < 0) ∨ (1 ≤ dist ∧ dist ≤ full s all ∧ 0 ≤ nn ∧ 273 < nn) := by omega
                have hfs : full s all ≤ s := full_le
                have hf2 : full s all ≤ full 2000 all := by unfold full; omega
                rcases hcases with ⟨g1, g2, g3, g4⟩ | z1 | ⟨z2, z3⟩ | ⟨z2, z3, z4⟩ | ⟨z2, z3, z4, z5⟩
                · obtain ⟨d, rfl⟩ : ∃ d : Nat, dist = (d : Int) := ⟨dist.toNat, by omega⟩
                  obtain ⟨k, rfl⟩ : ∃ k : Nat, nn = (k : Int) := ⟨nn.toNat, by omega⟩
                  have hlen : all.length < 4611686018427380000 := by have := Hall.out; omega
                  have Hlen := Lib.hid hlen
                  clear hlen
                  refine (Copy_yes P P s r1 all d k wc HB.out.one (by omega) (by omega) (by omega) Hlen.out).mono ?_
                  rintro e w5 ⟨A1, c1, r3, rfl, R1⟩
                  have HR1 := Lib.hid R1
                  have HT5 := Lib.hid (HB.out.left R1.fr R1.win R1.at_)
                  have hBk5 := blk_past HBk.out HB.out.one R1.fr (by decide) (by decide)
                  have HBk5 := Lib.hid hBk5
                  clear R1 q0 q1 q2 q3 q4
                  obtain ⟨q0, q1, q2, q3, q4⟩ := hBk5.five
                  clear hBk5
                  go_wp2_with fail
                  refine (Copy_yes Q Q 2000 r2 all d k w5 HT5.out.two (by omega) (by omega) (by omega) Hlen.out).mono ?_
                  rintro e w6 ⟨A2, c2, r4, rfl, R2⟩
                  have HT6 := Lib.hid (HT5.out.right R2.fr R2.win R2.at_)
                  have hBk6 := blk_past HBk5.out HT5.out.two R2.fr (by decide) (by decide)
                  have hx6 := own_fr HR1.out.own R2.fr (fun g hg hk => by
                    have h1 := (own_lt HR1.out.own hg).1
                    rcases hk with hk | hk
                    · have := HB.out.two.lt.1; omega
                    · have := (HB.out.two.lt.2 g hk.symm).2; omega)
                  have kx := conv_rd (c := c1) (Rd.of_own hx6)
                  have ky := conv_rd (c := c2) (Rd.of_own R2.own)
                  obtain ⟨X, hX⟩ : ∃ X, strOf ((ext d k all).drop all.length) = X := ⟨_, rfl⟩
                  rw [hX] at kx ky
                  have gs : (d : Int) ≤ (s : Int) := by omega
                  have Hlen6 : Hid ((ext d k all).length ≤ n + 400 * (i + 1)) := by have := Hall.out; show _ ≤ _; rw [ext_length]; omega
                  clear R2 q0 q1 q2 q3 q4 hx6 hX
                  obtain ⟨q0, q1, q2, q3, q4⟩ := hBk6.five
                  go_wp2_with fail
                  go_roundw
                  case rel => exact ⟨i + 1, r3, r4, ext d k all, by go_num, by omega, Hlen6, HT6⟩
                  case measure => simp [intOf]; omega
                · have y1 : decide (1 ≤ dist) = false := decide_eq_false (by omega)
                  refine (Copy_no P P s r1 all dist nn wc HB.out.one (by omega)).mono ?_
                  rintro e w5 ⟨rfl, rfl⟩
                  have Hlen6 : Hid (all.length ≤ n + 400 * (i + 1)) := by have := Hall.out; show _ ≤ _; omega
                  go_wp2_with fail
                  go_quiet (fail)
                  go_wp2_with fail
                  go_roundw
                  case rel => exact ⟨i + 1, r1, r2, all, by go_num, by omega, Hlen6, HB.out.later (below_drewN (Below.refl _ _) _)⟩
                  case measure => simp [intOf]; omega
                · have y1 : decide (dist ≤ (full s all : Int)) = false := decide_eq_false (by omega)
                  refine (Copy_no P P s r1 all dist nn wc HB.out.one (by omega)).mono ?_
                  rintro e w5 ⟨rfl, rfl⟩
                  have Hlen6 : Hid (all.length ≤ n + 400 * (i + 1)) := by have := Hall.out; show _ ≤ _; omega
                  go_wp2_with fail
                  go_quiet ((go_at_call 16; exact Calls.quiet_of_same ((Full_any P P s r1 all _ (HB.out.one.below (below_drewN (Below.refl _ _) _))).mono fun _ _ h => ⟨h.1, h.2.symm⟩)))
                  go_wp2_with fail
                  go_roundw
                  case rel => exact ⟨i + 1, r1, r2, all, by go_num, by omega, Hlen6, HB.out.later (below_drewN (Below.refl _ _) _)⟩
                  case measure => simp [intOf]; omega
                · have y1 : decide (0 ≤ nn) = false := decide_eq_false (by omega)
                  refine (Copy_no P P s r1 all dist nn wc HB.out.one (by omega)).mono ?_
                  rintro e w5 ⟨rfl, rfl⟩
                  have Hlen6 : Hid (all.length ≤ n + 400 * (i + 1)) := by have := Hall.out; show _ ≤ _; omega
                  go_wp2_with fail
                  go_quiet ((go_at_call 16; exact Calls.quiet_of_same ((Full_any P P s r1 all _ (HB.out.one.below (below_drewN (Below.refl _ _) _))).mono fun _ _ h => ⟨h.1, h.2.symm⟩)))
                  go_wp2_with fail
                  go_roundw
                  case rel => exact ⟨i + 1, r1, r2, all, by go_num, by omega, Hlen6, HB.out.later (below_drewN (Below.refl _ _) _)⟩
                  case measure => simp [intOf]; omega
                · have y1 : decide (nn ≤ 273) = false := decide_eq_false (by omega)
                  refine (Copy_no P P s r1 all dist nn wc HB.out.one (by omega)).mono ?_
                  rintro e w5 ⟨rfl, rfl⟩
                  have Hlen6 : Hid (all.length ≤ n + 400 * (i + 1)) := by have := Hall.out; show _ ≤ _; omega
                  go_wp2_with fail
                  go_quiet ((go_at_call 16; exact Calls.quiet_of_same ((Full_any P P s r1 all _ (HB.out.one.below (below_drewN (Below.refl _ _) _))).mono fun _ _ h => ⟨h.1, h.2.symm⟩)))
                  go_wp2_with fail
                  go_roundw
                  case rel => exact ⟨i + 1, r1, r2, all, by go_num, by omega, Hlen6, HB.out.later (below_drewN (Below.refl _ _) _)⟩
                  case measure => simp [intOf]; omega
              · have hk : (kind == 2) = false := beq_eq_false_iff_ne.2 hk2
                have hk' : (kind != 2) = true := bne_iff_ne.2 hk2
                clear hk2
                have Hlen6 : Hid (all.length ≤ n + 400 * (i + 1)) := by have := Hall.out; show _ ≤ _; omega
                go_wp2_with fail
                go_roundw
                case rel => exact ⟨i + 1, r1, r2, all, by go_num, by omega, Hlen6, HB⟩
                case measure => simp [intOf]; omega
        · obtain rfl : i = m := by omega
          have hfs : full s all ≤ s := full_le
          have hf2 : full s all ≤ full 2000 all := by unfold full; omega
          go_wp2_with fail
          go_loop [15] (fun s15 => ∃ j : Nat, s15 = .int .i64 (j : Int) ∧ 1 ≤ j ∧ j ≤ s + 1) (fun s15 => s + 1 - (intOf s15).toNat)
          case atStart => exact ⟨1, rfl, Nat.le_refl _, by omega⟩
          case round =>
            obtain ⟨j, rfl, hj1, hj2⟩ := hrel
            by_cases hjs : j ≤ s
            · have hjs' : (j : Int) ≤ (s : Int) := by omega
              by_cases hja : j ≤ all.length
              · have hja' : (j : Int) ≤ (all.length : Int) := by omega
                have hjf : j ≤ full s all := by unfold full; omega
                obtain ⟨x, hx⟩ : ∃ x, all[all.length - j]? = some x := ⟨_, List.getElem?_eq_getElem (by omega)⟩
                have Hx := Lib.hid hx
                clear hx
                go_wp2_with fail
                refine (Last_yes _ _ s r1 all j x _ HB.out.one hj1 hjf Hx.out).mono ?_
                rintro e w7 ⟨rfl, rfl⟩
                go_wp2_with fail
                refine (Last_yes _ _ 2000 r2 all j x _ HB.out.two hj1 (by omega) Hx.out).mono ?_
                rintro e w7 ⟨rfl, rfl⟩
                go_wp2_with fail
                refine (Pos_any _ _ s r1 all _ HB.out.one).mono ?_
                rintro e w7 ⟨rfl, rfl⟩
                go_wp2_with fail
                go_round
                case rel => exact ⟨j + 1, by go_num, by omega, by omega⟩
                case measure => simp [intOf]; omega
              · have hja' : ¬ (j : Int) ≤ (all.length : Int) := by omega
                have hfl : full s all ≤ all.length := full_len
                have hfl2 : full 2000 all ≤ all.length := full_len
                go_wp2_with fail
                refine (Last_no _ _ s r1 all _ _ HB.out.one (by omega)).mono ?_
                rintro e w7 ⟨rfl, rfl⟩
                go_wp2_with fail
                refine (Last_no _ _ 2000 r2 all _ _ HB.out.two (by omega)).mono ?_
                rintro e w7 ⟨rfl, rfl⟩
                go_wp2_with fail
                refine (Pos_any _ _ s r1 all _ HB.out.one).mono ?_
                rintro e w7 ⟨rfl, rfl⟩
                go_wp2_with fail
                go_round
                case rel => exact ⟨j + 1, by go_num, by omega, by omega⟩
                case measure => simp [intOf]; omega
            · obtain rfl : j = s + 1 := by omega
              have hjs' : ¬ ((s : Int) + 1 ≤ (s : Int)) := by omega
              go_wp2_with fail
              refine (Last_no _ _ s r1 all _ _ HB.out.one (by omega)).mono ?_
              rintro e w7 ⟨rfl, rfl⟩
              go_wp2_with fail
              refine (Pos_any _ _ s r1 all _ HB.out.one).mono ?_
              rintro e w7 ⟨rfl, rfl⟩
              go_wp2_with fail
              refine (Pos_any _ _ 2000 r2 all _ HB.out.two).mono ?_
              rintro e w7 ⟨rfl, rfl⟩
              go_wp2_with fail
              go_ret
              exact ⟨rfl, HB.out.below⟩

theorem small_law_ (size : Int) (A : Option Addr) (n c : Nat) (l : List UInt8) (C : Option Addr) (m mc : Nat) (_ks : Unit) (w : World) (_h0 : -9223372036854775808 ≤ size ∧ size ≤ 9223372036854775807) (h : In w A n l) (_hc : n ≤ c) (hI : InOps w C m ∧ m ≤ 140737488351232) :
    Calls Try.prog 6 #[.int .i64 size, .slice A n c, .slice C m mc] w fun e w' => e = .returned (.bool true) ∧ Below w.heap.size w w' :=
  small_law size A n c l C m mc w h hI.1 hI.2
end Go.Proofs.Ytcfaocbdhfmhbaa
