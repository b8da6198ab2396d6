
/-
  Walk: the law WindowLast returns true, whatever the bytes, the pieces and the numbers; nothing that was there is written. Conditions: the lists lie in memory.
-/
import Derived.Test.YtcfaocbdhfmhbaaFresh
import Derived.Test.YtcfaocbdhfmhbaaExt
namespace Go.Proofs.Ytcfaocbdhfmhbaa
open Go.RowKit

set_option pp.deepTerms true
set_option pp.maxSteps 100000
set_option maxHeartbeats 2000000 in
set_option maxRecDepth 100000 in
theorem last_law (size : Int) (A : Option Addr) (n c : Nat) (l : List UInt8) (C : Option Addr) (m mc : Nat) (ks : List Int) (dist nn : Int) (w : World) (h : In w A n l) (hc : n ≤ c) (hI : InI w C m ks) (hdist : -9223372036854775808 ≤ dist ∧ dist ≤ 9223372036854775807)
    (hnn : -9223372036854775808 ≤ nn ∧ nn ≤ 9223372036854775807) :
    Calls Try.prog 5 #[.int .i64 size, .slice A n c, .slice C m mc, .int .i64 dist, .int .i64 nn] w fun e w' => e = .returned (.bool true) ∧ Below w.heap.size w w' := by
  have hl := Lib.hid h.len
  have hn := h.2.2
  have hm := hI.2.1
  obtain ⟨s, hs⟩ : ∃ s, msize size = s := ⟨_, rfl⟩
  have hbd := msize_bd size
  rw [hs] at hbd
  have Hs := Lib.hid hs
  clear hs
  go_enter Try.func5, Try.ntmps5
  go_wp2_with fail
  refine (made_any size none 0 0 [] w (In.nil w)).mono ?_
  rintro e w1 ⟨r1, rfl, hW1, hb1⟩
  rw [Hs.out] at hW1
  have HW1 := Lib.hid hW1
  have Hb1 := Lib.hid hb1
  clear hW1 hb1
  go_wp2_with fail
  go_loopw [12, 14, 30] (fun s12 s14 s30 wr => ∃ (i at_ : Nat) (r : Option Nat), s12 = .int .i64 (at_ : Int) ∧ s30 = .int .i64 (i : Int) ∧ i ≤ m ∧ at_ ≤ n ∧ Hid (Win wr w.heap.size w.heap.size r s (l.take at_)) ∧ Hid (Below w.heap.size w wr)) (fun _ _ s30 _ => m - (intOf s30).toNat)
  case atStart => exact ⟨0, 0, r1, rfl, rfl, Nat.zero_le _, Nat.zero_le _, HW1, Hb1⟩
  case round =>
    clear HW1 Hb1
    obtain ⟨i, at_, r, rfl, rfl, hi, hat, HW, Hb⟩ := hrel
    by_cases him : i < m
    · have him' : (i : Int) < (m : Int) := by omega
      obtain ⟨cb, co, k, rfl, -, -, q0, hk1, hk2⟩ := (hI.below Hb.out).2.2 i him
      go_upto_if 35 with (fail)
      go_cut [14] (fun s14 wx => ∃ k' : Nat, s14 = .int .i64 (k' : Int) ∧ (k' : Int) ≤ 9223372036854775807 ∧ wr = wx)
      case first =>
        by_cases hk : k < 0
        · obtain ⟨k', hk'⟩ : ∃ k' : Nat, (k' : Int) = -(k + 1) := ⟨(-(k + 1)).toNat, by omega⟩
          go_wp2_with fail
          go_meet
          exact ⟨k', by rw [hk'], by omega, rfl⟩
        · obtain ⟨k', hk'⟩ : ∃ k' : Nat, (k' : Int) = k := ⟨k.toNat, by omega⟩
          go_wp2_with fail
          go_meet
          exact ⟨k', by rw [hk'], by omega, rfl⟩
      case rest =>
        clear q0
        obtain ⟨k', rfl, hk', rfl⟩ := hcut
        obtain ⟨q, hq⟩ : ∃ q, q = k' % (n - at_ + 1) := ⟨_, rfl⟩
        have hqx : (k' : Int) % ((n : Int) - (at_ : Int) + 1) = (q : Int) := by
          rw [show (n : Int) - (at_ : Int) + 1 = ((n - at_ + 1 : Nat) : Int) from by omega, hq]; exact (Int.natCast_emod _ _).symm
        have hqn : at_ + q ≤ n := by have := Nat.mod_lt k' (y := n - at_ + 1) (by omega); omega
        clear hq
        go_upto_region 11 with (fail)
        rw [hqx]
        clear hqx
        have hqn' : (at_ : Int) + (q : Int) ≤ (n : Int) := by omega
        have hIw : In wr A n l := h.below Hb.out
        have Hcut := Lib.hid ((hIw.cut (k := at_) hat hc).take (k := at_ + q - at_) (by omega))
        clear hIw
        rcases (by omega : at_ = c ∨ ¬ c = at_) with rfl | hca
        all_goals
          have hc2 := Hcut.out
          first | rw [if_pos rfl] at hc2 | rw [if_neg hca] at hc2
          have Hc2 := Lib.hid hc2
          clear hc2
          go_wp2_with (at_builtin; refine wpList_fresh rfl (.tmp 47) (.tmp 53) rfl _ rfl rfl _ (at_ + q - at_) _ ((l.drop at_).take (at_ + q - at_)) rfl Hc2.out ?_; intro a1 c1 w2 hF; rw [show at_ + q - at_ = q from by omega] at hF; have HF := Lib.hid hF; clear hF)
          refine (Put_fresh HW.out HF.out (by have := hl.out; rw [List.length_take]; omega)).mono ?_
          rintro e w3 hP
          have Hb3 : Hid (Below w.heap.size w w3) := Hb.out.trans ((hP.below HW.out (Nat.le_refl _)))
          obtain ⟨rfl, r3, hW3, -, -⟩ := hP
          have e1 : l.take at_ ++ (l.drop at_).take q = l.take (at_ + q) := by
            rw [List.take_add]
          rw [e1] at hW3
          have HW3 := Lib.hid hW3
          clear hW3 e1
          go_wp2_with fail
          go_roundw
          case rel => exact ⟨i + 1, at_ + q, r3, by go_num, by go_num, by omega, by omega, HW3, Hb3⟩
          case measure => simp [intOf]; omega
    · obtain rfl : i = m := by omega
      go_upto_region 14 with (fail)
      have hIw : In wr A n l := h.below Hb.out
      have Hcut := Lib.hid (hIw.cut (k := at_) hat hc)
      have hat' : (at_ : Int) ≤ (n : Int) := by omega
      clear hIw
      go_cut [] (fun wx => ∃ r' : Option Nat, Hid (Win wx w.heap.size w.heap.size r' s l) ∧ Hid (Below w.heap.size w wx))
      case first =>
        rcases (by omega : at_ = c ∨ ¬ c = at_) with rfl | hca
        all_goals
          have hc2 := Hcut.out
          first | rw [if_pos rfl, show n - at_ = 0 from by omega] at hc2 | rw [if_neg hca] at hc2
          have Hc2 := Lib.hid hc2
          clear hc2
          go_wp2_with (at_builtin; refine wpList_fresh rfl (.tmp 61) (.tmp 64) rfl _ rfl rfl _ _ _ (l.drop at_) rfl Hc2.out ?_; intro a1 c1 w2 hF; have HF := Lib.hid hF; clear hF)
          refine (Put_fresh HW.out HF.out (by have := hl.out; rw [List.length_take]; omega)).mono ?_
          rintro e w3 hP
          have Hb3 : Hid (Below w.heap.size w w3) := Hb.out.trans ((hP.below HW.out (Nat.le_refl _)))
          obtain ⟨rfl, r3, hW3, -, -⟩ := hP
          rw [List.take_append_drop] at hW3
          have HW3 := Lib.hid hW3
          clear hW3 HW Hb
          go_wp2_with fail
          go_meet
          exact ⟨r3, HW3, Hb3⟩
      case rest =>
        clear Hcut HW Hb
        obtain ⟨r3, HW, Hb⟩ := hcut
        have HI3 := Lib.hid (h.below Hb.out)
        go_wp2_with (first | (at_builtin; refine wpList_fresh rfl (.tmp 67) (.tmp 68) rfl _ rfl rfl A n _ l rfl HI3.out ?_; intro a4 c4 w4 hF4))
        have HF4 := Lib.hid hF4
        have HW4 : Hid (Win w4 w.heap.size w.heap.size r3 s l) := hF4.win HW.out
        have Hb4 : Hid (Below w.heap.size w w4) := Hb.out.trans (hF4.2.mono Hb.out.size)
        have hr3 : Hid (∀ k, (k = w.heap.size ∨ some k = r3) → k < wc.heap.size) := by
          intro k hk
          rcases hk with rfl | hk
          · exact HW.out.lt.1
          · exact (HW.out.lt.2 k hk.symm).2
        clear hF4 HW Hb HI3
        have hlen : l.length < 4611686018427380000 := by rw [hl.out]; omega
        have Hlen := Lib.hid hlen
        clear hlen
        have hcases : (1 ≤ dist ∧ dist ≤ full s l ∧ 0 ≤ nn ∧ nn ≤ 273) ∨ (dist < 1) ∨ (1 ≤ dist ∧ (full s l : Int) < dist) ∨ (1 ≤ dist ∧ dist ≤ full s l ∧ nn < 0) ∨ (1 ≤ dist ∧ dist ≤ full s l ∧ 0 ≤ nn ∧ 273 < nn) := by omega
        rcases hcases with ⟨g1, g2, g3, g4⟩ | z1 | ⟨z2, z3⟩ | ⟨z2, z3, z4⟩ | ⟨z2, z3, z4, z5⟩
        all_goals
          first
          | (have gg := g4
             clear gg
             obtain ⟨d, rfl⟩ : ∃ d : Nat, dist = (d : Int) := ⟨dist.toNat, by omega⟩
             obtain ⟨k, rfl⟩ : ∃ k : Nat, nn = (k : Int) := ⟨nn.toNat, by omega⟩
             refine (Copy_yes w.heap.size w.heap.size s r3 l d k w4 HW4.out (by omega) (by omega) (by omega) Hlen.out).mono ?_
             rintro e w5 ⟨A1, c1, r5, rfl, R1⟩
             have HR1 := Lib.hid R1
             clear R1
             have hown5 := own_fr HF4.out.1 HR1.out.fr (fun g hg hk => by have := hr3.out g hk; have := (own_lt HF4.out.1 hg).1; omega)
             have Hown5 := Lib.hid hown5
             have Hb5 : Hid (Below w.heap.size w w5) := Hb4.out.trans (HR1.out.below HW4.out (Nat.le_refl _))
             have hsz5 : wc.heap.size ≤ w5.heap.size := Nat.le_trans HF4.out.2.size HR1.out.fr.size
             have gk : (k : Int) ≤ 273 := g4
             have gf : (d : Int) ≤ (full s (ext d k l) : Int) := by have := full_ext d k s l; omega
             obtain ⟨i0, hi0, hz0, hz1, hz2⟩ := info_parts infou8
             clear hown5
             go_wp2_with fail
             refine (Full_any _ _ s r5 (ext d k l) w5 HR1.out.win).mono ?_
             rintro e w5 ⟨rfl, rfl⟩
             go_upto_if 92 with (fail))
          | (have zz := z2
             clear zz
             refine (Copy_no w.heap.size w.heap.size s r3 l dist nn w4 HW4.out (by omega)).mono ?_
             rintro e w5 ⟨rfl, rfl⟩
             go_wp2_with fail
             refine (Full_any _ _ s r3 l w4 HW4.out).mono ?_
             rintro e w5 ⟨rfl, rfl⟩
             go_upto_if 92 with (fail))
          | (have zz := z1
             clear zz
             refine (Copy_no w.heap.size w.heap.size s r3 l dist nn w4 HW4.out (by omega)).mono ?_
             rintro e w5 ⟨rfl, rfl⟩
             go_upto_if 92 with (fail))
          go_cut [15] (fun s15 wx => ∃ (N : Nat) (aA : Option Addr) (cA : Nat) (L : List UInt8) (r' : Option Nat), s15 = .slice aA N cA ∧ N ≤ 140737488355000 ∧ Hid (Win wx w.heap.size w.heap.size r' s L) ∧ Hid (Rd wx 1 aA N (bys L)) ∧ Hid (Below w.heap.size w wx))
          case first =>
            first
            | (have gg := g4
               clear gg
               go_wp2_with (at_builtin; refine wpList_append_rd rfl (.tmp 108) (.tmp 109) 22 rfl wc.heap.size 5 i0 _ 1 1 Try.underlying22 hi0 hz0 hz1 hz2 rfl (by decide) (.slice a4 n c4) n (bys l) rfl Hown5.out A1 k c1 (bys ((ext d k l).drop l.length)) rfl (Rd.of_own HR1.out.own) (bys_one _) (by simp only [maxLen]; omega) (by omega) hsz5 ?_; intro a6 c6 w6 hown6 hg6 hat6)
               go_meet
               have hne : ∀ g, (g = w.heap.size ∨ r5 = some g) → some g ≠ (Value.slice a4 n c4).ownBlock := fun g hg e => by
                 have h4 := own_lt HF4.out.1 e.symm
                 rcases hg with hg | hg
                 · have := hr3.out g (.inl hg); omega
                 · rcases HR1.out.at_ g hg with h5 | h5
                   · have := hr3.out g (.inr h5.symm); omega
                   · omega
               rw [← bys_append, ← ext_split] at hown6
               refine ⟨n + k, a6, c6, ext d k l, r5, rfl, by omega, ?_, Rd.of_own hown6, ?_⟩
               · exact HR1.out.win.keep (hg6.block _ HR1.out.win.lt.1 (hne _ (.inl rfl))) fun g hg => hg6.block g (HR1.out.win.lt.2 g hg).2 (hne g (.inr hg))
               · refine Below.grown Hb5.out hg6 Hb5.out.size fun g hg => ?_
                 have := (own_lt HF4.out.1 hg).1
                 have := hr3.out w.heap.size (.inl rfl)
                 omega)
            | (go_wp2_with fail
               go_meet
               exact ⟨n, a4, c4, l, r3, rfl, by omega, HW4, Rd.of_own HF4.out.1, Hb4⟩)
          case rest =>
            obtain ⟨N, aA, cA, L, r6, rfl, hN, HW6, HR6, Hb6⟩ := hcut
            have hNl : Hid (L.length = N) := by have := HR6.out.1; rw [bys_length] at this; show L.length = N; omega
            clear HF4 Hb4 hr3
            go_wp2_with fail
            refine (Size_any _ _ s r6 L _ HW6.out).mono ?_
            rintro e w7 ⟨rfl, rfl⟩
            go_upto_region 24 with (fail)
            obtain ⟨q, hq⟩ : ∃ q : Nat, (if s < N then (s : Int) else (N : Int)) = (q : Int) := ⟨min N s, by split <;> omega⟩
            have hqf : Hid (full s L = q) := by
              show full s L = q
              unfold full; rw [hNl.out]; split at hq <;> omega
            rw [hq]
            have hqN : q ≤ N := by split at hq <;> omega
            clear hq
            go_wp2_with fail
            refine (Pos_any _ _ s r6 L _ HW6.out).mono ?_
            rintro e w7 ⟨rfl, rfl⟩
            rw [hNl.out]
            go_wp2_with fail
            refine (Full_any _ _ s r6 L _ HW6.out).mono ?_
            rintro e w7 ⟨rfl, rfl⟩
            rw [hqf.out]
            go_wp2_with fail
            go_loop [19] (fun s19 => ∃ j : Nat, s19 = .int .i64 (j : Int) ∧ 1 ≤ j ∧ j ≤ q + 1) (fun s19 => q + 1 - (intOf s19).toNat)
            case atStart => exact ⟨1, rfl, Nat.le_refl _, by omega⟩
            case round =>
              obtain ⟨j, rfl, hj1, hj2⟩ := hrel
              by_cases hjq : j ≤ q
              · have hjq' : (j : Int) ≤ (q : Int) := by omega
                obtain ⟨bA, oA, rfl, hcA⟩ := HR6.out.cells_at (by omega)
                have hjl : L.length - j < L.length := by have := hNl.out; omega
                obtain ⟨x, hx⟩ : ∃ x, L[L.length - j]? = some x := ⟨_, List.getElem?_eq_getElem hjl⟩
                obtain ⟨p, hp⟩ : ∃ p, p = N - j := ⟨_, rfl⟩
                have hp1 : (N : Int) - (j : Int) = (p : Int) := by omega
                have hp2 : (p : Int) < (N : Int) := by omega
                have q0 := hcA p x (by rw [hp, ← hNl.out]; exact hx)
                have Hx := Lib.hid hx
                clear hp hcA hx
                go_wp2_with fail
                refine (Last_yes _ _ s r6 L j x _ HW6.out hj1 (by rw [hqf.out]; exact hjq) Hx.out).mono ?_
                rintro e w7 ⟨rfl, rfl⟩
                go_wp2_with fail
                go_round
                case rel => exact ⟨j + 1, by go_num, by omega, by omega⟩
                case measure => simp [intOf]; omega
              · obtain rfl : j = q + 1 := by omega
                have hjq' : ¬ ((q : Int) + 1 ≤ (q : Int)) := by omega
                go_wp2_with fail
                refine (Last_no _ _ s r6 L _ _ HW6.out (by rw [hqf.out]; omega)).mono ?_
                rintro e w7 ⟨rfl, rfl⟩
                go_wp2_with fail
                refine (Last_no _ _ s r6 L _ _ HW6.out (by omega)).mono ?_
                rintro e w7 ⟨rfl, rfl⟩
                go_wp2_with fail
                go_ret
                exact ⟨rfl, Hb6.out⟩

theorem last_law_ (size : Int) (A : Option Addr) (n c : Nat) (l : List UInt8) (C : Option Addr) (m mc : Nat) (ks : List Int) (dist nn : Int) (w : World) (_h0 : -9223372036854775808 ≤ size ∧ size ≤ 9223372036854775807) (h : In w A n l) (hc : n ≤ c) (hI : InI w C m ks)
    (hdist : -9223372036854775808 ≤ dist ∧ dist ≤ 9223372036854775807) (hnn : -9223372036854775808 ≤ nn ∧ nn ≤ 9223372036854775807) :
    Calls Try.prog 5 #[.int .i64 size, .slice A n c, .slice C m mc, .int .i64 dist, .int .i64 nn] w fun e w' => e = .returned (.bool true) ∧ Below w.heap.size w w' :=
  last_law size A n c l C m mc ks dist nn w h hc hI hdist hnn
end Go.Proofs.Ytcfaocbdhfmhbaa
