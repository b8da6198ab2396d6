/-
  Walk of ParseEqual: it answers true. Conditions: none.
-/
import Derived.Test.YthlflcnpmabmbaaDoorPaO
namespace Go.Proofs.YthlflcnpmabmbaaDoor
open Go.RowKit Go.Shelf
attribute [local go_sem] Oper.semAt_some
set_option maxRecDepth 100000

theorem InS.cut {w : World} {A : Option Addr} {n c k : Nat} {l : List Sy} (h : InS w A n l) (hk : k ≤ n) (hc : n ≤ c) : InS w (if c = k then A else A.map (·.add (k * 4))) (n - k) (l.drop k) := by
  have hr := h.1.cut hk hc
  have e : (syc l).drop (k * 4) = syc (l.drop k) := by
    have : syc l = syc (l.take k) ++ syc (l.drop k) := by rw [← syc_append, List.take_append_drop]
    rw [this, List.drop_append_of_le_length (by rw [syc_length, List.length_take, h.len]; omega), List.drop_of_length_le (by rw [syc_length, List.length_take]; omega), List.nil_append]
  rw [e] at hr
  refine ⟨hr, fun h0 ad had => ?_, by have := h.2.2; omega⟩
  split at had
  · exact h.2.1 (by omega) ad had
  · cases A with
    | none => cases had
    | some a =>
      obtain ⟨h1, h2⟩ := h.2.1 (by omega) a rfl
      simp only [Option.map_some, Option.some.injEq] at had
      subst had
      rw [block_add]
      refine ⟨h1, ?_⟩
      obtain ⟨b, o, s⟩ := a
      simp only [] at h2
      subst h2
      unfold Addr.add
      split <;> rfl
set_option maxHeartbeats 4000000 in
theorem equal_law (b : UInt8) (n : Int) (w : World) (hb : -9223372036854775808 ≤ n ∧ n ≤ 9223372036854775807) (hl : Laid w) :
    Calls Tryd.prog 4 #[.int .u8 (b.toNat : Int), .int .i64 n] w fun e w' => e = .returned (.bool true) ∧ Below w.heap.size w w' := by
  obtain ⟨i0, hi0, hz0, hz1, hz2⟩ := info_parts infosy
  obtain ⟨i1, hi1, hy0, hy1, hy2⟩ := info_parts infou8
  by_cases hn : n < 1 ∨ 1200 < n
  · rcases hn with h | h
    · go_enter Tryd.func4, Tryd.ntmps4
      go_wp2_with fail
      go_ret
      exact ⟨rfl, Below.refl _ _⟩
    · have h1 : ¬ n < 1 := by omega
      go_enter Tryd.func4, Tryd.ntmps4
      go_wp2_with fail
      go_ret
      exact ⟨rfl, Below.refl _ _⟩
  · obtain ⟨n, rfl⟩ : ∃ k : Nat, n = (k : Int) := ⟨n.toNat, by omega⟩
    have hn1 : (1 : Int) ≤ (n : Int) := by omega
    have hn2 : (n : Int) ≤ 1200 := by omega
    have hn3 : ¬ (n : Int) < 1 := by omega
    have hn4 : ¬ (1200 : Int) < (n : Int) := by omega
    have HL := Lib.hid hl
    clear hn hl hb
    go_enter Tryd.func4, Tryd.ntmps4
    go_wp2_with fail
    go_loopw [5, 6] (fun s5 s6 wr => ∃ (i : Nat) (L : Option Addr) (lc : Nat), s5 = .slice L i lc ∧ s6 = .int .i64 (i : Int) ∧ i ≤ n ∧ Hid (wr.ownsRow w.heap.size 5 1 (.slice L i lc) i (bys (List.replicate i b)) ∧ Below w.heap.size w wr)) (fun _ s6 _ => n - (intOf s6).toNat)
    case atStart => exact ⟨0, none, 0, rfl, rfl, Nat.zero_le _, World.ownsRow_nil _ _ _ _, Below.refl _ _⟩
    case round =>
      obtain ⟨i, L, lc, rfl, rfl, hi, HI⟩ := hrel
      by_cases hlt : i < n
      · have hlt' : (i : Int) < (n : Int) := by omega
        have hsz := HI.out.2.size
        go_wp2_with (at_builtin; refine wpList_append_rd (w := wr.alloc (.cells #[.int .u8 (b.toNat : Int)] 5)) rfl (.tmp 28) (.tmp 30) 34 rfl w.heap.size 5 i1 _ 1 1 Tryd.underlying34 hi1 hy0 hy1 hy2 rfl (by decide) (.slice L i lc) i (bys (List.replicate i b)) rfl (HI.out.1.alloc _) (some ⟨wr.heap.size, 0, none⟩) 1 1 (bys [b]) rfl (Rd.of_blk (Blk.new _ _ _) rfl rfl) (bys_one _) (by simp only [maxLen]; omega) (by omega) (by simp; omega) ?_; intro L2 lc2 we hown hg hat)
        have hbe : Below w.heap.size w we := Below.grown (HI.out.2.alloc HI.out.2.size _) hg (by have := HI.out.2.size; simp; omega) (fun k hk => (own_lt HI.out.1 hk).1)
        have HE : Hid (we.ownsRow w.heap.size 5 1 (.slice L2 (i + 1) lc2) (i + 1) (bys (List.replicate (i + 1) b)) ∧ Below w.heap.size w we) := ⟨by rw [List.replicate_succ', bys_append]; exact hown, hbe⟩
        clear hown hg hat hbe
        go_wp2_with fail
        go_roundw
        case rel => exact ⟨i + 1, L2, lc2, by go_num, by go_num, by omega, HE.out⟩
        case measure => simp [intOf]; omega
      · obtain rfl : i = n := by omega
        have hge : ¬ (i : Int) < (i : Int) := by omega
        have hIn : In wr L i (List.replicate i b) := In.of_own HI.out.1 (by omega)
        have hlc : i ≤ lc := own_le HI.out.1
        have HIn := Lib.hid hIn
        have HG : Hid (∀ W, Below wr.heap.size wr W → Calls Tryd.prog 13 #[.slice L i lc, .int .i64 0, .int .i64 i, .int .i64 4096, stV 0 1 1 1 1] W fun e w' => ∃ (A : Option Addr) (c : Nat) (S : St), e = .returned (.tuple #[.slice A (1 + (i - 1 + 272) / 273) c, .agg (stC S.n S.a S.b S.c S.d), .int .i64 0]) ∧ InS w' A (1 + (i - 1 + 272) / 273) (⟨1, b, 0, 0⟩ :: reps (i - 1) (i - 1)) ∧ 1 + (i - 1 + 272) / 273 ≤ c ∧ Below W.heap.size W w') := fun W hW => by
          have := Greedy_ok L i lc (List.replicate i b) 0 i 4096 St.start W (hIn.below hW) (fun h => by omega) hlc (by omega) (by omega) (Nat.le_refl _) (by decide) start_right (HL.out.below (bup HI.out.2 hW))
          rw [greedy_equal i b (by omega)] at this
          refine this.mono ?_
          rintro e w' ⟨A, c, rfl, h1, h2⟩
          rw [List.length_cons, reps_len _ _ (Nat.le_refl _), Nat.add_comm _ 1] at h1 ⊢
          exact ⟨A, c, _, rfl, InS.of_own h1 (by omega), own_le h1, h2⟩
        have HB0 : Hid (Below w.heap.size w wr) := HI.out.2
        have HPl : Hid (∀ W, Below wr.heap.size wr W → Calls Tryd.prog 15 #[.slice L i lc, .int .i64 0, .int .i64 i, .int .i64 4096] W fun e w' => ∃ (A : Option Addr) (k c : Nat), e = .returned (.tuple #[.slice A k c, .int .i64 0]) ∧ InS w' A k (planL (List.replicate i b) 0 i 4096) ∧ Below W.heap.size W w') := fun W hW => by
          have := Plan_ok L i lc (List.replicate i b) 0 i 4096 W (hIn.below hW) (fun h => by omega) hlc (by omega) (by omega) (Nat.le_refl _) (by decide) (HL.out.below (bup HI.out.2 hW))
          have hfl := fits_len (planL_fits (List.replicate i b) 0 i 4096 (by decide) (by omega))
          refine this.mono ?_
          rintro e w' ⟨A, c, rfl, h1, h2⟩
          exact ⟨A, _, c, rfl, InS.of_own h1 (by omega), h2⟩
        have hpr := plan_price (List.replicate i b) 0 i 4096 (by decide) (by omega)
        have hpb := rep_price0 i b (by omega)
        have hpn := planR_bd (List.replicate i b) i 4096 (i - 0) 0
        obtain ⟨PL, hPL⟩ : ∃ PL, planL (List.replicate i b) 0 i 4096 = PL := ⟨_, rfl⟩
        rw [hPL] at hpr HPl
        obtain ⟨price, hprice⟩ : ∃ pr, (planT (List.replicate i b) i 4096 0).2 = pr := ⟨_, rfl⟩
        rw [hprice] at hpr hpb
        have hHpr := Lib.hid hpr
        have hpn0 : 0 ≤ price := by rw [← hprice]; exact hpn.1
        clear hIn HI hPL hprice hpr hpn
        go_wp2_with fail
        refine (New_any wr).mono ?_
        rintro e w1 ⟨rfl, hb1⟩
        have Hb1 := Lib.hid hb1
        clear hb1
        go_wp2_with fail
        refine (HG.out w1 Hb1.out).mono ?_
        rintro e w2 ⟨A, c, ⟨Sn, Sa, Sb, Sc, Sd⟩, rfl, hI2, hc2, hb2⟩
        have HI2 := Lib.hid (And.intro hI2 (bup Hb1.out hb2))
        obtain ⟨k, hk⟩ : ∃ k, (i - 1 + 272) / 273 = k := ⟨_, rfl⟩
        have hrl := reps_len (i - 1) (i - 1) (Nat.le_refl _)
        rw [hk] at hrl hI2 hc2 HI2 ⊢
        have hkd : (((i : Int) - 1 + 272) / 273) = (k : Int) := by omega
        have hkk : k ≤ 5 := by omega
        simp only [stC]
        obtain ⟨yb, yo, y, rfl, hy, hyb, y0, y1, y2, y3⟩ := hI2.at (i := 0) (by omega)
        obtain rfl : y = ⟨1, b, 0, 0⟩ := by simpa using hy.symm
        simp only [] at y0 y1 y2 y3
        clear hI2 hb2 HG Hb1 hk hy
        have HR := Lib.hid hrl
        clear hrl
        obtain ⟨K, hK⟩ : ∃ K, 1 + k = K := ⟨_, rfl⟩
        simp only [hK] at HI2 hc2 ⊢
        go_upto_region 9 with (fail)
        obtain ⟨w3, hw3⟩ : ∃ w3, w2.alloc (.cells #[.int .i64 Sn, .int .i64 Sa, .int .i64 Sb, .int .i64 Sc, .int .i64 Sd] 37) = w3 := ⟨_, rfl⟩
        have hb3 : Below w2.heap.size w2 w3 := by rw [← hw3]; exact (Below.refl _ _).alloc (Nat.le_refl _) _
        have hI3 : InS w3 (some ⟨yb, yo, none⟩) K (⟨1, b, 0, 0⟩ :: reps (i - 1) (i - 1)) := HI2.out.1.below hb3
        obtain ⟨yb', yo', y, hyA, hy, hyb, y0, y1, y2, y3⟩ := hI3.at (i := 0) (by omega)
        obtain rfl : y = ⟨1, b, 0, 0⟩ := by simpa using hy.symm
        obtain ⟨rfl, rfl⟩ : yb = yb' ∧ yo = yo' := by injection hyA with e; injection e with e1 e2; exact ⟨e1, e2⟩
        simp only [Nat.zero_mul, Nat.zero_add, Nat.add_zero] at y0 y1 y2 y3
        simp only [hw3]
        have HI3 := Lib.hid (And.intro hI3 (bup HI2.out.2 hb3))
        have hKI : (1 : Int) + (k : Int) = (K : Int) := by omega
        have hKI2 : (1 : Int) ≤ (K : Int) := by omega
        have htd : Int.tdiv ((i : Int) - 1 + 272) 273 = (k : Int) := by rw [Int.tdiv_eq_ediv_of_nonneg (by omega)]; exact hkd
        have HK := Lib.hid hK
        have Hkd := Lib.hid hkd
        clear hw3 hb3 hI3 hyA hy hK hkd HI2
        go_upto_region 12 with (fail)
        clear y0 y1 y2 y3
        go_cut [63, 64, 65] from 62 to 65 (fun s63 s64 s65 wy => ∃ A2 cp, s63 = .slice A2 (K - 1) cp ∧ s64 = .int .i64 ((K - 1 : Nat) : Int) ∧ s65 = .int .i64 0 ∧ wy = w3 ∧ Hid (InS w3 A2 (K - 1) (reps (i - 1) (i - 1))))
        case first =>
          have hcut := InS.cut (k := 1) HI3.out.1 (by omega) hc2
          by_cases hc1 : c = 1
          · rw [if_pos hc1] at hcut
            have Hc := Lib.hid hcut
            clear hcut
            go_wp2_with fail
            go_meet
            exact ⟨_, _, rfl, rfl, rfl, rfl, Hc.out⟩
          · rw [if_neg hc1] at hcut
            have Hc := Lib.hid hcut
            clear hcut
            go_wp2_with fail
            go_meet
            exact ⟨_, _, rfl, rfl, rfl, rfl, Hc.out⟩
        case rest =>
          obtain ⟨A2, cp, rfl, rfl, rfl, rfl, HA2⟩ := hcut
          go_wp2_with fail
          have hkk2 : K - 1 = k := by have := HK.out; omega
          rw [hkk2] at HA2 ⊢
          obtain ⟨w0, rfl⟩ : ∃ w0, w0 = wr := ⟨_, rfl⟩
          go_loopw [10, 65] (fun s10 s65 wr => ∃ (j q : Nat), s65 = .int .i64 (j : Int) ∧ s10 = .int .i64 (q : Int) ∧ j ≤ k ∧ q ≤ i ∧ Hid ((reps (i - 1) (i - 1)).drop j = reps q q ∧ Below wc.heap.size wc wr)) (fun _ s65 _ => k - (intOf s65).toNat)
          case atStart => exact ⟨0, i - 1, rfl, by go_num, Nat.zero_le _, by omega, rfl, Below.refl _ _⟩
          case round =>
            obtain ⟨j, q, rfl, rfl, hj, hq, HJ⟩ := hrel
            have hql := reps_len q q (Nat.le_refl _)
            have hdl : ((reps (i - 1) (i - 1)).drop j).length = k - j := by rw [List.length_drop, HR.out]
            rw [HJ.out.1, hql] at hdl
            by_cases hlt : j < k
            · have hlt' : (j : Int) < (k : Int) := by omega
              have hq1 : 1 ≤ q := by omega
              obtain ⟨q', hq'⟩ : ∃ q', q = q' + 1 := ⟨q - 1, by omega⟩
              have hst := reps_step q' q hq1
              rw [← hq'] at hst
              obtain ⟨M, hM⟩ : ∃ M, min q 273 = M := ⟨_, rfl⟩
              rw [hM] at hst
              have hMI : min (q : Int) 273 = (M : Int) := by omega
              obtain ⟨b2, o2, y, hyA, hy, hyb, y0, y1, y2, y3⟩ := (HA2.out.below HJ.out.2).at hlt
              have hd := drop_at hy
              rw [HJ.out.1, hst] at hd
              injection hd with e1 e2
              have HN : Hid ((reps (i - 1) (i - 1)).drop (j + 1) = reps (q - M) (q - M)) := by
                show _ = _
                rw [← e2]; exact reps_fuel _ _ _ (by omega) (by omega)
              subst hyA
              have HB := Lib.hid HJ.out.2
              rw [← Nat.add_assoc] at y1 y2 y3
              have hqM : (q : Int) - (M : Int) = ((q - M : Nat) : Int) := by omega
              clear hst e2 hy HJ hql hdl hq'
              by_cases hq1' : q = 1
              · rw [if_pos hq1'] at e1
                subst e1
                simp only [] at y0 y1 y2 y3
                have hqe : ((q : Int) == 1) = true := by simp [hq1']
                clear hq1'
                go_wp2_with fail
                go_roundw
                case rel => exact ⟨j + 1, q - M, by go_num, by go_num, by omega, by omega, HN.out, bmk (bmk HB.out _) _⟩
                case measure => simp [intOf]; omega
              · rw [if_neg hq1'] at e1
                subst e1
                simp only [] at y0 y1 y2 y3
                have hqe : ((q : Int) == 1) = false := by simp; omega
                go_wp2_with fail
                go_roundw
                case rel => exact ⟨j + 1, q - M, by go_num, by go_num, by omega, by omega, HN.out, bmk (bmk HB.out _) _⟩
                case measure => simp [intOf]; omega
            · obtain rfl : j = k := by omega
              obtain rfl : q = 0 := by omega
              have hge : ¬ (j : Int) < (j : Int) := by omega
              have HB : Hid (Below w0.heap.size w0 wr) := bup HI3.out.2 HJ.out.2
              clear HJ hql hdl
              go_wp2_with fail
              refine (HPl.out wr HB.out).mono ?_
              rintro e w4 ⟨A4, k4, c4, rfl, hI4, hb4⟩
              have HP4 := Lib.hid (Prices_any A4 k4 c4 PL w4 hI4 (HL.out.below (bup HB0.out (bup HB.out hb4))))
              have HB4 : Hid (Below w0.heap.size w0 w4) := bup HB.out hb4
              rw [hHpr.out] at HP4
              clear hb4 hI4
              go_wp2_with fail
              refine HP4.out.mono ?_
              rintro e w5 ⟨rfl, hb5⟩
              have Hb5 : Hid (Below w0.heap.size w0 w5) := bup HB4.out hb5
              have hq1 : Int.tdiv ((i : Int) - 1) 273 = (((i - 1) / 273 : Nat) : Int) := by rw [Int.tdiv_eq_ediv_of_nonneg (by omega)]; omega
              have hq2 : Int.tmod ((i : Int) - 1) 273 = (((i - 1) % 273 : Nat) : Int) := by rw [Int.tmod_eq_emod_of_nonneg (by omega)]; omega
              clear hb5 HP4
              go_wp2_with fail
              go_ret
              exact ⟨by rw [decide_eq_true (by omega)]; rfl, bup HB0.out Hb5.out⟩
end Go.Proofs.YthlflcnpmabmbaaDoor
