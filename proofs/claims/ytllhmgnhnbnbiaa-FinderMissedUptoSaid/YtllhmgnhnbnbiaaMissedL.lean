/-
  Walk of FinderMissed: it answers true. Conditions: the data lie in memory.
-/
import Derived.Test.YtllhmgnhnbnbiaaFiMis
namespace Go.Proofs.Ytllhmgnhnbnbiaa
open Go.RowKit Go.Shelf
attribute [local go_sem] Oper.semAt_some
set_option maxRecDepth 100000

theorem field_len (a b : Int) (w : World) : (Instr.field 30 (.agg #[.int .i64 a, .int .i64 b]) 0).run Try.prog w = .ok (.int .i64 a) w := by kernel_rfl
set_option maxHeartbeats 8000000 in
theorem missed_law (A : Option Addr) (m c : Nat) (l : List UInt8) (dict : Int) (w : World) (h : In w A m l) (h0 : m = 0 → A = none ∧ c = 0 ∨ ∃ a, A = some a) (hmc : m ≤ c) (hm : m ≤ 1048576) :
    Calls Try.prog 3 #[.slice A m c, .int .i64 dict] w fun e w' => e = .returned (.bool true) ∧ Below w.heap.size w w' := by
  by_cases hd : 1 ≤ dict ∧ dict ≤ 4294967295
  · have HI := Lib.hid h
    have HN := Lib.hid (New_ok A m c l dict w h h0 hmc (by omega) hd)
    have hlen : l.length = m := h.len
    have Hlen := Lib.hid hlen
    have hfl := field_len
    have d1 : ¬ dict < 1 := by omega
    have d2 : ¬ 4294967295 < dict := by omega
    clear h h0 hlen
    go_enter Try.func3, Try.ntmps3
    go_wp2_with fail
    refine HN.out.mono ?_
    rintro e w1 ⟨p, rfl, hl, hdc, hL, hT, hF, hb1⟩
    have Hl := Lib.hid hl
    have Hdc := Lib.hid hdc
    have HF := Lib.hid hF
    have Hb1 := Lib.hid hb1
    have HfL : Hid (w.heap.size ≤ p.L ∧ w.heap.size ≤ p.fb ∧ p.fb < p.T) := by have h1 := hF.fs; rw [hL] at h1; rw [hL]; exact ⟨Nat.le_refl _, h1⟩
    clear hl hdc hL hT hF hb1 HN
    go_wp2_with fail
    refine (num_any 0 _).mono ?_
    rintro e w2 ⟨rfl, rfl⟩
    by_cases hbig : 65536 < m
    · have hbig' : (65536 : Int) < (m : Int) := by omega
      go_wp2_with fail
      refine (num_any 0 _).mono ?_
      rintro e w3 ⟨rfl, rfl⟩
      go_wp2_with fail
      go_ret
      exact ⟨rfl, Hb1.out⟩
    · have hbig' : ¬ (65536 : Int) < (m : Int) := by omega
      have hm2 : m ≤ 65536 := by omega
      go_wp2_with fail
      go_loopw [48] (fun s48 wr => ∃ k : Nat, s48 = .int .i64 (k : Int) ∧ k ≤ m ∧ Hid (Fi p k wr ∧ Below w.heap.size w wr)) (fun s48 _ => m - (intOf s48).toNat)
      case atStart => exact ⟨0, rfl, by omega, HF.out, Hb1.out⟩
      case round =>
        obtain ⟨k, rfl, hk, HR⟩ := hrel
        by_cases hlt : k < m
        · have hlt' : (k : Int) < (m : Int) := by omega
          have HFk := Lib.hid HR.out.1
          have HBk := Lib.hid HR.out.2
          clear HR
          go_wp2_with fail
          obtain ⟨ms, hms⟩ : ∃ ms, mats l dict k 273 = ms := ⟨_, rfl⟩
          have Hms := Lib.hid hms
          have H0 : Hid (MS ms 0 0) := by rw [← hms]; exact ms_start
          have hm32 : ms.length ≤ 32 := by rw [← hms]; exact mats_le _ _ _ _
          obtain ⟨wk, hwk⟩ : ∃ wk, wr = wk := ⟨_, rfl⟩
          rw [hwk] at HFk HBk ⊢
          clear hms hwk
          go_loopw [8, 9, 10] (fun s8 s9 s10 wr => ∃ D j : Nat, s10 = .int .i64 ((D : Int) + 1) ∧ s9 = .int .i64 (j : Int) ∧ s8 = .int .i64 ((bestL (ms.take j)).1 : Int) ∧ D ≤ k ∧ j ≤ 32 ∧ Hid (MS ms D j ∧ ∃ n0, wr = wk.drewN n0)) (fun _ _ s10 _ => k + 1 - (intOf s10).toNat)
          case atStart => exact ⟨0, 0, by simp, by simp, by simp [bestL], Nat.zero_le _, Nat.zero_le _, H0.out, 0, rfl⟩
          case round =>
            clear H0
            obtain ⟨D, j, rfl, rfl, rfl, hDk, hj32, HR⟩ := hrel
            obtain ⟨hMS, n0, rfl⟩ := HR.out
            have HMS := Lib.hid hMS
            clear hMS HR
            by_cases hD : D + 1 ≤ k ∧ ((D + 1 : Nat) : Int) ≤ dict
            · obtain ⟨hD1, hD2⟩ := hD
              have hD1' : (D : Int) + 1 ≤ (k : Int) := by omega
              have hD2' : (D : Int) + 1 ≤ dict := by omega
              obtain ⟨n, hn⟩ : ∃ n, ext l (k - (D + 1)) k (lft l k 273) = n := ⟨_, rfl⟩
              have HC : Hid (Calls Try.prog 8 #[.slice A m c, .int .i64 k, .int .i64 ((D : Int) + 1), .int .i64 273] (wk.drewN n0) fun e w' => e = .returned (.int .i64 n) ∧ ∃ q, w' = (wk.drewN n0).drewN q) := by
                have := run_any A m c l k (D + 1) 273 (wk.drewN n0) (HI.out.below (show Below w.heap.size w (wk.drewN n0) from ⟨HBk.out.os, HBk.out.tape, HBk.out.output, HBk.out.size, HBk.out.block⟩)) hmc (by omega) (by omega) hD1
                rw [hn] at this
                exact this
              obtain ⟨b, hb⟩ : ∃ b, (bestL (ms.take j)).1 = b := ⟨_, rfl⟩
              have Hb := Lib.hid hb
              rw [hb]
              have Hn := Lib.hid hn
              have hnb : n ≤ 273 := by rw [← hn]; exact Nat.le_trans (ext_le _ _ _ _) (by unfold lft; omega)
              clear hn hb hD2
              go_wp2_with fail
              refine HC.out.mono ?_
              rintro e w3 ⟨rfl, nq, rfl⟩
              clear HC
              by_cases hn3 : n < 3
              · have hn3' : (n : Int) < 3 := by omega
                have HM2 : Hid (MS ms (D + 1) j) := by have h1 := HMS.out; rw [← Hms.out] at h1 ⊢; exact ms_lt h1 (by rw [Hn.out]; exact hn3)
                go_wp2_with fail
                go_roundw
                case rel => exact ⟨D + 1, j, by go_num, rfl, by rw [Hb.out], by omega, hj32, HM2.out, _, rfl⟩
                case measure => simp [intOf]; omega
              · have hn3' : ¬ (n : Int) < 3 := by omega
                by_cases hj : j = 32
                · have hj' : ((j : Int) == 32) = true := by rw [hj]; rfl
                  have HM2 : Hid (MS ms (D + 1) j) := by have h1 := HMS.out; rw [← Hms.out] at h1 ⊢; rw [hj] at h1 ⊢; exact ms_full h1
                  have Hj := Lib.hid hj
                  clear hj
                  go_wp2_with fail
                  go_roundw
                  case rel => exact ⟨D + 1, j, by go_num, rfl, by rw [Hb.out], by omega, hj32, HM2.out, _, rfl⟩
                  case measure => simp [intOf]; omega
                · have hj' : ((j : Int) == 32) = false := beq_eq_false_iff_ne.2 (by omega)
                  obtain ⟨mm, q1, q2, q3, q4⟩ := ms_hit (l := l) (dict := dict) (p := k) (most := 273) (D := D) (k := j) (by rw [Hms.out]; exact HMS.out) hD1 (by omega) (by rw [Hn.out]; omega) (by omega)
                  rw [Hms.out] at q1 q4
                  rw [Hn.out] at q3
                  have HM2 := Lib.hid q4
                  have hmx : (bestL (ms.take (j + 1))).1 = max b n := by
                    rw [take_snoc q1, bestL_snoc, Hb.out, q3]
                    split
                    · rw [q3]; omega
                    · rw [Hb.out]; omega
                  have Hmx := Lib.hid hmx
                  have hj31 : j + 1 ≤ 32 := by omega
                  clear q1 q2 q3 q4 hmx hj
                  go_wp2_with fail
                  go_roundw
                  case rel => exact ⟨D + 1, j + 1, by go_num, by go_num, by rw [Hmx.out]; simp; omega, by omega, hj31, HM2.out, _, rfl⟩
                  case measure => simp [intOf]; omega
            · have hend : j = ms.length := by have h1 := HMS.out; rw [← Hms.out] at h1 ⊢; exact ms_end h1 hD
              subst hend
              have HD : Hid (¬ ((D : Int) + 1 ≤ (k : Int) ∧ (D : Int) + 1 ≤ dict)) := fun h => hD ⟨by omega, by omega⟩
              have HF2 : Hid (Fi p k (wk.drewN n0)) := HFk.out.keep (fun g _ _ => rfl) (Nat.le_refl _)
              have HB2 : Hid (Below w.heap.size w (wk.drewN n0)) := ⟨HBk.out.os, HBk.out.tape, HBk.out.output, HBk.out.size, HBk.out.block⟩
              rw [List.take_length]
              have HBe := Lib.hid (fun wz (hz : Fi p k wz) => Best_any p k 273 wz hz (by rw [Hl.out, Hlen.out]; omega) (by rw [Hl.out, Hlen.out]; omega) (by rw [Hdc.out]; exact hd))
              rw [Hl.out, Hdc.out, Hms.out] at HBe
              have HAl := Lib.hid (fun wz (hz : Fi p k wz) => all_any p k 273 wz hz (by rw [Hl.out, Hlen.out]; omega) (by rw [Hl.out, Hlen.out]; omega) (by rw [Hdc.out]; exact hd))
              rw [Hl.out, Hdc.out, Hms.out] at HAl
              obtain ⟨⟨b1, b2⟩, hb⟩ : ∃ b, bestL ms = b := ⟨_, rfl⟩
              rw [hb] at HBe ⊢
              unfold mV at HBe
              clear hb HMS
              have hcase : ¬ (D : Int) + 1 ≤ (k : Int) ∨ (D : Int) + 1 ≤ (k : Int) ∧ ¬ (D : Int) + 1 ≤ dict := by
                have := HD.out
                omega
              clear hD
              rcases hcase with hc1 | ⟨hc1, hc2⟩
              all_goals
                go_wp2_with fail
                refine (HBe.out _ HF2.out).mono ?_
                rintro e w5 ⟨rfl, hb5⟩
                have HF5 := Lib.hid (HF2.out.below hb5)
                have HB5 : Hid (Below w.heap.size w w5) := HB2.out.trans (hb5.mono HB2.out.size)
                clear hb5
                go_wp2_with fail
                refine (HAl.out _ HF5.out).mono ?_
                rintro e w6 ⟨L, lc, rfl, _, hb6⟩
                have HF6 := Lib.hid (HF5.out.below hb6)
                have HB6 : Hid (Below w.heap.size w w6) := HB5.out.trans (hb6.mono HB5.out.size)
                clear hb6
                go_wp2_with fail
                refine (Skip_go p k 1 _ HF6.out (by rw [Hl.out, Hlen.out]; omega) (by rw [Hl.out, Hlen.out]; omega)).mono ?_
                rintro e w7 ⟨rfl, hF7, hr7⟩
                have HF7 := Lib.hid hF7
                have HB7 : Hid (Below w.heap.size w w7) := HB6.out.trans (hr7.below HB6.out.size (fun g e => by have := HfL.out; omega))
                clear hF7 hr7
                go_wp2_with fail
                refine (num_any 0 _).mono ?_
                rintro e w8 ⟨rfl, rfl⟩
                go_wp2_with fail
                go_roundw
                case rel => exact ⟨k + 1, by go_num, by omega, HF7.out, HB7.out⟩
                case measure => first | (simp [intOf]; done) | (simp [intOf]; omega)
        · obtain rfl : k = m := by omega
          have HBk := Lib.hid HR.out.2
          clear HR
          have hge : ¬ (k : Int) < (k : Int) := by omega
          go_wp2_with fail
          refine (known_any _).mono ?_
          rintro e w3 ⟨rfl, hb3⟩
          have HB3 := Lib.hid (HBk.out.trans (hb3.mono HBk.out.size))
          clear hb3
          go_wp2_with fail
          go_ret
          exact ⟨rfl, HB3.out⟩
  · have HN := Lib.hid (New_no A m c dict w (by omega))
    go_enter Try.func3, Try.ntmps3
    go_wp2_with fail
    refine HN.out.mono ?_
    rintro e w1 ⟨rfl, rfl⟩
    rcases (by omega : dict < 1 ∨ ¬ dict < 1 ∧ 4294967295 < dict) with h1 | ⟨h1, h2⟩
    · go_wp2_with fail
      refine (num_any 6 _).mono ?_
      rintro e w2 ⟨rfl, rfl⟩
      go_wp2_with fail
      go_ret
      exact ⟨rfl, Below.refl _ _⟩
    · go_wp2_with fail
      refine (num_any 6 _).mono ?_
      rintro e w2 ⟨rfl, rfl⟩
      go_wp2_with fail
      go_ret
      exact ⟨rfl, Below.refl _ _⟩
end Go.Proofs.Ytllhmgnhnbnbiaa
