/-
  Walk of FinderThere: it answers true. Conditions: the data lie in memory.
-/
import Derived.Test.YtllhmgnhnbnbiaaFiPln
import Derived.Deep.RegionHeld3
namespace Go.Proofs.Ytllhmgnhnbnbiaa
open Go.RowKit Go.Shelf
attribute [local go_sem] Oper.semAt_some
set_option maxRecDepth 100000

theorem ents_get : ∀ {ms : List (Nat × Nat)} {i : Nat} {m : Nat × Nat}, ms[i]? = some m → (ents ms)[i * 2]? = some (.int .i64 (m.1 : Int)) ∧ (ents ms)[i * 2 + 1]? = some (.int .i64 (m.2 : Int))
  | [], i, m, h => by simp at h
  | a :: r, 0, m, h => by
    simp at h
    subst h
    exact ⟨rfl, rfl⟩
  | a :: r, i + 1, m, h => by
    have := ents_get (ms := r) (i := i) (m := m) (by simpa using h)
    have he : ents (a :: r) = [.int .i64 (a.1 : Int), .int .i64 (a.2 : Int)] ++ ents r := rfl
    rw [he, List.getElem?_append_right (by simp; omega), List.getElem?_append_right (by simp; omega)]
    simp only [List.length_cons, List.length_nil]
    rw [show (i + 1) * 2 - (0 + 1 + 1) = i * 2 by omega, show (i + 1) * 2 + 1 - (0 + 1 + 1) = i * 2 + 1 by omega]
    exact this
/-- the cells of the i-th match -/
theorem row_get {w : World} {B lc : Nat} {L : Option Addr} {ms : List (Nat × Nat)} {i : Nat} {m : Nat × Nat} (h : w.ownsRow B 30 2 (.slice L ms.length lc) ms.length (ents ms)) (hi : ms[i]? = some m) :
    ∃ g, L = some ⟨g, 0, none⟩ ∧ w.cell? ⟨g, i * 2, none⟩ = some (.int .i64 (m.1 : Int)) ∧ w.cell? ⟨g, i * 2 + 1, none⟩ = some (.int .i64 (m.2 : Int)) := by
  have hl : i < ms.length := (List.getElem?_eq_some_iff.1 hi).1
  obtain ⟨e1, e2⟩ := ents_get hi
  rcases h.2 with ⟨_, h0⟩ | ⟨g, cap, cur, hv, _⟩
  · omega
  · injection hv with a1 a2 a3
    refine ⟨g, a1, ?_, ?_⟩
    · subst a1
      have := h.cellAt (g := g) (cap := lc) (i * 2) (by omega)
      rw [this]
      simp [List.getD, e1]
    · subst a1
      have := h.cellAt (g := g) (cap := lc) (i * 2 + 1) (by omega)
      rw [this]
      simp [List.getD, e2]
structure ThR (p : FP) (k : Nat) (ms : List (Nat × Nat)) (B1 : Nat) (L : Option Addr) (lc bb i : Nat) (w wi : World) : Prop where
  fi : Fi p k wi
  row : wi.ownsRow B1 30 2 (.slice L ms.length lc) ms.length (ents ms)
  rl : ∀ g, (Value.slice L ms.length lc).ownBlock = some g → g < bb
  best : Blk wi bb 30 (mC (bestL (ms.take i)))
  bl : Below w.heap.size w wi
  pl : p.T ≤ bb ∧ w.heap.size ≤ bb
theorem ThR.fr {p : FP} {k : Nat} {ms : List (Nat × Nat)} {B1 : Nat} {L : Option Addr} {lc bb i j : Nat} {w wi w' : World} (h : ThR p k ms B1 L lc bb i w wi) (hf : Fr (fun g => g = bb) wi w') (hb : Blk w' bb 30 (mC (bestL (ms.take j)))) : ThR p k ms B1 L lc bb j w w' :=
  ⟨h.fi.fr hf (fun g _ h2 => by have := h.pl.1; omega), own_fr h.row hf (fun g hg e => by have := h.rl g hg; omega), h.rl, hb, h.bl.trans (hf.below h.bl.size (fun k e => by have := h.pl.2; omega)), h.pl⟩
set_option maxHeartbeats 8000000 in
theorem there_law (A : Option Addr) (m c : Nat) (l : List UInt8) (dict most : Int) (w : World) (h : In w A m l) (h0 : m = 0 → A = none ∧ c = 0 ∨ ∃ a, A = some a) (hmc : m ≤ c) (hm : m ≤ 1048576) :
    Calls Try.prog 4 #[.slice A m c, .int .i64 dict, .int .i64 most] w fun e w' => e = .returned (.bool true) ∧ Below w.heap.size w w' := by
  by_cases hd : 1 ≤ dict ∧ dict ≤ 4294967295
  · have HI := Lib.hid h
    have HN := Lib.hid (New_ok A m c l dict w h h0 hmc (by omega) hd)
    have hlen : l.length = m := h.len
    have Hlen := Lib.hid hlen
    have d1 : ¬ dict < 1 := by omega
    have d2 : ¬ 4294967295 < dict := by omega
    have hq := eqM
    clear h h0 hlen
    go_enter Try.func4, Try.ntmps4
    go_wp2_with fail
    refine HN.out.mono ?_
    rintro e w1 ⟨p, rfl, hl, hdc, hL, hT, hF, hb1⟩
    have Hl := Lib.hid hl
    have Hdc := Lib.hid hdc
    have HF := Lib.hid hF
    have Hb1 := Lib.hid hb1
    have HfL : Hid (w.heap.size ≤ p.L ∧ w.heap.size ≤ p.fb ∧ p.fb < p.T) := by have h1 := hF.fs; rw [hL] at h1; rw [hL]; exact ⟨Nat.le_refl _, h1⟩
    clear hl hdc hL hT hF hb1 HN
    go_wp2_with fail
    refine (num_any 0 _).mono ?_
    rintro e w2 ⟨rfl, rfl⟩
    go_wp2_with fail
    go_loopw [9] (fun s9 wr => ∃ k : Nat, s9 = .int .i64 (k : Int) ∧ k ≤ m + 1 ∧ Hid ((k ≤ m → Fi p k wr) ∧ Below w.heap.size w wr)) (fun s9 _ => m + 1 - (intOf s9).toNat)
    case atStart => exact ⟨0, rfl, by omega, fun _ => HF.out, Hb1.out⟩
    case round =>
      obtain ⟨k, rfl, hk, HR⟩ := hrel
      by_cases hlt : k ≤ m
      · have hlt' : (k : Int) ≤ (m : Int) := by omega
        have HFk := Lib.hid (HR.out.1 hlt)
        have HBk := Lib.hid HR.out.2
        clear HR
        go_wp2_with fail
        refine (Pos_any p k _ HFk.out).mono ?_
        rintro e w3 ⟨rfl, rfl⟩
        go_wp2_with fail
        refine (all_any p k most _ HFk.out (by rw [Hl.out, Hlen.out]; exact hlt) (by rw [Hl.out, Hlen.out]; omega) (by rw [Hdc.out]; exact hd)).mono ?_
        rw [Hl.out, Hdc.out]
        rintro e w4 ⟨L, lc, rfl, hO4, hb4⟩
        obtain ⟨ms, hms⟩ : ∃ ms, mats l dict k most = ms := ⟨_, rfl⟩
        rw [hms] at hO4 ⊢
        have Hms := Lib.hid hms
        have HO4 := Lib.hid hO4
        have HF4 := Lib.hid (HFk.out.below hb4)
        have HB4 := Lib.hid (HBk.out.trans (hb4.mono HBk.out.size))
        clear hms hO4 hb4
        go_wp2_with fail
        obtain ⟨bb, hbb⟩ : ∃ bb, w4.heap.size = bb := ⟨_, rfl⟩
        have HT0 : Hid (ThR p k ms w3.heap.size L lc bb 0 w (w4.alloc (.cells #[.int .i64 0, .int .i64 0] 30))) := by
          have ha : Below w4.heap.size w4 (w4.alloc (.cells #[.int .i64 0, .int .i64 0] 30)) := (Below.refl _ _).alloc (Nat.le_refl _) _
          refine ⟨HF4.out.below ha, own_below HO4.out ha, fun g hg => ?_, Blk.new_at hbb.symm, HB4.out.trans (ha.mono HB4.out.size), ?_⟩
          · have := (own_lt HO4.out hg).2; omega
          · rw [← hbb]; exact ⟨HF4.out.ts, HB4.out.size⟩
        rw [hbb]
        clear hbb
        go_loopw [55] (fun s55 wi => ∃ i : Nat, s55 = .int .i64 (i : Int) ∧ i ≤ ms.length ∧ Hid (ThR p k ms w3.heap.size L lc bb i w wi)) (fun s55 _ => ms.length - (intOf s55).toNat)
        case atStart => exact ⟨0, rfl, Nat.zero_le _, HT0⟩
        case round =>
          clear HT0
          obtain ⟨i, rfl, hi, HT⟩ := hrel
          by_cases hlt2 : i < ms.length
          · have hlt2' : (i : Int) < (ms.length : Int) := by omega
            obtain ⟨mm, hmm⟩ : ∃ mm, ms[i]? = some mm := ⟨_, List.getElem?_eq_getElem hlt2⟩
            obtain ⟨g, hg, z0, z1⟩ := row_get HT.out.row hmm
            subst hg
            obtain ⟨e1, e2, e3, e4, e5, e6, e7⟩ := mats_at (l := l) (dict := dict) (p := k) (most := most) (by rw [Hms.out]; exact hmm)
            rw [Hms.out] at e7
            obtain ⟨m1, m2⟩ := mm
            have z0 : wr.cell? ⟨g, i * 2, none⟩ = some (.int .i64 (m1 : Int)) := z0
            have z1 : wr.cell? ⟨g, i * 2 + 1, none⟩ = some (.int .i64 (m2 : Int)) := z1
            have E1 : Hid (1 ≤ m2 ∧ m2 ≤ k ∧ (m2 : Int) ≤ dict ∧ i < 32 ∧ 3 ≤ m1 ∧ m1 = ext l (k - m2) k (lft l k most)) := ⟨e1, e2, e3, e4, e5, e6⟩
            have E7 : Hid (∀ m', 0 < i → ms[i - 1]? = some m' → m'.2 < m2) := e7
            have Hmm := Lib.hid hmm
            obtain ⟨X, hX⟩ : ∃ X, wr.heap.size = X := ⟨_, rfl⟩
            have HB9 : Hid (bb < X) := by show bb < X; rw [← hX]; exact HT.out.best.lt
            have hgX : g < X := by rw [← hX]; exact World.block_lt_of_cell? _ _ z0
            clear e1 e2 e3 e4 e5 e6 e7 hmm
            go_wp2_with fail
            obtain ⟨W6, hW6⟩ : ∃ W6, wr.alloc (.cells #[.int .i64 (m1 : Int), .int .i64 (m2 : Int)] 30) = W6 := ⟨_, rfl⟩
            rw [hW6]
            have hb6 : Below wr.heap.size wr W6 := by rw [← hW6]; exact (Below.refl _ _).alloc (Nat.le_refl _) _
            have hx6 : Blk W6 X 30 #[.int .i64 (m1 : Int), .int .i64 (m2 : Int)] := by rw [← hW6]; exact Blk.new_at hX.symm
            obtain ⟨x0, x1⟩ := hx6.two
            have HT6 : Hid (ThR p k ms w3.heap.size (some ⟨g, 0, none⟩) lc bb i w W6) := HT.out.fr (Fr.mono (Fr.of_below hb6) (fun i hi h => by omega)) (HT.out.best.below hb6)
            have HX6 := Lib.hid hx6
            have hdA : decide ((m2 : Int) < 1) = false := decide_eq_false (by have := E1.out; omega)
            have hdB : decide ((k : Int) < (m2 : Int)) = false := decide_eq_false (by have := E1.out; omega)
            have hdC : decide (dict < (m2 : Int)) = false := decide_eq_false (by have := E1.out; omega)
            have hdF : decide ((32 : Int) ≤ (i : Int)) = false := decide_eq_false (by have := E1.out; omega)
            have hdB' : decide (k < m2) = false := decide_eq_false (by have := E1.out; omega)
            have hdF' : decide (32 ≤ i) = false := decide_eq_false (by have := E1.out; omega)
            clear hW6 hb6 hx6 HT
            go_cut [93] (fun s93 wy => s93 = .bool false ∧ ∃ n0, wy = W6.drewN n0)
            case first =>
             rcases Nat.eq_zero_or_pos i with hi0 | hi0
             · have hdD' : decide (0 < i) = false := decide_eq_false (by omega)
               clear hi0
               have hdD : decide ((0 : Int) < (i : Int)) = false := decide_eq_false (by have := of_decide_eq_false hdD'; omega)
               go_quiet (fail)
               go_wp2_with fail
               go_meet
               exact ⟨rfl, _, rfl⟩
             · obtain ⟨ip, hip⟩ : ∃ ip, i - 1 = ip := ⟨_, rfl⟩
               obtain ⟨⟨p1, p2⟩, hpm⟩ : ∃ mm, ms[ip]? = some mm := ⟨_, List.getElem?_eq_getElem (by omega)⟩
               obtain ⟨g', hg', y0, y1⟩ := row_get HT6.out.row hpm
               obtain rfl : g = g' := by have := Option.some.inj hg'; injection this
               have hlt7 : p2 < m2 := E7.out (p1, p2) hi0 (by rw [hip]; exact hpm)
               have y1 : W6.cell? ⟨g, ip * 2 + 1, none⟩ = some (.int .i64 (p2 : Int)) := y1
               have hdD : decide ((0 : Int) < (i : Int)) = true := decide_eq_true (by omega)
               have hdE : decide ((m2 : Int) ≤ (p2 : Int)) = false := decide_eq_false (by omega)
               have hdD' : decide (0 < i) = true := decide_eq_true hi0
               have hdE' : decide (m2 ≤ p2) = false := decide_eq_false (by omega)
               have hii : (i : Int) - 1 = (ip : Int) := by omega
               have hi3 : (ip : Int) < (ms.length : Int) := by omega
               have hi4 : ((i : Int) - 1).toNat = ip := by omega
               have hwip : IntKind.i64.wrap (ip : Int) = (ip : Int) := IntWalk.i64_in _ (by have := E1.out; omega)
               have Hpm := Lib.hid hpm
               clear y0 hpm hg' hlt7
               go_quiet (fail)
               go_wp2_with fail
               go_meet
               exact ⟨rfl, _, rfl⟩
            case rest =>
              obtain ⟨rfl, n0, rfl⟩ := hcut
              have HT9 : Hid (ThR p k ms w3.heap.size (some ⟨g, 0, none⟩) lc bb i w (W6.drewN n0)) := HT6.out.fr ((Fr.refl _ W6).drewN _) HT6.out.best
              have q0 : (W6.drewN n0).cell? ⟨X, 0, none⟩ = some (.int .i64 (m1 : Int)) := x0
              have q1 : (W6.drewN n0).cell? ⟨X, 1, none⟩ = some (.int .i64 (m2 : Int)) := x1
              have hXb : X ≠ bb := fun e => by have := HB9.out; omega
              clear HT6 HX6 x0 x1 z0 z1
              obtain ⟨W9, hW9⟩ : ∃ W9, W6.drewN n0 = W9 := ⟨_, rfl⟩
              rw [hW9] at HT9 q0 q1 ⊢
              clear hW9
              have HC : Hid (∀ a, Calls Try.prog 8 #[.slice A m c, .int .i64 k, .int .i64 m2, .int .i64 most] (W9.drewN a) fun e w' => e = .returned (.int .i64 m1) ∧ ∃ q, w' = (W9.drewN a).drewN q) := fun a => by
                have h6 := E1.out
                have := run_any A m c l k m2 most (W9.drewN a) (HI.out.below (show Below w.heap.size w (W9.drewN a) from ⟨HT9.out.bl.os, HT9.out.bl.tape, HT9.out.bl.output, HT9.out.bl.size, HT9.out.bl.block⟩)) hmc (by omega) hlt h6.2.1
                rw [← h6.2.2.2.2.2] at this
                exact this
              have hdG : decide ((m1 : Int) < 3) = false := decide_eq_false (by have := E1.out; omega)
              have hdG' : decide (m1 < 3) = false := decide_eq_false (by have := E1.out; omega)
              go_wp2_with fail
              go_quiet (first | (go_at_call 8; exact Calls.quiet_of (HC.out _)))
              have HT7 : Hid (ThR p k ms w3.heap.size (some ⟨g, 0, none⟩) lc bb i w (W9.drewN nq)) := HT9.out.fr ((Fr.refl _ W9).drewN _) HT9.out.best
              obtain ⟨⟨b1, b2⟩, hbe⟩ : ∃ b, bestL (ms.take i) = b := ⟨_, rfl⟩
              have hbB := HT7.out.best
              rw [hbe] at hbB
              obtain ⟨v0, v1⟩ := hbB.two
              have f0 := hbB.frozen 0
              have f1 := hbB.frozen 1
              have hnx : bestL (ms.take (i + 1)) = if b1 < m1 then (m1, m2) else (b1, b2) := by rw [take_snoc Hmm.out, bestL_snoc, hbe]
              have Hnx := Lib.hid hnx
              have HbB := Lib.hid hbB
              have hbbl := hbB.lt
              obtain ⟨W7, hW7⟩ : ∃ W7, W9.drewN nq = W7 := ⟨_, rfl⟩
              have x0' : W7.cell? ⟨X, 0, none⟩ = some (.int .i64 (m1 : Int)) := by rw [← hW7]; exact q0
              have x1' : W7.cell? ⟨X, 1, none⟩ = some (.int .i64 (m2 : Int)) := by rw [← hW7]; exact q1
              rw [hW7] at v0 v1 f0 f1 HT7 HbB hbbl ⊢
              clear hnx hbe hbB hW7 hdA hdB hdC hdF hdB' hdF' HC HT9 q0 q1 E7
              have hi32 : i < 32 := E1.out.2.2.2.1
              by_cases hlt8 : b1 < m1
              · have hlt8' : (b1 : Int) < (m1 : Int) := by omega
                have HT8 : Hid (ThR p k ms w3.heap.size (some ⟨g, 0, none⟩) lc bb (i + 1) w ((W7.setCell ⟨bb, 0, none⟩ (.int .i64 (m1 : Int))).setCell ⟨bb, 1, none⟩ (.int .i64 (m2 : Int)))) := by
                  refine HT7.out.fr (((Fr.refl (fun g => g = bb) W7).setCell (p := ⟨bb, 0, none⟩) (.inl rfl) _).setCell (p := ⟨bb, 1, none⟩) (.inl rfl) _) ?_
                  rw [Hnx.out, if_pos hlt8]
                  exact (HbB.out.set_ 0 _).set_ 1 _
                clear HT7 Hnx HbB
                go_wp2_with fail
                go_roundw
                case rel => exact ⟨i + 1, by go_num, by omega, HT8⟩
                case measure => simp [intOf]; omega
              · have hlt8' : ¬ (b1 : Int) < (m1 : Int) := by omega
                have HT8 : Hid (ThR p k ms w3.heap.size (some ⟨g, 0, none⟩) lc bb (i + 1) w W7) := by
                  refine HT7.out.fr (Fr.refl _ _) ?_
                  rw [Hnx.out, if_neg hlt8]
                  exact HbB.out
                clear HT7 Hnx HbB
                go_wp2_with fail
                go_roundw
                case rel => exact ⟨i + 1, by go_num, by omega, HT8⟩
                case measure => simp [intOf]; omega
          · obtain rfl : i = ms.length := by omega
            have hge2 : ¬ (ms.length : Int) < (ms.length : Int) := by omega
            have hbB := HT.out.best
            rw [List.take_length] at hbB
            have HBest := Lib.hid (fun wz (hz : Below wr.heap.size wr wz) => Best_any p k most wz (HT.out.fi.below hz) (by rw [Hl.out, Hlen.out]; exact hlt) (by rw [Hl.out, Hlen.out]; omega) (by rw [Hdc.out]; exact hd))
            rw [Hl.out, Hdc.out, Hms.out] at HBest
            obtain ⟨⟨b1, b2⟩, hbe⟩ : ∃ b, bestL ms = b := ⟨_, rfl⟩
            rw [hbe] at HBest hbB
            obtain ⟨v0, v1⟩ := hbB.two
            have hbbl := hbB.lt
            have HbB := Lib.hid hbB
            have HFw := Lib.hid HT.out.fi
            have HBw := Lib.hid HT.out.bl
            clear HT hbe hbB
            unfold mV at HBest
            go_wp2_with fail
            go_cut [119] (fun s119 wy => s119 = .bool false ∧ Hid (Fi p k wy ∧ Below w.heap.size w wy))
            case first =>
              go_region_with (go_at_call 9; refine (HBest.out _ (by first | (with_reducible exact (Below.refl _ _)) | (with_reducible exact (Below.refl _ _).drew))).mono ?_; rintro e w5 ⟨rfl, hb5⟩; have v0' : w5.cell? ⟨bb, 0, none⟩ = some (.int .i64 (b1 : Int)) := (hb5.cell (p := ⟨bb, 0, none⟩) hbbl).trans v0; have v1' : w5.cell? ⟨bb, 1, none⟩ = some (.int .i64 (b2 : Int)) := (hb5.cell (p := ⟨bb, 1, none⟩) hbbl).trans v1; have Hb5 : Hid (Below wr.heap.size wr w5) := ⟨hb5.os, hb5.tape, hb5.output, hb5.size, hb5.block⟩; clear hb5)
              all_goals go_wp2_with fail
              all_goals go_meet
              all_goals exact ⟨rfl, HFw.out.below Hb5.out, HBw.out.trans (Hb5.out.mono HBw.out.size)⟩
            case rest =>
              obtain ⟨rfl, HW⟩ := hcut
              have HFc := Lib.hid HW.out.1
              have HBc := Lib.hid HW.out.2
              clear HW HBest HbB v0 v1
              rcases Nat.lt_or_ge k m with hkm | hkm
              · have HSk := Lib.hid (Skip_go p k 1 _ HFc.out (by rw [Hl.out, Hlen.out]; omega) (by rw [Hl.out, Hlen.out]; omega))
                have hkm' : (k : Int) < (m : Int) := by omega
                go_wp2_with fail
                refine HSk.out.mono ?_
                rintro e w6 ⟨rfl, hF6, hr6⟩
                have HF6 := Lib.hid hF6
                have HB6 : Hid (Below w.heap.size w w6) := HBc.out.trans (hr6.below HBc.out.size (fun g e => by have := HfL.out; omega))
                clear hF6 hr6 HSk
                go_wp2_with fail
                refine (num_any 0 _).mono ?_
                rintro e w7 ⟨rfl, rfl⟩
                go_wp2_with fail
                go_roundw
                case rel => exact ⟨k + 1, by go_num, by omega, fun _ => HF6.out, HB6.out⟩
                case measure => simp [intOf]; omega
              · obtain rfl : k = m := by omega
                have HSk := Lib.hid (Skip_no p k 1 _ HFc.out (by rw [Hl.out, Hlen.out]; omega) (by rw [Hl.out, Hlen.out]; omega) (by omega) (by rw [Hl.out, Hlen.out]; omega) (by omega))
                have hkm' : ¬ (k : Int) < (k : Int) := by omega
                go_wp2_with fail
                refine HSk.out.mono ?_
                rintro e w6 ⟨rfl, nk, rfl⟩
                have HB6 : Hid (Below w.heap.size w (wc.drewN nk)) := below_drewN HBc.out nk
                clear HSk
                go_wp2_with fail
                refine (num_any 7 _).mono ?_
                rintro e w7 ⟨rfl, rfl⟩
                go_wp2_with fail
                go_roundw
                case rel => exact ⟨k + 1, by go_num, by omega, fun h => by omega, HB6.out⟩
                case measure => first | (simp [intOf]; done) | (simp [intOf]; omega)
      · obtain rfl : k = m + 1 := by omega
        have HBk := Lib.hid HR.out.2
        clear HR
        have hge : ¬ ((m + 1 : Nat) : Int) ≤ (m : Int) := by omega
        go_wp2_with fail
        refine (known_any _).mono ?_
        rintro e w3 ⟨rfl, hb3⟩
        have HB3 := Lib.hid (HBk.out.trans (hb3.mono HBk.out.size))
        clear hb3
        go_wp2_with fail
        go_ret
        exact ⟨rfl, HB3.out⟩
  · have HN := Lib.hid (New_no A m c dict w (by omega))
    go_enter Try.func4, Try.ntmps4
    go_wp2_with fail
    refine HN.out.mono ?_
    rintro e w1 ⟨rfl, rfl⟩
    rcases (by omega : dict < 1 ∨ ¬ dict < 1 ∧ 4294967295 < dict) with h1 | ⟨h1, h2⟩
    · go_wp2_with fail
      refine (num_any 6 _).mono ?_
      rintro e w2 ⟨rfl, rfl⟩
      go_wp2_with fail
      go_ret
      exact ⟨rfl, Below.refl _ _⟩
    · go_wp2_with fail
      refine (num_any 6 _).mono ?_
      rintro e w2 ⟨rfl, rfl⟩
      go_wp2_with fail
      go_ret
      exact ⟨rfl, Below.refl _ _⟩
end Go.Proofs.Ytllhmgnhnbnbiaa
