/-
  Walks of the reference's rep and first. Conditions: the data lie in memory.
-/
import Derived.Test.YthlflcnpmabmbaaDoorRfB
import Derived.Test.YthlflcnpmabmbaaDoorPaC
namespace Go.Proofs.YthlflcnpmabmbaaDoor
open Go.RowKit Go.Shelf
attribute [local go_sem] Oper.semAt_some
set_option maxRecDepth 100000

set_option maxHeartbeats 4000000 in
theorem repR_any (A : Option Addr) (m c : Nat) (l : List UInt8) (fr di : Int) (hi p : Nat) (s : St) (w : World) (h : In w A m l) (hm : m ≤ 1048576) (hhi : hi ≤ m) (hmc : m ≤ c) (hp : p ≤ hi) :
    Calls Tryd.prog 69 #[.agg (rfC A m c fr hi di), .int .i64 p, s.v] w fun e w' => e = .returned (.tuple #[.int .i64 ((repP l hi di p s).1 : Int), .int .i64 ((repP l hi di p s).2 : Int)]) ∧ Below w.heap.size w w' := by
  have hR : ∀ i, i < 4 → repGo l hi di p s (i + 1) = repStep l hi di p (repGo l hi di p s i) i (s.rep (i : Int)) := fun i _ => rfl
  have hbd := repGo_bd l hi di p s
  obtain ⟨n, a, b, cc, d⟩ := s
  obtain ⟨w1, hw1⟩ : ∃ w1, (w.alloc (.cells #[.slice A m c, .int .i64 fr, .int .i64 hi, .int .i64 di] 50)).alloc (.cells #[.int .i64 n, .int .i64 a, .int .i64 b, .int .i64 cc, .int .i64 d] 48) = w1 := ⟨_, rfl⟩
  obtain ⟨B, hB⟩ : ∃ B, w.heap.size = B := ⟨_, rfl⟩
  have hb1 : Below w.heap.size w w1 := by rw [← hw1]; exact ((Below.refl _ _).alloc (Nat.le_refl _) _).alloc (by simp) _
  have hP1 : Blk w1 B 50 #[.slice A m c, .int .i64 fr, .int .i64 hi, .int .i64 di] := by rw [← hw1]; exact (Blk.new_at hB.symm).alloc _
  have hBl : Blk w1 (B + 1) 48 #[.int .i64 n, .int .i64 a, .int .i64 b, .int .i64 cc, .int .i64 d] := by rw [← hw1]; exact Blk.new_at (by simp [hB])
  have HUs : Hid (∀ d W, Calls Tryd.prog 70 #[.agg #[.slice A m c, .int .i64 fr, .int .i64 hi, .int .i64 di], .int .i64 p, .int .i64 d] W fun e w' => e = .returned (.bool (decide (1 ≤ d ∧ d ≤ (p : Int) ∧ d ≤ di))) ∧ Below W.heap.size W w') := fun d W => usableR_any A m c fr hi di p d W
  have HRu : Hid (∀ d W, Below w1.heap.size w1 W → 1 ≤ d ∧ d ≤ (p : Int) ∧ d ≤ di → Calls Tryd.prog 71 #[.agg #[.slice A m c, .int .i64 fr, .int .i64 hi, .int .i64 di], .int .i64 p, .int .i64 d] W fun e w' => e = .returned (.int .i64 (runP l hi di p d : Int)) ∧ Below W.heap.size W w') := fun d W hW g => by
    unfold runP
    rw [if_pos g]
    have := runR_any A m c l fr di hi p d.toNat W ((h.below hb1).below hW) (by omega) hhi hmc hp (by omega) (by omega)
    rw [show (d.toNat : Int) = d by omega] at this
    exact this
  have HI := Lib.hid (And.intro hP1 (And.intro hBl hb1))
  obtain ⟨G, hG⟩ : ∃ G : Nat → Nat × Nat, repGo l hi di p ⟨n, a, b, cc, d⟩ = G := ⟨_, rfl⟩
  rw [hG] at hR hbd
  have h0 : G 0 = (0, 0) := by rw [← hG]; rfl
  unfold repP
  rw [hG]
  unfold St.v stC rfC
  simp only []
  have HR := Lib.hid hR
  have Hbd := Lib.hid hbd
  have H0 := Lib.hid h0
  have hpb : p ≤ 1048576 := by omega
  clear h hb1 hP1 hBl hG h0 hR hbd
  go_enter Tryd.func69, Tryd.ntmps69
  go_wp2_with fail
  clear hw1 hB
  go_loopw [8, 9, 10] (fun s8 s9 s10 wr => ∃ i : Nat, s10 = .int .i64 (i : Int) ∧ s8 = .int .i64 ((G i).1 : Int) ∧ s9 = .int .i64 ((G i).2 : Int) ∧ i ≤ 4 ∧ Hid (Below w1.heap.size w1 wr)) (fun _ _ s10 _ => 4 - (intOf s10).toNat)
  case atStart => exact ⟨0, rfl, by rw [H0.out]; rfl, by rw [H0.out]; rfl, by omega, Below.refl _ _⟩
  case round =>
    obtain ⟨i, rfl, rfl, rfl, hi4, HJ⟩ := hrel
    by_cases hlt : i < 4
    · have hlt' : (i : Int) < 4 := by omega
      have hst := HR.out i hlt
      unfold repStep at hst
      obtain ⟨x0, x1, x2, x3⟩ := Blk.four (HI.out.1.below HJ.out)
      obtain ⟨⟨y0, y1, y2, y3, y4⟩, _⟩ := st_five (HI.out.2.1.below HJ.out)
      obtain ⟨dv, hdv0⟩ : ∃ dv, St.rep ⟨n, a, b, cc, d⟩ (i : Int) = dv := ⟨_, rfl⟩
      rw [hdv0] at hst
      have hdv : (i = 0 ∧ dv = a) ∨ (i = 1 ∧ dv = b) ∨ (i = 2 ∧ dv = cc) ∨ (i = 3 ∧ dv = d) := by
        rcases (by omega : i = 0 ∨ i = 1 ∨ i = 2 ∨ i = 3) with rfl | rfl | rfl | rfl
        · exact .inl ⟨rfl, hdv0.symm⟩
        · exact .inr (.inl ⟨rfl, hdv0.symm⟩)
        · exact .inr (.inr (.inl ⟨rfl, hdv0.symm⟩))
        · exact .inr (.inr (.inr ⟨rfl, hdv0.symm⟩))
      clear hdv0
      have hix : ∀ (u : World), (Instr.indexAt 35 (.pointer (some ⟨B + 1, 1, none⟩)) (.int .i64 (i : Int))).run Tryd.prog u = .ok (.pointer (some ⟨B + 1, 1 + i, none⟩)) u := fun u => by
        rcases hdv with ⟨rfl, rfl⟩ | ⟨rfl, rfl⟩ | ⟨rfl, rfl⟩ | ⟨rfl, rfl⟩ <;> kernel_rfl
      have yi : wr.cell? ⟨B + 1, 1 + i, none⟩ = some (.int .i64 dv) := by
        rcases hdv with ⟨rfl, rfl⟩ | ⟨rfl, rfl⟩ | ⟨rfl, rfl⟩ | ⟨rfl, rfl⟩
        · exact y1
        · exact y2
        · exact y3
        · exact y4
      clear hdv y0 y1 y2 y3 y4
      obtain ⟨r, hr⟩ : ∃ r, runP l hi di p dv = r := ⟨_, rfl⟩
      rw [hr] at hst
      have HUd := Lib.hid (HUs.out dv wr)
      obtain ⟨g1, hg1⟩ : ∃ g1, (G i).1 = g1 := ⟨_, rfl⟩
      obtain ⟨g2, hg2⟩ : ∃ g2, (G i).2 = g2 := ⟨_, rfl⟩
      rw [hg1] at hst
      rw [hg1, hg2]
      have Hst := Lib.hid hst
      have Hg1 := Lib.hid hg1
      have Hg2 := Lib.hid hg2
      clear hst hg1 hg2
      by_cases hu : 1 ≤ dv ∧ dv ≤ (p : Int) ∧ dv ≤ di
      · rw [decide_eq_true hu] at HUd
        have HRd := Lib.hid (fun W hW => HRu.out dv W hW hu)
        rw [hr] at HRd
        have hr273 : r ≤ 273 := by rw [← hr]; exact Nat.le_trans (runP_le _ _ _ _ _) (by unfold pmost; omega)
        clear hr hu
        go_wp2_with fail
        refine HUd.out.mono ?_
        rintro e wu ⟨rfl, hbu⟩
        have hb2 := bup HJ.out hbu
        have HJ2 := Lib.hid hb2
        clear x0 x1 x2 x3 hbu HJ HUd yi
        obtain ⟨x0, x1, x2, x3⟩ := Blk.four (HI.out.1.below hb2)
        clear hb2
        go_wp2_with fail
        refine (HRd.out wu HJ2.out).mono ?_
        rintro e wv ⟨rfl, hbv⟩
        have HJ3 := Lib.hid (bup HJ2.out hbv)
        clear hbv x0 x1 x2 x3 HRd
        rcases (by omega : (2 ≤ r ∧ g1 < r) ∨ (¬ 2 ≤ r) ∨ (2 ≤ r ∧ ¬ g1 < r)) with ⟨h2, h3⟩ | h2 | ⟨h2, h3⟩
        · have h2' : (2 : Int) ≤ (r : Int) := by omega
          have h3' : (g1 : Int) < (r : Int) := by omega
          have Hn : Hid (G (i + 1) = (r, i)) := by have := Hst.out; rw [if_pos ⟨h2, h3⟩] at this; exact this
          go_wp2_with fail
          go_roundw
          case rel => exact ⟨i + 1, by go_num, by rw [Hn.out], by rw [Hn.out], by omega, HJ3.out⟩
          case measure => simp [intOf]; omega
        · have h2' : ¬ (2 : Int) ≤ (r : Int) := by omega
          have Hn : Hid (G (i + 1) = G i) := by have := Hst.out; rw [if_neg (fun e => h2 e.1)] at this; exact this
          go_wp2_with fail
          go_roundw
          case rel => exact ⟨i + 1, by go_num, by rw [Hn.out, Hg1.out], by rw [Hn.out, Hg2.out], by omega, HJ3.out⟩
          case measure => simp [intOf]; omega
        · have h2' : (2 : Int) ≤ (r : Int) := by omega
          have h3' : ¬ (g1 : Int) < (r : Int) := by omega
          have Hn : Hid (G (i + 1) = G i) := by have := Hst.out; rw [if_neg (fun e => h3 e.2)] at this; exact this
          go_wp2_with fail
          go_roundw
          case rel => exact ⟨i + 1, by go_num, by rw [Hn.out, Hg1.out], by rw [Hn.out, Hg2.out], by omega, HJ3.out⟩
          case measure => simp [intOf]; omega
      · rw [decide_eq_false hu] at HUd
        have hr0 : r = 0 := by rw [← hr]; unfold runP; rw [if_neg hu]
        have Hn : Hid (G (i + 1) = G i) := by have := Hst.out; rw [if_neg (fun e => by omega)] at this; exact this
        clear hr hr0 hu
        go_wp2_with fail
        refine HUd.out.mono ?_
        rintro e wu ⟨rfl, hbu⟩
        have HJ3 := Lib.hid (bup HJ.out hbu)
        clear hbu
        go_wp2_with fail
        go_roundw
        case rel => exact ⟨i + 1, by go_num, by rw [Hn.out, Hg1.out], by rw [Hn.out, Hg2.out], by omega, HJ3.out⟩
        case measure => simp [intOf]; omega
    · have h4 : i = 4 := by omega
      have hge : ¬ (i : Int) < 4 := by omega
      have H4 := Lib.hid h4
      clear h4
      go_wp2_with fail
      go_ret2
      obtain rfl := H4.out
      exact ⟨rfl, bup HI.out.2.2 HJ.out⟩
set_option maxHeartbeats 8000000 in
theorem firstR_any (A : Option Addr) (m c : Nat) (l : List UInt8) (fr di : Int) (hi p : Nat) (s : St) (w : World) (h : In w A m l) (hm : m ≤ 1048576) (hhi : hi ≤ m) (hmc : m ≤ c) (hp : p < hi) :
    Calls Tryd.prog 50 #[.agg (rfC A m c fr hi di), .int .i64 p, s.v] w fun e w' => e = .returned (firstP l hi di p s).v ∧ Below w.heap.size w w' := by
  obtain ⟨M, hM⟩ : ∃ M, mats l di p (pmost hi p : Int) = M := ⟨_, rfl⟩
  obtain ⟨R, hR⟩ : ∃ R, repP l hi di p s = R := ⟨_, rfl⟩
  obtain ⟨V, hV⟩ : ∃ V, runP l hi di p s.a = V := ⟨_, rfl⟩
  have hF : firstP l hi di p s = if R.1 ≠ 0 ∧ (bestL M).1 ≤ R.1 + 1 then ⟨3, 0, (R.1 : Int), (R.2 : Int)⟩ else if (bestL M).1 ≠ 0 then ⟨2, 0, ((bestL M).1 : Int), ((bestL M).2 : Int)⟩ else if 0 < V then ⟨4, 0, 0, 0⟩ else ⟨1, l.getD p 0, 0, 0⟩ := by
    unfold firstP; rw [hR, hM, hV]
  have hRb := repGo_bd l hi di p s 4
  have hRe : repGo l hi di p s 4 = R := hR
  rw [hRe] at hRb
  have hR273 : R.1 ≤ 273 := Nat.le_trans hRb.1 (by unfold pmost; omega)
  have HM := Lib.hid (MatchesR_any A m c l fr di hi p · · hm hhi hmc hp)
  have HRep := Lib.hid (repR_any A m c l fr di hi p s · · hm hhi hmc (by omega))
  rw [hM] at HM
  rw [hR] at HRep
  have hM32 : M.length ≤ 32 := by rw [← hM]; exact mats_le _ _ _ _
  obtain ⟨r1, r2⟩ := R
  obtain ⟨Yv, hYv⟩ : ∃ Yv, firstP l hi di p s = Yv := ⟨_, rfl⟩
  rw [hYv] at hF ⊢
  simp only [] at hR273 hF
  have HF := Lib.hid hF
  clear hF hRb hRe hYv hR hM
  obtain ⟨n, a, b, cc, d⟩ := s
  unfold St.v stC rfC at HRep
  unfold rfC at HM
  simp only [] at HRep hV
  unfold St.v stC rfC
  simp only []
  obtain ⟨w1, hw1⟩ : ∃ w1, ((w.alloc (.cells #[.slice A m c, .int .i64 fr, .int .i64 hi, .int .i64 di] 50)).alloc (.cells #[.int .i64 n, .int .i64 a, .int .i64 b, .int .i64 cc, .int .i64 d] 48)).alloc (.cells #[.int .i64 0, .int .u8 0, .int .i64 0, .int .i64 0] 24) = w1 := ⟨_, rfl⟩
  obtain ⟨B, hB⟩ : ∃ B, w.heap.size = B := ⟨_, rfl⟩
  have hb1 : Below w.heap.size w w1 := by rw [← hw1]; exact (((Below.refl _ _).alloc (Nat.le_refl _) _).alloc (by simp) _).alloc (by simp only [World.size_alloc]; omega) _
  have hP1 : Blk w1 B 50 #[.slice A m c, .int .i64 fr, .int .i64 hi, .int .i64 di] := by rw [← hw1]; exact ((Blk.new_at hB.symm).alloc _).alloc _
  have hS1 : Blk w1 (B + 1) 48 #[.int .i64 n, .int .i64 a, .int .i64 b, .int .i64 cc, .int .i64 d] := by rw [← hw1]; exact (Blk.new_at (by simp [hB])).alloc _
  have hY1 : Blk w1 (B + 2) 24 #[.int .i64 0, .int .u8 0, .int .i64 0, .int .i64 0] := by rw [← hw1]; exact Blk.new_at (by simp [hB])
  have hz1 : w1.heap.size = B + 3 := by rw [← hw1]; simp [hB]
  have HBz := Lib.hid (And.intro hB hz1)
  have HI := Lib.hid (And.intro (h.below hb1) (And.intro hP1 (And.intro hS1 (And.intro hY1 hb1))))
  have HUs : Hid (∀ W, Calls Tryd.prog 70 #[.agg #[.slice A m c, .int .i64 fr, .int .i64 hi, .int .i64 di], .int .i64 p, .int .i64 a] W fun e w' => e = .returned (.bool (decide (1 ≤ a ∧ a ≤ (p : Int) ∧ a ≤ di))) ∧ Below W.heap.size W w') := fun W => usableR_any A m c fr hi di p a W
  have HRu : Hid (∀ W, Below w1.heap.size w1 W → 1 ≤ a ∧ a ≤ (p : Int) ∧ a ≤ di → Calls Tryd.prog 71 #[.agg #[.slice A m c, .int .i64 fr, .int .i64 hi, .int .i64 di], .int .i64 p, .int .i64 a] W fun e w' => e = .returned (.int .i64 (V : Int)) ∧ Below W.heap.size W w') := fun W hW g => by
    rw [← hV]
    unfold runP
    rw [if_pos g]
    have := runR_any A m c l fr di hi p a.toNat W ((h.below hb1).below hW) (by omega) hhi hmc (by omega) (by omega) (by omega)
    rw [show (a.toNat : Int) = a by omega] at this
    exact this
  have HVu : Hid (¬ (1 ≤ a ∧ a ≤ (p : Int) ∧ a ≤ di) → V = 0) := fun g => by rw [← hV]; unfold runP; rw [if_neg g]
  obtain ⟨x0, x1, x2, x3⟩ := Blk.four hP1
  obtain ⟨⟨y0, y1, y2, y3, y4⟩, _⟩ := st_five hS1
  have hpm : p < m := by omega
  clear h hb1 hP1 hS1 hY1 hz1 hV
  go_enter Tryd.func50, Tryd.ntmps50
  go_wp2_with fail
  clear hw1 hB
  refine (HRep.out w1 HI.out.1).mono ?_
  rintro e w2 ⟨rfl, hb2⟩
  obtain ⟨w3, hw3⟩ : ∃ w3, w2.alloc (.cells #[.int .i64 0, .int .i64 0] 98) = w3 := ⟨_, rfl⟩
  obtain ⟨Mb, hMb⟩ : ∃ Mb, w2.heap.size = Mb := ⟨_, rfl⟩
  have hb3 : Below w1.heap.size w1 w3 := by rw [← hw3]; exact bmk hb2 _
  have hM3 : Blk w3 Mb 98 #[.int .i64 0, .int .i64 0] := by rw [← hw3]; exact Blk.new_at hMb.symm
  have hB3 : B + 3 ≤ Mb := by have := hb2.size; have := HBz.out.2; omega
  have H3 := Lib.hid (And.intro hb3 (And.intro hM3 hB3))
  clear x0 x1 x2 x3 y0 y1 y2 y3 y4 hb2 HRep hM3 hB3
  obtain ⟨x0, x1, x2, x3⟩ := Blk.four (HI.out.2.1.below hb3)
  obtain ⟨q0, q1⟩ := H3.out.2.1.two
  obtain ⟨f0, f1⟩ := And.intro (H3.out.2.1.frozen 0) (H3.out.2.1.frozen 1)
  have hMl := H3.out.2.1.lt
  have nx : ¬ B = Mb := by have := H3.out.2.2; omega
  clear hb3
  go_wp2_with fail
  clear hw3 hMb q0 q1 f0 f1 hMl nx x0 x1 x2 x3
  obtain ⟨w3', hw3'⟩ : ∃ x, (w3.setCell ⟨Mb, 0, none⟩ (.int .i64 0)).setCell ⟨Mb, 1, none⟩ (.int .i64 0) = x := ⟨_, rfl⟩
  have H3' : Hid (Below w1.heap.size w1 w3' ∧ Blk w3' Mb 98 #[.int .i64 0, .int .i64 0] ∧ B + 3 ≤ Mb) := by
    have hs : w1.heap.size ≤ Mb := by have := H3.out.2.2; have := HBz.out.2; omega
    rw [← hw3']
    exact ⟨(H3.out.1.setCell (p := ⟨Mb, 0, none⟩) hs _).setCell (p := ⟨Mb, 1, none⟩) hs _, (H3.out.2.1.set_ 0 _).set_ 1 _, H3.out.2.2⟩
  rw [hw3']
  clear hw3' H3
  refine (HM.out w3' (HI.out.1.below H3'.out.1)).mono ?_
  rintro e w4 ⟨L, lc, rfl, hRow, hb4⟩
  have H4 := Lib.hid (And.intro hRow (And.intro (bup H3'.out.1 hb4) (And.intro (H3'.out.2.1.below hb4) (And.intro H3'.out.2.2 H3'.out.2.1.lt))))
  clear hRow hb4 H3' HM
  go_wp2_with fail
  go_loopw [11] (fun s11 wr => ∃ k : Nat, s11 = .int .i64 (k : Int) ∧ k ≤ M.length ∧ Hid (Blk wr Mb 98 #[.int .i64 ((bestL (M.take k)).1 : Int), .int .i64 ((bestL (M.take k)).2 : Int)] ∧ Fr (fun g => g = Mb) w4 wr)) (fun s11 _ => M.length - (intOf s11).toNat)
  case atStart => exact ⟨0, rfl, Nat.zero_le _, H4.out.2.2.1, Fr.refl _ _⟩
  case round =>
    obtain ⟨k, rfl, hk, HJ⟩ := hrel
    by_cases hlt : k < M.length
    · have hlt' : (k : Int) < (M.length : Int) := by omega
      obtain ⟨⟨m1, m2⟩, hm1⟩ : ∃ x, M[k]? = some x := ⟨_, List.getElem?_eq_getElem hlt⟩
      have hnext : bestL (M.take (k + 1)) = if (bestL (M.take k)).1 < m1 then (m1, m2) else bestL (M.take k) := by rw [take_snoc hm1, bestL_snoc]
      obtain ⟨q1, q2⟩ := HJ.out
      have hRw := own_fr H4.out.1 q2 (fun g hg e => by have := (own_lt H4.out.1 hg).1; have := H4.out.2.2.2.2; omega)
      obtain ⟨g, hLg, e0, e1⟩ := row_get hRw hm1
      obtain ⟨⟨b1, b2⟩, hbb⟩ : ∃ x, bestL (M.take k) = x := ⟨_, rfl⟩
      rw [hbb] at hnext q1
      simp only [] at hnext q1 e0 e1
      obtain ⟨c0, c1⟩ := q1.two
      obtain ⟨f0, f1⟩ := (And.intro (q1.frozen 0) (q1.frozen 1))
      have hMl := q1.lt
      have Hq := Lib.hid (And.intro q1 q2)
      have Hn := Lib.hid hnext
      have Hbb := Lib.hid hbb
      subst hLg
      clear q1 q2 hRw hnext hm1 hbb HJ
      by_cases hb : b1 < m1
      · have hb' : (b1 : Int) < (m1 : Int) := by omega
        go_wp2_with fail
        go_quiet (fail)
        go_wp2_with fail
        go_roundw
        case rel =>
          refine ⟨k + 1, by go_num, by omega, ?_⟩
          rw [Hn.out, if_pos hb]
          exact ⟨((Hq.out.1.drewN _).set_ 0 _).set_ 1 _, ((Hq.out.2.drewN _).setCell (p := ⟨Mb, 0, none⟩) (.inl rfl) _).setCell (p := ⟨Mb, 1, none⟩) (.inl rfl) _⟩
        case measure => simp [intOf]; omega
      · have hb' : ¬ (b1 : Int) < (m1 : Int) := by omega
        go_wp2_with fail
        go_quiet (fail)
        go_wp2_with fail
        go_roundw
        case rel =>
          refine ⟨k + 1, by go_num, by omega, ?_⟩
          rw [Hn.out, if_neg hb]
          exact ⟨Hq.out.1.drewN _, Hq.out.2.drewN _⟩
        case measure => simp [intOf]; omega
    · have hk' : k = M.length := by omega
      have hge : ¬ (k : Int) < (M.length : Int) := by omega
      obtain ⟨q1, q2⟩ := HJ.out
      rw [hk', List.take_length] at q1
      have HBc := Lib.hid (H4.out.2.1.trans (q2.below H4.out.2.1.size (fun g e => by have := H4.out.2.2.2.1; have := HBz.out.2; omega)))
      obtain ⟨⟨m1, m2⟩, hbb⟩ : ∃ x, bestL M = x := ⟨_, rfl⟩
      rw [hbb] at q1
      simp only [] at q1
      have HF2 := HF.out
      rw [hbb] at HF2
      simp only [] at HF2
      have HF3 := Lib.hid HF2
      obtain ⟨c0, c1⟩ := q1.two
      obtain ⟨x0, x1, x2, x3⟩ := Blk.four (HI.out.2.1.below HBc.out)
      obtain ⟨⟨y0, y1, y2, y3, y4⟩, _⟩ := st_five (HI.out.2.2.1.below HBc.out)
      obtain ⟨v0, v1, v2, v3⟩ := (HI.out.2.2.2.1.below HBc.out).four
      obtain ⟨f0, f1, f2, f3⟩ := (HI.out.2.2.2.1.below HBc.out).four_f
      have hYl := (HI.out.2.2.2.1.below HBc.out).lt
      have HBel : Hid (∀ (W : World) (u0 u1 u2 u3 : Value), Below w1.heap.size w1 W → Below w.heap.size w ((((W.setCell ⟨B + 2, 0, none⟩ u0).setCell ⟨B + 2, 1, none⟩ u1).setCell ⟨B + 2, 2, none⟩ u2).setCell ⟨B + 2, 3, none⟩ u3)) := fun W u0 u1 u2 u3 hW => by
        have hB : w.heap.size ≤ B + 2 := by have := HBz.out.1; omega
        exact ((((bup HI.out.2.2.2.2 hW).setCell (p := ⟨B + 2, 0, none⟩) hB _).setCell (p := ⟨B + 2, 1, none⟩) hB _).setCell (p := ⟨B + 2, 2, none⟩) hB _).setCell (p := ⟨B + 2, 3, none⟩) hB _
      clear q1 q2 HF2 HJ HF hbb hk
      rcases (by omega : (r1 ≠ 0 ∧ m1 ≤ r1 + 1) ∨ (r1 ≠ 0 ∧ ¬ m1 ≤ r1 + 1) ∨ (r1 = 0 ∧ m1 ≠ 0) ∨ (r1 = 0 ∧ m1 = 0 ∧ 0 < V) ∨ (r1 = 0 ∧ m1 = 0 ∧ V = 0)) with hr | hr | hr | hr | hr
      · have e : Hid (Yv = ⟨3, 0, (r1 : Int), (r2 : Int)⟩) := by show _ = _; rw [HF3.out, if_pos hr]
        have hr0 : (0 : Int) < (r1 : Int) := by omega
        have hr1 : (m1 : Int) ≤ (r1 : Int) + 1 := by omega
        clear hr
        go_wp2_with fail
        exact bodyPost_ret (v := .agg #[.int .i64 3, .int .u8 0, .int .i64 (r1 : Int), .int .i64 (r2 : Int)]) (by simp [results, Tryd.results50, go_sem, *]) rfl ⟨by rw [e.out]; rfl, HBel.out _ _ _ _ _ HBc.out⟩
      · have e : Hid (Yv = ⟨2, 0, (m1 : Int), (m2 : Int)⟩) := by show _ = _; rw [HF3.out, if_neg (fun h => hr.2 h.2), if_pos (by omega)]
        have hr0 : (0 : Int) < (r1 : Int) := by omega
        have hr1 : ¬ (m1 : Int) ≤ (r1 : Int) + 1 := by omega
        have hm0 : (0 : Int) < (m1 : Int) := by omega
        clear hr
        go_wp2_with fail
        exact bodyPost_ret (v := .agg #[.int .i64 2, .int .u8 0, .int .i64 (m1 : Int), .int .i64 (m2 : Int)]) (by simp [results, Tryd.results50, go_sem, *]) rfl ⟨by rw [e.out]; rfl, HBel.out _ _ _ _ _ HBc.out⟩
      · have e : Hid (Yv = ⟨2, 0, (m1 : Int), (m2 : Int)⟩) := by show _ = _; rw [HF3.out, if_neg (fun h => h.1 hr.1), if_pos hr.2]
        have hr0 : ¬ (0 : Int) < (r1 : Int) := by omega
        have hm0 : (0 : Int) < (m1 : Int) := by omega
        clear hr
        go_wp2_with fail
        exact bodyPost_ret (v := .agg #[.int .i64 2, .int .u8 0, .int .i64 (m1 : Int), .int .i64 (m2 : Int)]) (by simp [results, Tryd.results50, go_sem, *]) rfl ⟨by rw [e.out]; rfl, HBel.out _ _ _ _ _ HBc.out⟩
      · have e : Hid (Yv = ⟨4, 0, 0, 0⟩) := by show _ = _; rw [HF3.out, if_neg (fun h => h.1 hr.1), if_neg (fun h => h hr.2.1), if_pos hr.2.2]
        have hr0 : ¬ (0 : Int) < (r1 : Int) := by omega
        have hm0 : ¬ (0 : Int) < (m1 : Int) := by omega
        have hv0 : (0 : Int) < (V : Int) := by omega
        have hu : 1 ≤ a ∧ a ≤ (p : Int) ∧ a ≤ di := by
          rcases Classical.em (1 ≤ a ∧ a ≤ (p : Int) ∧ a ≤ di) with g | g
          · exact g
          · have := HVu.out g; omega
        have HUd := Lib.hid (HUs.out wr)
        rw [decide_eq_true hu] at HUd
        have HRd := Lib.hid (fun W hW => HRu.out W hW hu)
        clear hr hu
        go_wp2_with fail
        refine HUd.out.mono ?_
        rintro e' wu ⟨rfl, hbu⟩
        have hb5 := bup HBc.out hbu
        have HB5 := Lib.hid hb5
        clear x0 x1 x2 x3 y0 y1 y2 y3 y4 v0 v1 v2 v3 f0 f1 f2 f3 hYl hbu HUd
        obtain ⟨x0, x1, x2, x3⟩ := Blk.four (HI.out.2.1.below hb5)
        obtain ⟨⟨y0, y1, y2, y3, y4⟩, _⟩ := st_five (HI.out.2.2.1.below hb5)
        clear hb5
        go_wp2_with fail
        refine (HRd.out wu HB5.out).mono ?_
        rintro e' wv ⟨rfl, hbv⟩
        have hb6 := bup HB5.out hbv
        have HB6 := Lib.hid hb6
        obtain ⟨v0, v1, v2, v3⟩ := (HI.out.2.2.2.1.below hb6).four
        obtain ⟨f0, f1, f2, f3⟩ := (HI.out.2.2.2.1.below hb6).four_f
        have hYl := (HI.out.2.2.2.1.below hb6).lt
        clear x0 x1 x2 x3 y0 y1 y2 y3 y4 hb6 hbv HRd
        go_wp2_with fail
        exact bodyPost_ret (v := .agg #[.int .i64 4, .int .u8 0, .int .i64 0, .int .i64 0]) (by simp [results, Tryd.results50, go_sem, *]) rfl ⟨by rw [e.out]; rfl, HBel.out _ _ _ _ _ HB6.out⟩
      · have e : Hid (Yv = ⟨1, l.getD p 0, 0, 0⟩) := by show _ = _; rw [HF3.out, if_neg (fun h => h.1 hr.1), if_neg (fun h => h hr.2.1), if_neg (by omega)]
        have hr0 : ¬ (0 : Int) < (r1 : Int) := by omega
        have hm0 : ¬ (0 : Int) < (m1 : Int) := by omega
        have hv0 : ¬ (0 : Int) < (V : Int) := by omega
        have hp0 : (p : Int) < (m : Int) := by omega
        have HUd := Lib.hid (HUs.out wr)
        clear hr
        by_cases hu : 1 ≤ a ∧ a ≤ (p : Int) ∧ a ≤ di
        · rw [decide_eq_true hu] at HUd
          have HRd := Lib.hid (fun W hW => HRu.out W hW hu)
          clear hu
          go_wp2_with fail
          refine HUd.out.mono ?_
          rintro e' wu ⟨rfl, hbu⟩
          have hb5 := bup HBc.out hbu
          have HB5 := Lib.hid hb5
          clear x0 x1 x2 x3 y0 y1 y2 y3 y4 v0 v1 v2 v3 f0 f1 f2 f3 hYl hbu HUd
          obtain ⟨x0, x1, x2, x3⟩ := Blk.four (HI.out.2.1.below hb5)
          obtain ⟨⟨y0, y1, y2, y3, y4⟩, _⟩ := st_five (HI.out.2.2.1.below hb5)
          clear hb5
          go_wp2_with fail
          refine (HRd.out wu HB5.out).mono ?_
          rintro e' wv ⟨rfl, hbv⟩
          have hb6 := bup HB5.out hbv
          have HB6 := Lib.hid hb6
          obtain ⟨v0, v1, v2, v3⟩ := (HI.out.2.2.2.1.below hb6).four
          obtain ⟨f0, f1, f2, f3⟩ := (HI.out.2.2.2.1.below hb6).four_f
          have hYl := (HI.out.2.2.2.1.below hb6).lt
          clear x0 x1 x2 x3 y0 y1 y2 y3 y4 hb6 hbv HRd
          obtain ⟨x0, x1, x2, x3⟩ := Blk.four (HI.out.2.1.below HB6.out)
          obtain ⟨ad, hA, z0⟩ := (HI.out.1.below HB6.out).at_ (j := p) hpm
          rw [hA] at x0
          clear hA
          go_wp2_with fail
          exact bodyPost_ret (v := .agg #[.int .i64 1, .int .u8 ((l.getD p 0).toNat : Int), .int .i64 0, .int .i64 0]) (by simp [results, Tryd.results50, go_sem, *]) rfl ⟨by rw [e.out]; rfl, HBel.out _ _ _ _ _ HB6.out⟩
        · rw [decide_eq_false hu] at HUd
          clear hu
          go_wp2_with fail
          refine HUd.out.mono ?_
          rintro e' wu ⟨rfl, hbu⟩
          have hb6 := bup HBc.out hbu
          have HB6 := Lib.hid hb6
          clear x0 x1 x2 x3 y0 y1 y2 y3 y4 v0 v1 v2 v3 f0 f1 f2 f3 hYl hbu HUd
          obtain ⟨v0, v1, v2, v3⟩ := (HI.out.2.2.2.1.below hb6).four
          obtain ⟨f0, f1, f2, f3⟩ := (HI.out.2.2.2.1.below hb6).four_f
          have hYl := (HI.out.2.2.2.1.below hb6).lt
          obtain ⟨x0, x1, x2, x3⟩ := Blk.four (HI.out.2.1.below hb6)
          obtain ⟨ad, hA, z0⟩ := (HI.out.1.below hb6).at_ (j := p) hpm
          rw [hA] at x0
          clear hA hb6
          go_wp2_with fail
          exact bodyPost_ret (v := .agg #[.int .i64 1, .int .u8 ((l.getD p 0).toNat : Int), .int .i64 0, .int .i64 0]) (by simp [results, Tryd.results50, go_sem, *]) rfl ⟨by rw [e.out]; rfl, HBel.out _ _ _ _ _ HB6.out⟩
end Go.Proofs.YthlflcnpmabmbaaDoor
