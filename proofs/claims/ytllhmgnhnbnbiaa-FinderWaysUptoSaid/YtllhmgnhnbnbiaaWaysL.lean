/-
  Walk of FinderWays: it answers true. Conditions: the data and the steps lie in memory.
-/
import Derived.Test.YtllhmgnhnbnbiaaWaysP
import Derived.Test.YtllhmgnhnbnbiaaFiTail
import Derived.Maps.OwnIn
namespace Go.Proofs.Ytllhmgnhnbnbiaa
open Go.RowKit Go.Shelf
attribute [local go_sem] Oper.semAt_some
set_option maxRecDepth 100000

theorem run_store_func_ (P : Program) (w : World) (ad : Addr) (f : Fn) (a b : Array Value) (m : Mode) : (store ad (.func f a b) m).run P w = stored P w ad (.func f a b) m := run_store P w ad _ m rfl
attribute [local go_sem] run_store_func_
theorem InI.below {w w' : World} {A : Option Addr} {n : Nat} {l : List Int} (h : InI w A n l) (hb : Below w.heap.size w w') : InI w' A n l :=
  ⟨h.1, h.2.1, fun i hi => by
    obtain ⟨b, off, k, e1, e2, e3, e4, e5⟩ := h.2.2 i hi
    exact ⟨b, off, k, e1, e2, Nat.lt_of_lt_of_le e3 hb.size, (hb.cell (p := ⟨b, off + i, none⟩) e3).trans e4, e5⟩⟩
/-- how often the inner range's body has run behind k rounds of the outer -/
def inn (k N : Nat) : Nat := min k 2 * N
theorem inn_lt {k j N : Nat} (hk : k < 2) (hj : j < N) : inn k N + j < 2 * N ∧ Int.tmod ((inn k N + j : Nat) : Int) (N : Int) = (j : Int) := by
  have h : inn k N = k * N := by unfold inn; rw [show min k 2 = k by omega]
  rw [h]
  refine ⟨?_, ?_⟩
  · rcases (by omega : k = 0 ∨ k = 1) with rfl | rfl <;> omega
  · rw [← Int.ofNat_tmod]
    congr 1
    rw [Nat.add_comm, Nat.add_mul_mod_self_right, Nat.mod_eq_of_lt hj]
theorem inn_next {k N : Nat} (hk : k < 2) : inn k N + N = inn (k + 1) N := by
  unfold inn
  rw [show min k 2 = k by omega, show min (k + 1) 2 = k + 1 by omega, Nat.add_mul, Nat.one_mul]
theorem box_wp {pf pg : FP} {sb rb fbx posf posg : Nat} {stop : Int} {w W : World} (h : WP pf pg sb rb fbx stop posf posg w W) : W.cell? ⟨fbx, 0, none⟩ = some (.pointer (some ⟨pf.fb, 0, none⟩)) ∧ W.cell? ⟨sb, 0, none⟩ = some (.int .i64 stop) ∧ W.cell? ⟨rb, 0, none⟩ = some (.bool false) ∧ fbx < W.heap.size ∧ sb < W.heap.size ∧ rb < W.heap.size :=
  ⟨h.bf.one, h.bs.one, h.br.one, h.bf.lt, h.bs.lt, h.br.lt⟩
theorem ways_end {w W : World} {Z D1 D2 D3 : Nat} (hZ : w.heap.size = Z) (hb : Below w.heap.size w W) (h1 : Z + 1 < D1) (h2 : D1 < D2) (h3 : D2 < D3)
    (hM1 : W.heap[D1]? = some (.deferred (some []))) (hM2 : W.heap[D2]? = some (.deferred (some []))) (hM3 : W.heap[D3]? = some (.deferred (some []))) {tb : TypeId} {cs : Array Value} (hrs : Blk W (Z + 1) tb cs) (wz : World) (hz : Below W.heap.size W wz) (u : Value) :
    (wz.setCell ⟨Z + 1, 0, none⟩ u).heap[D3]? = some (.deferred (some [])) ∧ (∀ o, ((wz.setCell ⟨Z + 1, 0, none⟩ u).putObj D3 o).heap[D2]? = some (.deferred (some []))) ∧ (∀ o o', (((wz.setCell ⟨Z + 1, 0, none⟩ u).putObj D3 o).putObj D2 o').heap[D1]? = some (.deferred (some []))) ∧
      ∀ o1 o2 o3, (0 < cs.size → ((((wz.setCell ⟨Z + 1, 0, none⟩ u).putObj D3 o1).putObj D2 o2).putObj D1 o3).cell? ⟨Z + 1, 0, none⟩ = some u) ∧ Below w.heap.size w ((((wz.setCell ⟨Z + 1, 0, none⟩ u).putObj D3 o1).putObj D2 o2).putObj D1 o3) := by
  have hl1 := (Array.getElem?_eq_some_iff.1 hM1).1
  have hl2 := (Array.getElem?_eq_some_iff.1 hM2).1
  have hl3 := (Array.getElem?_eq_some_iff.1 hM3).1
  have hsz := hz.size
  have F1 := (Fr.refl (fun k => k = Z + 1) wz).setCell (p := ⟨Z + 1, 0, none⟩) (.inl rfl) u
  have F2 := fun o => ((Fr.refl (fun k => k = Z + 1 ∨ k = D3) wz).setCell (p := ⟨Z + 1, 0, none⟩) (.inl (.inl rfl)) u).put_ (l := D3) (.inr rfl) o
  have F3 := fun o o' => (((Fr.refl (fun k => k = Z + 1 ∨ k = D3 ∨ k = D2) wz).setCell (p := ⟨Z + 1, 0, none⟩) (.inl (.inl rfl)) u).put_ (l := D3) (.inr (.inl rfl)) o).put_ (l := D2) (.inr (.inr rfl)) o'
  refine ⟨(F1.block D3 (by omega) (by omega)).trans ((hz.block D3 hl3).trans hM3), fun o => ((F2 o).block D2 (by omega) (by omega)).trans ((hz.block _ hl2).trans hM2), fun o o' => ((F3 o o').block D1 (by omega) (by omega)).trans ((hz.block _ hl1).trans hM1), fun o1 o2 o3 => ⟨fun h0 => ?_, ?_⟩⟩
  · have h4 := (hrs.below hz).set_ 0 u
    have h5 : Z + 1 < (wz.setCell ⟨Z + 1, 0, none⟩ u).heap.size := h4.lt
    have F4 := (((Fr.refl (fun k => k = D3 ∨ k = D2 ∨ k = D1) (wz.setCell ⟨Z + 1, 0, none⟩ u)).put_ (l := D3) (.inl rfl) o1).put_ (l := D2) (.inr (.inl rfl)) o2).put_ (l := D1) (.inr (.inr rfl)) o3
    have h6 := (h4.fr F4 (by omega)).cell 0
    rw [Array.getElem?_setIfInBounds_self_of_lt h0] at h6
    exact h6
  · have h4 := bup hb hz
    have hF := ((((Fr.refl (fun k => k = Z + 1 ∨ k = D3 ∨ k = D2 ∨ k = D1) wz).setCell (p := ⟨Z + 1, 0, none⟩) (.inl (.inl rfl)) u).put_ (l := D3) (.inr (.inl rfl)) o1).put_ (l := D2) (.inr (.inr (.inl rfl))) o2).put_ (l := D1) (.inr (.inr (.inr rfl))) o3
    exact h4.trans (hF.below h4.size (fun k e => by omega))
set_option maxHeartbeats 8000000 in
theorem ways_law (A : Option Addr) (m c : Nat) (l : List UInt8) (A1 : Option Addr) (n1 c1 : Nat) (l1 : List Int) (stop : Int) (w : World) (h : In w A m l) (h0 : m = 0 → A = none ∧ c = 0 ∨ ∃ a, A = some a) (hmc : m ≤ c) (hm : m ≤ 1048576) (hI1 : InI w A1 n1 l1) (hn1 : n1 ≤ 1048576) :
    Calls Try.prog 5 #[.slice A m c, .slice A1 n1 c1, .int .i64 stop] w fun e w' => e = .returned (.bool true) ∧ Below w.heap.size w w' := by
  have HI := Lib.hid h
  have HI1 := Lib.hid hI1
  have hlen : l.length = m := h.len
  have Hlen := Lib.hid hlen
  have hq := eqM
  have hsn := seq_nil
  obtain ⟨Z, hZ⟩ : ∃ Z, w.heap.size = Z := ⟨_, rfl⟩
  obtain ⟨wA, hwA⟩ : ∃ wA, (w.alloc (.cells #[.int .i64 stop] 3)).alloc (.cells #[.bool false] 4) = wA := ⟨_, rfl⟩
  have hbA : Below w.heap.size w wA := by rw [← hwA]; exact ((Below.refl _ _).alloc (Nat.le_refl _) _).alloc (by simp) _
  have hzA : wA.heap.size = Z + 2 := by rw [← hwA, World.size_alloc, World.size_alloc, hZ]
  have hsbA : Blk wA Z 3 #[.int .i64 stop] := by rw [← hwA]; exact (Blk.new_at hZ.symm).alloc _
  have hrbA : Blk wA (Z + 1) 4 #[.bool false] := by rw [← hwA]; exact Blk.new_at (by simp [hZ])
  have HN := Lib.hid (New_ok A m c l 4096 wA (h.below hbA) h0 hmc (by omega) (by omega))
  have HA := Lib.hid (And.intro hbA (And.intro hsbA (And.intro hrbA hzA)))
  clear h hlen hI1 hbA hsbA hrbA hzA
  refine (callsIn_wide (n := 5)).1 ?_
  refine callsIn_of_wp_marks Try.func5 rfl trivial ?_ rfl
  simp only [Try.ntmps5, List.size_toArray, List.length_cons, List.length_nil, Nat.reduceAdd, Nat.reduceSub, Array.replicate_succ, Array.replicate_zero, List.push_toArray, List.append_toArray, List.nil_append, List.cons_append]
  refine wpIn_wide.2 ?_
  go_wp2_with fail
  have HZ := Lib.hid hZ
  clear hwA hZ
  refine HN.out.mono ?_
  rintro e w1 ⟨pf, rfl, hl, hdc, hL, hT, hF, hb1⟩
  have Hfl := Lib.hid hl
  have Hfd := Lib.hid hdc
  have HF1 := Lib.hid (And.intro hF (And.intro hL (And.intro hT hb1)))
  clear hl hdc hL hT hF hb1 HN
  go_wp2_with fail
  obtain ⟨fbx, hfbx⟩ : ∃ fbx, w1.heap.size = fbx := ⟨_, rfl⟩
  obtain ⟨w2, hw2⟩ : ∃ w2, w1.alloc (.cells #[.pointer (some ⟨pf.fb, 0, none⟩)] 23) = w2 := ⟨_, rfl⟩
  have hb2 : Below w1.heap.size w1 w2 := by rw [← hw2]; exact (Below.refl _ _).alloc (Nat.le_refl _) _
  have hfx2 : Blk w2 fbx 23 #[.pointer (some ⟨pf.fb, 0, none⟩)] := by rw [← hw2]; exact Blk.new_at hfbx.symm
  have hz2 : w2.heap.size = fbx + 1 := by rw [← hw2, World.size_alloc, hfbx]
  rw [hw2, hfbx]
  have HN2 := Lib.hid (New_ok A m c l 4096 w2 (((HI.out.below HA.out.1).below HF1.out.2.2.2).below hb2) h0 hmc (by omega) (by omega))
  refine HN2.out.mono ?_
  rintro e w3 ⟨pg, rfl, hl, hdc, hL, hT, hG, hb3⟩
  have Hgl := Lib.hid hl
  have Hgd := Lib.hid hdc
  have HW3 : Hid (WP pf pg Z (Z + 1) fbx stop 0 0 w w3) := by
    obtain ⟨hF, hLf, hTf, hb1⟩ := HF1.out
    obtain ⟨hbA, hsbA, hrbA, hzA⟩ := HA.out
    have hb13 : Below w1.heap.size w1 w3 := bup hb2 hb3
    have hZ := HZ.out
    have hf := hF.fs
    have hg := hG.fs
    refine ⟨hF.below hb13, hG, (hsbA.below hb1).below hb13, (hrbA.below hb1).below hb13, hfx2.below hb3, (hbA.trans (hb1.mono hbA.size)).trans (hb13.mono (Nat.le_trans hbA.size hb1.size)), ?_⟩
    rw [hLf, hzA] at *
    rw [hTf, hfbx] at *
    rw [hL, hz2] at *
    omega
  clear hl hdc hL hT hG hb3 HN2 hw2 hb2 hfx2 hz2 hfbx HF1 HA h0
  obtain ⟨u0, u1, u2, u3, u4, u5⟩ := box_wp HW3.out
  go_wp2_with fail
  refine (num_any 0 _).mono ?_
  rintro e w4 ⟨rfl, rfl⟩
  go_wp2_with fail
  refine (num_any 0 _).mono ?_
  rintro e w5 ⟨rfl, rfl⟩
  go_wp2_with fail
  clear u0 u1 u2 u3 u4 u5
  go_loopw [11, 53] (fun s11 s53 wr => ∃ i P : Nat, s53 = .int .i64 (i : Int) ∧ s11 = .int .i64 (P : Int) ∧ i ≤ n1 ∧ P ≤ m ∧ Hid (WP pf pg Z (Z + 1) fbx stop P 0 w wr)) (fun _ s53 _ => n1 - (intOf s53).toNat)
  case atStart => exact ⟨0, 0, rfl, rfl, Nat.zero_le _, Nat.zero_le _, HW3⟩
  case round =>
    clear HW3
    obtain ⟨i, P, rfl, rfl, hi, hP, HW⟩ := hrel
    obtain ⟨u0, u1, u2, u3, u4, u5⟩ := box_wp HW.out
    by_cases hlt : i < n1
    · have hlt' : (i : Int) < (n1 : Int) := by omega
      obtain ⟨b, off, x, hA1, hx1, _, z0, hx2, hx3⟩ := (HI1.out.below HW.out.bl).2.2 i hlt
      subst hA1
      by_cases hx : 0 ≤ x ∧ x ≤ (m : Int) - (P : Int)
      · obtain ⟨xn, rfl⟩ : ∃ xn : Nat, x = (xn : Int) := ⟨x.toNat, by omega⟩
        obtain ⟨hx0, hxp⟩ := hx
        have hPx : P + xn ≤ m := by omega
        have HSk := Lib.hid (Skip_go pf P xn _ HW.out.ff (by rw [Hfl.out, Hlen.out]; exact hPx) (by rw [Hfl.out, Hlen.out]; omega))
        have Hx1 := Lib.hid hx1
        clear hx1
        go_wp2_with fail
        refine HSk.out.mono ?_
        rintro e w6 ⟨rfl, hF6, hr6⟩
        have HW6 := Lib.hid (HW.out.skipf hr6 hF6)
        clear hF6 hr6 HSk u0 u1 u2 u3 u4 u5 z0
        obtain ⟨u0, u1, u2, u3, u4, u5⟩ := box_wp HW6.out
        go_wp2_with fail
        refine (num_any 0 _).mono ?_
        rintro e w7 ⟨rfl, rfl⟩
        go_wp2_with fail
        refine (Best_any pf (P + xn) 273 _ HW6.out.ff (by rw [Hfl.out, Hlen.out]; exact hPx) (by rw [Hfl.out, Hlen.out]; omega) (by rw [Hfd.out]; decide)).mono ?_
        rintro e w8 ⟨rfl, hb8⟩
        have HW8 := Lib.hid (HW6.out.below hb8)
        clear hb8 u0 u1 u2 u3 u4 u5
        go_wp2_with fail
        go_roundw
        case rel => exact ⟨i + 1, P + xn, by go_num, by go_num, by omega, hPx, HW8⟩
        case measure => simp [intOf]; omega
      · have hcx : ¬ 0 ≤ x ∨ 0 ≤ x ∧ ¬ x ≤ (m : Int) - (P : Int) := by omega
        have Hx1 := Lib.hid hx1
        clear hx1 hx
        rcases hcx with hc1 | ⟨hc1, hc2⟩
        all_goals
          go_wp2_with fail
          go_roundw
          case rel => exact ⟨i + 1, P, by go_num, rfl, by omega, hP, HW⟩
          case measure => simp [intOf]; omega
    · obtain rfl : i = n1 := by omega
      have hge : ¬ (i : Int) < (i : Int) := by omega
      have HSk := Lib.hid (Skip_go pg 0 P _ HW.out.fg (by rw [Hgl.out, Hlen.out]; omega) (by rw [Hgl.out, Hlen.out]; omega))
      rw [Nat.zero_add] at HSk
      go_wp2_with fail
      refine HSk.out.mono ?_
      rintro e w6 ⟨rfl, hF6, hr6⟩
      have HW6 := Lib.hid (HW.out.skipg hr6 hF6)
      clear hF6 hr6 HSk u0 u1 u2 u3 u4 u5
      obtain ⟨u0, u1, u2, u3, u4, u5⟩ := box_wp HW6.out
      go_wp2_with fail
      refine (num_any 0 _).mono ?_
      rintro e w7 ⟨rfl, rfl⟩
      go_wp2_with fail
      refine (Pos_any pf P _ HW6.out.ff).mono ?_
      rintro e w8 ⟨rfl, rfl⟩
      go_wp2_with fail
      clear u0 u1 u2 u3 u4 u5
      obtain ⟨fx, hfx⟩ : ∃ fx, w8.heap.size = fx := ⟨_, rfl⟩
      refine (Matches_any pf.fb 273 _).mono ?_
      rintro e w9 ⟨rfl, rfl⟩
      rw [hfx]
      obtain ⟨w9, hw9⟩ : ∃ w9, (w8.alloc (.cells #[.pointer (some ⟨pf.fb, 0, none⟩)] 23)).alloc (.cells #[.int .i64 273] 3) = w9 := ⟨_, rfl⟩
      rw [hw9]
      have hb9 : Below w8.heap.size w8 w9 := by rw [← hw9]; exact ((Below.refl _ _).alloc (Nat.le_refl _) _).alloc (by simp) _
      have hbx9 : Blk w9 fx 23 #[.pointer (some ⟨pf.fb, 0, none⟩)] := by rw [← hw9]; exact (Blk.new_at hfx.symm).alloc _
      have hbm9 : Blk w9 (fx + 1) 3 #[.int .i64 273] := by rw [← hw9]; exact Blk.new_at (by simp [hfx])
      have hz9 : w9.heap.size = fx + 2 := by rw [← hw9, World.size_alloc, World.size_alloc, hfx]
      have HW9 := Lib.hid (HW6.out.below hb9)
      have hts := HW6.out.fg.ts
      rw [hfx] at hts
      have HX9 := Lib.hid (And.intro hbx9 (And.intro hbm9 (And.intro hz9 hts)))
      clear hw9 hb9 hbx9 hbm9 hz9 hts hfx HW6
      have hAll := all_any pg P 273 w9 HW9.out.fg (by rw [Hgl.out, Hlen.out]; omega) (by rw [Hgl.out, Hlen.out]; omega) (by rw [Hgd.out]; decide)
      rw [Hgl.out, Hgd.out] at hAll
      obtain ⟨ms, hms⟩ : ∃ ms, mats l 4096 P 273 = ms := ⟨_, rfl⟩
      rw [hms] at hAll
      have Hms := Lib.hid hms
      have hm32 : ms.length ≤ 32 := by rw [← hms]; exact mats_le _ _ _ _
      have HAll := Lib.hid hAll
      clear hms hAll
      go_wp2_with fail
      refine HAll.out.mono ?_
      rintro e w10 ⟨L, lc, rfl, hO, hb10⟩
      have hlc := own_le hO
      have HO := Lib.hid hO
      have Hb10 := Lib.hid hb10
      obtain ⟨qb, hqb⟩ : ∃ qb, w10.heap.size = qb := ⟨_, rfl⟩
      obtain ⟨w11, hw11⟩ : ∃ w11, (w10.alloc (.cells #[.nilFunc] 41)).alloc (.cells #[.slice none 0 0] 32) = w11 := ⟨_, rfl⟩
      have hb11 : Below w10.heap.size w10 w11 := by rw [← hw11]; exact ((Below.refl _ _).alloc (Nat.le_refl _) _).alloc (by simp) _
      have hq11 : Blk w11 qb 41 #[.nilFunc] := by rw [← hw11]; exact (Blk.new_at hqb.symm).alloc _
      have hv11 : Blk w11 (qb + 1) 32 #[.slice none 0 0] := by rw [← hw11]; exact Blk.new_at (by simp [hqb])
      have hz11 : w11.heap.size = qb + 2 := by rw [← hw11, World.size_alloc, World.size_alloc, hqb]
      have e0 := hq11.one
      have e1 := hv11.one
      have f0 := hq11.frozen 0
      have f1 := hv11.frozen 0
      have l0 := hq11.lt
      have l1' := hv11.lt
      have HB11 := Lib.hid (And.intro hb11 (And.intro hq11 (And.intro hv11 hz11)))
      obtain ⟨nb, hnb⟩ : ∃ nb, w11.heap.size = nb := ⟨_, rfl⟩
      have l0n : qb < nb := by rw [← hnb]; exact l0
      have l1n : qb + 1 < nb := by rw [← hnb]; exact l1'
      clear hb11 hq11 hv11 hz11 l0 l1'
      go_wp2_with fail
      obtain ⟨wR, hwR⟩ : ∃ wR, ((((w11.setCell ⟨qb, 0, none⟩ (.func (.func 17) #[] #[.pointer (some ⟨fx, 0, none⟩), .pointer (some ⟨fx + 1, 0, none⟩)])).setCell ⟨qb + 1, 0, none⟩ (.slice L ms.length lc)).alloc (.cells #[.int .i64 0] 3)).alloc (.cells #[.int .i64 0] 3)) = wR := ⟨_, rfl⟩
      rw [hwR]
      have HWR : Hid (WQ pf pg Z (Z + 1) fbx stop fx qb (qb + 1) (fx + 2) ms L lc P P w wR ∧ Blk wR nb 3 #[.int .i64 0] ∧ Blk wR (nb + 1) 3 #[.int .i64 0] ∧ wR.heap.size = nb + 2 ∧ nb = qb + 2) := by
        obtain ⟨hb11, hq11, hv11, hz11⟩ := HB11.out
        obtain ⟨hbx9, hbm9, hz9, hts⟩ := HX9.out
        have hb9 : Below w9.heap.size w9 w11 := bup Hb10.out hb11
        have hqs : fx + 2 ≤ qb := by rw [← hz9, ← hqb]; exact Hb10.out.size
        have hnq : nb = qb + 2 := by omega
        have hF : Fr (fun g => g = qb ∨ g = qb + 1) w11 wR := by
          rw [← hwR]
          exact ((((Fr.refl (fun g => g = qb ∨ g = qb + 1) w11).setCell (p := ⟨qb, 0, none⟩) (.inl (.inl rfl)) _).setCell (p := ⟨qb + 1, 0, none⟩) (.inl (.inr rfl)) _).alloc _).alloc _
        have o9 := HW9.out.or1
        have hz2 : (((w11.setCell ⟨qb, 0, none⟩ (.func (.func 17) #[] #[.pointer (some ⟨fx, 0, none⟩), .pointer (some ⟨fx + 1, 0, none⟩)])).setCell ⟨qb + 1, 0, none⟩ (.slice L ms.length lc))).heap.size = nb := by simp [World.setCell, hnb]
        have hO := HO.out
        rw [hz9] at hO
        refine ⟨⟨(HW9.out.below hb9).fr hF (fun g _ h2 e => by omega) (fun g e => by omega), (hbx9.below hb9).fr hF (by omega), (hbm9.below hb9).fr hF (by omega), ?_, ?_, own_fr (own_below hO hb11) hF (fun g hg e => by have := (own_lt hO hg).2; omega), fun g hg => ?_, ⟨hts, by omega, by omega⟩⟩, ?_, ?_, ?_, hnq⟩
        · rw [← hwR]
          exact (((hq11.set_ 0 _).far (p := ⟨qb + 1, 0, none⟩) (by show qb ≠ qb + 1; omega) _).alloc _).alloc _
        · rw [← hwR]
          exact (((hv11.far (p := ⟨qb, 0, none⟩) (by show qb + 1 ≠ qb; omega) _).set_ 0 _).alloc _).alloc _
        · have := own_lt hO hg; omega
        · rw [← hwR]; exact (Blk.new_at hz2.symm).alloc _
        · rw [← hwR]; exact Blk.new_at (by rw [World.size_alloc, hz2])
        · rw [← hwR, World.size_alloc, World.size_alloc, hz2]
      clear hw11 hwR e0 e1 f0 f1 l0n l1n HB11 HX9 HO Hb10 HW9 hqb hnb
      refine (wpIn_wide (n := 5)).1 ?_
      refine range_lb (n := 5) (by omega) (gf := 17) (lb := #[.pointer (some ⟨fx, 0, none⟩), .pointer (some ⟨fx + 1, 0, none⟩)]) rfl (enters_of Try.func17 (by kernel_rfl) rfl) rfl (.exit 2)
        (fun k W => WQ pf pg Z (Z + 1) fbx stop fx qb (qb + 1) (fx + 2) ms L lc P P w W ∧ Blk W nb 3 #[.int .i64 (k : Int)] ∧ Blk W (nb + 1) 3 #[.int .i64 (inn k ms.length : Int)])
        (fun W => ∃ k : Nat, k ≤ ms.length ∧ (k : Int) = stop ∧ WQ pf pg Z (Z + 1) fbx stop fx qb (qb + 1) (fx + 2) ms L lc P P w W ∧ Blk W nb 3 #[.int .i64 (k : Int)] ∧ Blk W (nb + 1) 3 #[.int .i64 (inn k ms.length : Int)])
        (fun k v => ∃ mm, ms[k]? = some mm ∧ v = mV mm) ms.length (nb + 2) HWR.out.2.2.2.1 ?i1 ?x1 ⟨HWR.out.1, HWR.out.2.1, by have := HWR.out.2.2.1; unfold inn; simpa using this⟩ ?iter
        (fun v W => { tmps := #[.slice A m c, .slice A1 i c1, .int .i64 stop, undef, undef, .pointer (some ⟨Z, 0, none⟩), .pointer (some ⟨Z + 1, 0, none⟩), .pointer (some ⟨fbx, 0, none⟩), .int .i64 0, .pointer (some ⟨pg.fb, 0, none⟩), .int .i64 0, .int .i64 ↑P, undef, u13, .pointer (some ⟨qb, 0, none⟩), .pointer (some ⟨qb + 1, 0, none⟩), .pointer (some ⟨nb, 0, none⟩), .pointer (some ⟨nb + 1, 0, none⟩), .pointer (some ⟨W.heap.size, 0, none⟩), undef, undef, undef, undef, undef, undef, .tuple #[.pointer (some ⟨pf.fb, 0, none⟩), .int .i64 0], .slice A m c, .tuple #[.pointer (some ⟨pf.fb, 0, none⟩), .int .i64 0], .pointer (some ⟨pf.fb, 0, none⟩), .int .i64 0, .tuple #[.pointer (some ⟨pg.fb, 0, none⟩), .int .i64 0], .slice A m c, .tuple #[.pointer (some ⟨pg.fb, 0, none⟩), .int .i64 0], .pointer (some ⟨pg.fb, 0, none⟩), .int .i64 0, .int .i64 0, .int .i64 0, .bool false, .bool false, .int .i64 0, .int .i64 0, .bool false, .bool false, .bool false, .pointer (some ⟨pf.fb, 0, none⟩), .bool false, .bool false, .bool false, .pointer (some ⟨pg.fb, 0, none⟩), .bool false, .bool false, .slice A1 i c1, .int .i64 ↑i, .int .i64 ↑i, .bool false, u55, u56, u57, u58, u59, u60, u61, u62, u63, u64, u65, u66, u67, u68, u69, u70, u71, u72, u73, u74, u75, u76, u77, .pointer (some ⟨pg.fb, 0, none⟩), .int .i64 ↑P, .int .i64 0, .int .i64 0, .bool false, .bool false, .pointer (some ⟨pf.fb, 0, none⟩), .int .i64 ↑P, .int .i64 ↑P, .bool false, .bool false, .pointer (some ⟨pf.fb, 0, none⟩), .func (.func 17) #[] #[.pointer (some ⟨fx, 0, none⟩), .pointer (some ⟨fx + 1, 0, none⟩)], .pointer (some ⟨pg.fb, 0, none⟩), .slice L ms.length lc, .func (.func 17) #[] #[.pointer (some ⟨fx, 0, none⟩), .pointer (some ⟨fx + 1, 0, none⟩)], .bool false, .func (.func 17) #[] #[.pointer (some ⟨fx, 0, none⟩), .pointer (some ⟨fx + 1, 0, none⟩)], v, undef, undef, undef, undef, undef, undef, undef, undef, undef, undef, undef, undef, undef, undef, undef, undef, undef, undef, undef, undef, undef, undef, undef, undef, undef, undef, undef, undef, undef, undef, undef, undef, undef, undef, undef, undef, undef, undef, undef, undef, undef, undef, undef, undef, undef, undef, undef, undef, undef, undef, undef, undef, undef, undef, undef, undef, undef, undef, undef, undef, undef, undef, undef, undef, undef, undef, undef, undef, undef, undef, undef, undef, undef, undef, undef, undef, undef, undef, undef, undef, undef, undef, undef, undef, undef, undef, undef, undef, undef, undef, undef, undef, undef, undef, undef, undef, undef, undef, undef, undef, undef, undef, undef, undef, undef, undef, undef, undef, undef, undef, undef, undef, undef, undef, undef, undef, undef], defers := [] }) awM awM_below ?assign ?body ?done ?same
      case i1 =>
        rintro k W W' ⟨h1, h2, h3⟩ hF
        have hnq := HWR.out.2.2.2.2
        exact ⟨h1.above hF (fun g e => by omega), h2.fr hF (by omega), h3.fr hF (by omega)⟩
      case x1 =>
        rintro W W' ⟨k, e1, e2, h1, h2, h3⟩ hF
        have hnq := HWR.out.2.2.2.2
        exact ⟨k, e1, e2, h1.above hF (fun g e => by omega), h2.fr hF (by omega), h3.fr hF (by omega)⟩
      case iter =>
        intro J Jx r hJ0 hJf hJI hY
        have hbl : Below wR.heap.size wR ((wR.alloc (.deferred (some []))).alloc (.loop r)) := ((Below.refl _ _).alloc (Nat.le_refl _) _).alloc (by simp) _
        have := matches1_lv 4 (nb + 2 + 1) fx (fx + 1) 273 pf P J Jx _ (HWR.out.1.wp.ff.below hbl) (HWR.out.1.bx.below hbl) (HWR.out.1.bm.below hbl) (by rw [Hfl.out, Hlen.out]; exact hP) (by rw [Hfl.out, Hlen.out]; omega) (by rw [Hfd.out]; decide) hJ0 hJf (fun k W hJ => ⟨⟨P, (hJI k W hJ).1.1.wp.ff⟩, (hJI k W hJ).1.1.bx⟩) (fun k mm W hJ hm => by
          rw [Hfl.out, Hfd.out, Hms.out] at hm
          exact hY k (mV mm) W hJ ⟨mm, hm, rfl⟩ (List.getElem?_eq_some_iff.1 hm).1)
        rw [Hfl.out, Hfd.out, Hms.out] at this
        exact this
      case assign =>
        rintro k v W R ⟨mm, hm, rfl⟩ hR
        unfold mV at hR ⊢
        gi_wp2
        exact hR
      case same =>
        intro a' W hQ
        exact wpIn_exit (by first | exact hQ | simpa [Exit.inBlock] using hQ)
      case body =>
        rintro k v W Wb ⟨h1, h2, h3⟩ ⟨⟨m1, m2⟩, hm, rfl⟩ hk hD hFb ⟨r, hr⟩
        have hnq := HWR.out.2.2.2.2
        have hF : Fr (fun g => g = nb + 2 ∨ g = nb + 2 + 1) W Wb := ((Fr.refl _ W).of_below' (awM_below (mV (m1, m2)) W)).trans' hFb (fun i _ e => .inr e)
        have hbx : Blk Wb W.heap.size 30 #[.int .i64 (m1 : Int), .int .i64 (m2 : Int)] := (awM_box (m1, m2) W).fr hFb (by omega)
        have h1 := h1.above hF (fun g e => by omega)
        have h2 := h2.fr hF (by omega)
        have h3 := h3.fr hF (by omega)
        have hzb := hF.size
        obtain ⟨X, hX⟩ : ∃ X, W.heap.size = X := ⟨_, rfl⟩
        rw [hX] at hbx hD hzb ⊢
        obtain ⟨g, hg, z0, z1⟩ := row_get h1.row hm
        have z0 : Wb.cell? ⟨g, k * 2, none⟩ = some (.int .i64 (m1 : Int)) := z0
        have z1 : Wb.cell? ⟨g, k * 2 + 1, none⟩ = some (.int .i64 (m2 : Int)) := z1
        have wc := h1.bw.one
        rw [hg] at wc
        obtain ⟨x0, x1⟩ := hbx.two
        have n0 := h2.one
        have nf := h2.frozen 0
        have i0 := h3.one
        have s0 := h1.wp.bs.one
        have q0 := h1.bq.one
        have hnl := h2.lt
        have hil := h3.lt
        have H1 := Lib.hid h1
        have H2 := Lib.hid h2
        have H3 := Lib.hid h3
        have Hr : Hid (∃ r, Wb.heap[nb + 2 + 1]? = some (.loop r)) := ⟨r, hr⟩
        have hmix : Try.prog.follows Departure.mixedOrders = true := by kernel_rfl
        have hk' : (k : Int) < (ms.length : Int) := by omega
        have Hm := Lib.hid hm
        have HX := Lib.hid (And.intro hX (And.intro hD hzb))
        clear h1 h2 h3 hbx hF hFb hr hm hX hD hzb hg hnq
        unfold mV
        gi_wp2
        have hdk : decide ((ms.length : Int) ≤ (k : Int)) = false := decide_eq_false (by omega)
        have hdk' : decide (ms.length ≤ k) = false := decide_eq_false (by omega)
        refine quiet_round hmix (by kernel_rfl) (by kernel_rfl) ?_
        repeat (gi_big_quiet_step (fail))
        refine wpQuietIn_nil ?_
        intro _ hw'
        obtain ⟨nq, hw''⟩ := hw'
        subst hw''
        obtain ⟨W1, hW1⟩ : ∃ W1, (Wb.drewN nq).setCell ⟨nb, 0, none⟩ (.int .i64 ((k : Int) + 1)) = W1 := ⟨_, rfl⟩
        have hnq := HWR.out.2.2.2.2
        have hF1 : Fr (fun g => g = nb) Wb W1 := by rw [← hW1]; exact ((Fr.refl (fun g => g = nb) Wb).drewN nq).setCell (p := ⟨nb, 0, none⟩) (.inl rfl) _
        have K1 := H1.out.above hF1 (fun g e => by omega)
        have K2 : Blk W1 nb 3 #[.int .i64 (((k + 1 : Nat) : Int))] := by
          rw [← hW1]
          have := (H2.out.drewN nq).set_ 0 (.int .i64 ((k : Int) + 1))
          exact this
        have K3 := H3.out.fr hF1 (by omega)
        have n1' : W1.cell? ⟨nb, 0, none⟩ = some (.int .i64 ((k : Int) + 1)) := K2.one
        have s1' := K1.wp.bs.one
        have q1' := K1.bq.one
        have HK := Lib.hid (And.intro K1 (And.intro K2 K3))
        have HM1 : Hid (W1.heap[nb + 2]? = Wb.heap[nb + 2]? ∧ W1.heap[nb + 2 + 1]? = Wb.heap[nb + 2 + 1]?) := by
          have h9 := HX.out.2.2
          have h8 := HX.out.2.1
          exact ⟨hF1.block _ (by omega) (by omega), hF1.block _ (by omega) (by omega)⟩
        have hs1 : nb + 2 + 1 < W1.heap.size := by have := hF1.size; have := HX.out; omega
        have hql : qb < W1.heap.size := K1.bq.lt
        have hZl : Z < W1.heap.size := K1.wp.bs.lt
        clear K1 K2 K3 hF1 hnq H1 H2 H3 z0 z1 wc x0 x1 i0 s0 q0 hnl hil
        by_cases hk2 : k < 2
        · have hk2' : (k : Int) + 1 < 3 := by omega
          gi_wp2
          obtain ⟨D2, hD2⟩ : ∃ D2, W1.heap.size = D2 := ⟨_, rfl⟩
          have hnq := HWR.out.2.2.2.2
          obtain ⟨r1, hr1⟩ : ∃ r, W1.heap[nb + 2 + 1]? = some (.loop r) := by
            obtain ⟨r, hr⟩ := Hr.out
            exact ⟨r, HM1.out.2.trans hr⟩
          have hD2n : nb + 2 + 1 < D2 := by omega
          have HD2 := Lib.hid hD2
          clear hW1 hs1 hql hZl n1' s1' q1' hnq
          refine range_ln (n := 3) (l₀ := nb + 2 + 1) hr1 (by omega) (gf := 17) (lb := #[.pointer (some ⟨fx, 0, none⟩), .pointer (some ⟨fx + 1, 0, none⟩)]) rfl (enters_of Try.func17 (by kernel_rfl) rfl) rfl
            (fun j W => WQ pf pg Z (Z + 1) fbx stop fx qb (qb + 1) (fx + 2) ms L lc P P w W ∧ Blk W nb 3 #[.int .i64 (((k + 1 : Nat) : Int))] ∧ Blk W (nb + 1) 3 #[.int .i64 ((inn k ms.length + j : Nat) : Int)] ∧ W.heap[nb + 2]? = Wb.heap[nb + 2]? ∧ W.heap[nb + 2 + 1]? = Wb.heap[nb + 2 + 1]?)
            (fun j v => ∃ mm, ms[j]? = some mm ∧ v = mV mm) ms.length D2 hD2 ?i1b ⟨HK.out.1, HK.out.2.1, HK.out.2.2, HM1.out.1, HM1.out.2⟩ ?iterb
            (fun v W => { tmps := #[.slice A m c, .slice A1 i c1, .int .i64 stop, undef, undef, .pointer (some ⟨Z, 0, none⟩), .pointer (some ⟨Z + 1, 0, none⟩), .pointer (some ⟨fbx, 0, none⟩), .int .i64 0, .pointer (some ⟨pg.fb, 0, none⟩), .int .i64 0, .int .i64 ↑P, undef, u13, .pointer (some ⟨qb, 0, none⟩), .pointer (some ⟨qb + 1, 0, none⟩), .pointer (some ⟨nb, 0, none⟩), .pointer (some ⟨nb + 1, 0, none⟩), .pointer (some ⟨X, 0, none⟩), .pointer (some ⟨W.heap.size, 0, none⟩), undef, undef, undef, undef, undef, .tuple #[.pointer (some ⟨pf.fb, 0, none⟩), .int .i64 0], .slice A m c, .tuple #[.pointer (some ⟨pf.fb, 0, none⟩), .int .i64 0], .pointer (some ⟨pf.fb, 0, none⟩), .int .i64 0, .tuple #[.pointer (some ⟨pg.fb, 0, none⟩), .int .i64 0], .slice A m c, .tuple #[.pointer (some ⟨pg.fb, 0, none⟩), .int .i64 0], .pointer (some ⟨pg.fb, 0, none⟩), .int .i64 0, .int .i64 0, .int .i64 0, .bool false, .bool false, .int .i64 0, .int .i64 0, .bool false, .bool false, .bool false, .pointer (some ⟨pf.fb, 0, none⟩), .bool false, .bool false, .bool false, .pointer (some ⟨pg.fb, 0, none⟩), .bool false, .bool false, .slice A1 i c1, .int .i64 ↑i, .int .i64 ↑i, .bool false, u55, u56, u57, u58, u59, u60, u61, u62, u63, u64, u65, u66, u67, u68, u69, u70, u71, u72, u73, u74, u75, u76, u77, .pointer (some ⟨pg.fb, 0, none⟩), .int .i64 ↑P, .int .i64 0, .int .i64 0, .bool false, .bool false, .pointer (some ⟨pf.fb, 0, none⟩), .int .i64 ↑P, .int .i64 ↑P, .bool false, .bool false, .pointer (some ⟨pf.fb, 0, none⟩), .func (.func 17) #[] #[.pointer (some ⟨fx, 0, none⟩), .pointer (some ⟨fx + 1, 0, none⟩)], .pointer (some ⟨pg.fb, 0, none⟩), .slice L ms.length lc, .func (.func 17) #[] #[.pointer (some ⟨fx, 0, none⟩), .pointer (some ⟨fx + 1, 0, none⟩)], .bool false, .func (.func 17) #[] #[.pointer (some ⟨fx, 0, none⟩), .pointer (some ⟨fx + 1, 0, none⟩)], .agg #[.int .i64 ↑m1, .int .i64 ↑m2], .int .i64 ↑k, .slice (some ⟨g, 0, none⟩) ms.length lc, .int .i64 ↑ms.length, .bool false, .bool false, .agg #[.int .i64 ↑m1, .int .i64 ↑m2], .slice (some ⟨g, 0, none⟩) ms.length lc, .int .i64 ↑k, .pointer (some ⟨g, k * 2, none⟩), .agg #[.int .i64 ↑m1, .int .i64 ↑m2], .bool false, .bool false, .int .i64 ↑k, .int .i64 (↑k + 1), .int .i64 (↑k + 1), .bool true, .func (.func 17) #[] #[.pointer (some ⟨fx, 0, none⟩), .pointer (some ⟨fx + 1, 0, none⟩)], v, undef, undef, undef, undef, undef, undef, undef, undef, undef, undef, undef, undef, undef, undef, undef, undef, undef, undef, undef, undef, undef, undef, undef, undef, undef, undef, undef, undef, undef, undef, undef, undef, undef, undef, undef, undef, undef, undef, undef, undef, undef, undef, undef, undef, undef, undef, undef, undef, undef, undef, undef, undef, undef, undef, undef, undef, undef, undef, undef, undef, undef, undef, undef, undef, undef, undef, undef, undef, undef, undef, undef, undef, undef, undef, undef, undef, undef, undef, undef, undef, undef, undef, undef, undef, undef, undef, undef, undef, undef, undef, undef, undef, undef, undef, undef, undef, undef, undef, undef], defers := [] }) awM awM_below ?assignb ?bodyb ?doneb
          case i1b =>
            rintro j W W' ⟨q1, q2, q3, q4, q5⟩ hF
            have hnq := HWR.out.2.2.2.2
            have hs : nb + 2 + 1 < W.heap.size := by
              obtain ⟨r, hr⟩ := Hr.out
              rw [← q5] at hr
              exact (Array.getElem?_eq_some_iff.1 hr).1
            exact ⟨q1.above hF (fun g e => by omega), q2.fr hF (by omega), q3.fr hF (by omega), (hF.block _ (by omega) (by omega)).trans q4, (hF.block _ (by omega) (by omega)).trans q5⟩
          case iterb =>
            intro J Jx r hJ0 hJf hJI hY
            have hbl : Below W1.heap.size W1 (W1.alloc (.loop r)) := (Below.refl _ _).alloc (Nat.le_refl _) _
            have := matches1_lv 2 D2 fx (fx + 1) 273 pf P J Jx _ (HK.out.1.wp.ff.below hbl) (HK.out.1.bx.below hbl) (HK.out.1.bm.below hbl) (by rw [Hfl.out, Hlen.out]; exact hP) (by rw [Hfl.out, Hlen.out]; omega) (by rw [Hfd.out]; decide) hJ0 hJf (fun k W hJ => ⟨⟨P, (hJI k W hJ).1.1.wp.ff⟩, (hJI k W hJ).1.1.bx⟩) (fun k mm W hJ hm => by
              rw [Hfl.out, Hfd.out, Hms.out] at hm
              exact hY k (mV mm) W hJ ⟨mm, hm, rfl⟩ (List.getElem?_eq_some_iff.1 hm).1)
            rw [Hfl.out, Hfd.out, Hms.out] at this
            exact this
          case assignb =>
            rintro j v W R ⟨mm, hm, rfl⟩ hR
            unfold mV at hR ⊢
            gi_wp2
            exact hR
          case bodyb =>
            rintro j v W Wc ⟨q1, q2, q3, q4, q5⟩ ⟨⟨a1, a2⟩, hm, rfl⟩ hj hD hFc
            have hnq := HWR.out.2.2.2.2
            have hF : Fr (fun g => g = D2) W Wc := ((Fr.refl _ W).of_below' (awM_below (mV (a1, a2)) W)).trans' hFc (fun i _ e => e)
            have hbx : Blk Wc W.heap.size 30 #[.int .i64 (a1 : Int), .int .i64 (a2 : Int)] := (awM_box (a1, a2) W).fr hFc (by omega)
            have q1 := q1.above hF (fun g e => by omega)
            have q2 := q2.fr hF (by omega)
            have q3 := q3.fr hF (by omega)
            have q4 := (hF.block (nb + 2) (by omega) (by omega)).trans q4
            have q5 := (hF.block (nb + 2 + 1) (by omega) (by omega)).trans q5
            have hzb := hF.size
            obtain ⟨X2, hX2⟩ : ∃ X2, W.heap.size = X2 := ⟨_, rfl⟩
            rw [hX2] at hbx hD hzb ⊢
            obtain ⟨g2, hg2, y0, y1⟩ := row_get q1.row hm
            have y0 : Wc.cell? ⟨g2, j * 2, none⟩ = some (.int .i64 (a1 : Int)) := y0
            have y1 : Wc.cell? ⟨g2, j * 2 + 1, none⟩ = some (.int .i64 (a2 : Int)) := y1
            have wc := q1.bw.one
            rw [hg2] at wc
            obtain ⟨x0, x1⟩ := hbx.two
            obtain ⟨u, hu⟩ : ∃ u, inn k ms.length + j = u := ⟨_, rfl⟩
            have hul := inn_lt hk2 hj
            rw [hu] at q3 hul
            obtain ⟨hu2, hrem⟩ := hul
            have i0 := q3.one
            have ff := q3.frozen 0
            have hil := q3.lt
            have Q1 := Lib.hid q1
            have Q2 := Lib.hid q2
            have Q3 := Lib.hid q3
            have Q45 := Lib.hid (And.intro q4 q5)
            have Hm2 := Lib.hid hm
            have HX2 := Lib.hid (And.intro hX2 (And.intro hD hzb))
            have Hu := Lib.hid hu
            have hj' : (j : Int) < (ms.length : Int) := by omega
            have hN0 : ¬ (ms.length : Int) = 0 := by omega
            have hmix : Try.prog.follows Departure.mixedOrders = true := by kernel_rfl
            clear q1 q2 q3 q4 q5 hbx hF hFc hm hX2 hD hzb hg2 hu hnq
            unfold mV
            gi_wp2
            have hdk : decide ((2 : Int) * (ms.length : Int) ≤ (u : Int)) = false := decide_eq_false (by omega)
            refine quiet_round hmix (by kernel_rfl) (by kernel_rfl) ?_
            repeat (gi_big_quiet_step (fail))
            refine wpQuietIn_nil ?_
            intro _ hw'
            obtain ⟨nq2, hw''⟩ := hw'
            subst hw''
            obtain ⟨W2, hW2⟩ : ∃ W2, (Wc.drewN nq2).setCell ⟨nb + 1, 0, none⟩ (.int .i64 ((u : Int) + 1)) = W2 := ⟨_, rfl⟩
            have HP2 : Hid (W2.heap[D2]? = Wc.heap[D2]? ∧ (WQ pf pg Z (Z + 1) fbx stop fx qb (qb + 1) (fx + 2) ms L lc P P w W2 ∧ Blk W2 nb 3 #[.int .i64 (((k + 1 : Nat) : Int))] ∧ Blk W2 (nb + 1) 3 #[.int .i64 ((inn k ms.length + (j + 1) : Nat) : Int)] ∧ W2.heap[nb + 2]? = Wb.heap[nb + 2]? ∧ W2.heap[nb + 2 + 1]? = Wb.heap[nb + 2 + 1]?)) := by
              have hnq := HWR.out.2.2.2.2
              have hx := HX2.out
              have hF2 : Fr (fun g => g = nb + 1) Wc W2 := by rw [← hW2]; exact ((Fr.refl (fun g => g = nb + 1) Wc).drewN nq2).setCell (p := ⟨nb + 1, 0, none⟩) (.inl rfl) _
              refine ⟨hF2.block _ (by omega) (by omega), Q1.out.above hF2 (fun g e => by omega), Q2.out.fr hF2 (by omega), ?_, (hF2.block _ (by omega) (by omega)).trans Q45.out.1, (hF2.block _ (by omega) (by omega)).trans Q45.out.2⟩
              have := (Q3.out.drewN nq2).set_ 0 (.int .i64 ((u : Int) + 1))
              rw [hW2] at this
              rw [show inn k ms.length + (j + 1) = u + 1 by rw [← Hu.out]; omega]
              exact this
            have hub : u < 100 := by omega
            clear hdk
            gi_wp2
            refine ⟨HP2.out.1, HP2.out.2.1, HP2.out.2.2.1, ?_, HP2.out.2.2.2.2⟩
            have h9 := HP2.out.2.2.2.1
            first | exact h9 | simpa using h9
          case doneb =>
            rintro W ⟨q1, q2, q3, q4, q5⟩
            rw [inn_next hk2] at q3
            have n1' : W.cell? ⟨nb, 0, none⟩ = some (.int .i64 ((k : Int) + 1)) := q2.one
            have s1' := q1.wp.bs.one
            have HQ := Lib.hid (And.intro q1 (And.intro q2 (And.intro q3 (And.intro q4 q5))))
            clear q1 q2 q3 q4 q5
            by_cases hst : (k : Int) + 1 = stop
            · have hst' : ((k : Int) + 1 == stop) = true := beq_iff_eq.2 hst
              have Hst := Lib.hid hst
              clear hst
              gi_wp2
              exact ⟨rfl, HQ.out.2.2.2.1, HQ.out.2.2.2.2, k + 1, by omega, by have := Hst.out; omega, HQ.out.1, HQ.out.2.1, HQ.out.2.2.1⟩
            · have hst' : ((k : Int) + 1 == stop) = false := beq_eq_false_iff_ne.2 hst
              have Hst := Lib.hid hst
              clear hst
              gi_wp2
              exact ⟨HQ.out.2.2.2.1, HQ.out.2.2.2.2, HQ.out.1, HQ.out.2.1, HQ.out.2.2.1⟩
        · have hk2' : ¬ (k : Int) + 1 < 3 := by omega
          have hin : inn (k + 1) ms.length = inn k ms.length := by unfold inn; rw [show min (k + 1) 2 = min k 2 by omega]
          have Hin := Lib.hid hin
          clear hin
          by_cases hst : (k : Int) + 1 = stop
          · have hst' : ((k : Int) + 1 == stop) = true := beq_iff_eq.2 hst
            have Hst := Lib.hid hst
            clear hst
            gi_wp2
            exact ⟨rfl, HM1.out.1, HM1.out.2, k + 1, by omega, by have := Hst.out; omega, HK.out.1, HK.out.2.1, by rw [Hin.out]; exact HK.out.2.2⟩
          · have hst' : ((k : Int) + 1 == stop) = false := beq_eq_false_iff_ne.2 hst
            have Hst := Lib.hid hst
            clear hst
            gi_wp2
            exact ⟨HM1.out.1, HM1.out.2, HK.out.1, HK.out.2.1, by rw [Hin.out]; exact HK.out.2.2⟩
      case done =>
        rintro W hor hM
        have hE : ∃ k : Nat, k ≤ ms.length ∧ (k = ms.length ∨ (k : Int) = stop) ∧ WQ pf pg Z (Z + 1) fbx stop fx qb (qb + 1) (fx + 2) ms L lc P P w W ∧ Blk W nb 3 #[.int .i64 (k : Int)] ∧ Blk W (nb + 1) 3 #[.int .i64 (inn k ms.length : Int)] := by
          rcases hor with ⟨h1, h2, h3⟩ | ⟨k, e1, e2, h1, h2, h3⟩
          · exact ⟨ms.length, Nat.le_refl _, .inl rfl, h1, h2, h3⟩
          · exact ⟨k, e1, .inr e2, h1, h2, h3⟩
        obtain ⟨k, hkN, hks, h1, h2, h3⟩ := hE
        have n0 := h2.one
        have i0 := h3.one
        have wc := h1.bw.one
        have s0 := h1.wp.bs.one
        have HQ := Lib.hid (And.intro h1 hM)
        have Hks := Lib.hid hks
        have hWn := h2.lt
        have Hnq : Hid (nb = qb + 2) := HWR.out.2.2.2.2
        clear hor h1 h2 h3 hM hks HWR
        have hik : inn k ms.length ≤ 64 := by unfold inn; have : min k 2 ≤ 2 := by omega
                                              exact Nat.le_trans (Nat.mul_le_mul this hm32) (by omega)
        go_upto_region 33 with (fail)
        go_cut [153] from 136 to 153 (fun s153 wy => s153 = .bool false ∧ wy = W)
        case first =>
          obtain ⟨qq, hqq⟩ : ∃ qq, min k 2 = qq := ⟨_, rfl⟩
          obtain ⟨ii, hii⟩ : ∃ ii, inn k ms.length = ii := ⟨_, rfl⟩
          have hA : min (k : Int) 2 = (qq : Int) := by omega
          have hC : (qq : Int) * (ms.length : Int) = (ii : Int) := by
            rw [← hii, ← hqq]
            unfold inn
            push_cast
            rfl
          rw [hii] at i0 hik
          have hq2 : qq ≤ 2 := by omega
          by_cases hkn : k = ms.length
          · have hb1 : ((k : Int) != (ms.length : Int)) = false := by rw [hkn]; simp
            have Hkn := Lib.hid hkn
            clear hkn hqq hii
            go_wp2_with fail
            go_meet
            exact ⟨rfl, rfl⟩
          · have hst : (k : Int) = stop := by
              rcases Hks.out with h | h
              · exact absurd h hkn
              · exact h
            have hb1 : ((k : Int) != (ms.length : Int)) = true := by simp; omega
            have hb2 : ((k : Int) != stop) = false := by rw [hst]; simp
            have Hkn := Lib.hid hkn
            have Hst := Lib.hid hst
            clear hkn hst hqq hii
            go_wp2_with fail
            go_meet
            exact ⟨rfl, rfl⟩
        case rest =>
          obtain ⟨rfl, hwW⟩ := hcut
          rw [hwW]
          clear hwW
          have q0 := HQ.out.1.bq.one
          have hql := HQ.out.1.bq.lt
          obtain ⟨lb, hlb⟩ : ∃ lb, W.heap.size = lb := ⟨_, rfl⟩
          obtain ⟨W2, hW2⟩ : ∃ W2, (W.alloc (.cells #[.int .i64 0] 3)).alloc (.cells #[.int .i64 0] 3) = W2 := ⟨_, rfl⟩
          have hb2 : Below W.heap.size W W2 := by rw [← hW2]; exact ((Below.refl _ _).alloc (Nat.le_refl _) _).alloc (by simp) _
          have hl2 : Blk W2 lb 3 #[.int .i64 0] := by rw [← hW2]; exact (Blk.new_at hlb.symm).alloc _
          have ha2 : Blk W2 (lb + 1) 3 #[.int .i64 0] := by rw [← hW2]; exact Blk.new_at (by simp [hlb])
          have hz2 : W2.heap.size = lb + 2 := by rw [← hW2, World.size_alloc, World.size_alloc, hlb]
          have hw9 : IntKind.i64.wrap ((m : Int) - (P : Int)) = (m : Int) - (P : Int) := IntWalk.i64_in _ (by omega)
          have e0 := hl2.one
          have e1 := ha2.one
          have f0 := hl2.frozen 0
          have f1 := ha2.frozen 0
          have l0 := hl2.lt
          have l1' := ha2.lt
          have hqb2 : qb < lb := by rw [← hlb]; exact hql
          have q2 : W2.cell? ⟨qb, 0, none⟩ = some (.func (.func 17) #[] #[.pointer (some ⟨fx, 0, none⟩), .pointer (some ⟨fx + 1, 0, none⟩)]) := (HQ.out.1.bq.below hb2).one
          have hqne : qb ≠ lb := by omega
          have hqne2 : qb ≠ lb + 1 := by omega
          have hql2 : qb < W2.heap.size := by omega
          have H3 : Hid (WQ pf pg Z (Z + 1) fbx stop fx qb (qb + 1) (fx + 2) ms L lc P P w W2 ∧ Blk W2 lb 3 #[.int .i64 0] ∧ Blk W2 (lb + 1) 3 #[.int .i64 0] ∧ W2.heap[nb + 2]? = some (.deferred (some [])) ∧ W2.heap.size = lb + 2 ∧ qb + 1 < lb ∧ nb + 2 < lb) := by
            have hM := HQ.out.2
            have hMl := (Array.getElem?_eq_some_iff.1 hM).1
            have hwl := HQ.out.1.bw.lt
            exact ⟨HQ.out.1.above (Fr.of_below hb2) (fun g (e : False) => e.elim), hl2, ha2, (hb2.block _ hMl).trans hM, hz2, by omega, by omega⟩
          clear n0 i0 s0 hWn hik hkN HQ Hks hb2 hl2 ha2 hz2
          go_wp2_with fail
          obtain ⟨wT, hwT⟩ : ∃ wT, ((W2.setCell ⟨lb, 0, none⟩ (.int .i64 ((m : Int) - (P : Int)))).setCell ⟨lb + 1, 0, none⟩ (.int .i64 0)) = wT := ⟨_, rfl⟩
          rw [hwT]
          have H4 : Hid (WQ pf pg Z (Z + 1) fbx stop fx qb (qb + 1) (fx + 2) ms L lc P P w wT ∧ Blk wT lb 3 #[.int .i64 ((m - P : Nat) : Int)] ∧ Blk wT (lb + 1) 3 #[.int .i64 ((0 : Nat) : Int)] ∧ wT.heap[nb + 2]? = some (.deferred (some [])) ∧ wT.heap.size = lb + 2) := by
            obtain ⟨g1, g2, g3, g4, g5, g6, g7⟩ := H3.out
            have hF : Fr (fun g => g = lb ∨ g = lb + 1) W2 wT := by rw [← hwT]; exact ((Fr.refl (fun g => g = lb ∨ g = lb + 1) W2).setCell (p := ⟨lb, 0, none⟩) (.inl (.inl rfl)) _).setCell (p := ⟨lb + 1, 0, none⟩) (.inl (.inr rfl)) _
            refine ⟨g1.above hF (fun g e => by omega), ?_, ?_, (hF.block _ (by omega) (by omega)).trans g4, ?_⟩
            · rw [← hwT, show ((m - P : Nat) : Int) = (m : Int) - (P : Int) by omega]
              exact (g2.set_ 0 _).far (p := ⟨lb + 1, 0, none⟩) (by show lb ≠ lb + 1; omega) _
            · rw [← hwT]
              exact (g3.far (p := ⟨lb, 0, none⟩) (by show lb + 1 ≠ lb; omega) _).set_ 0 _
            · rw [← hwT]; simpa [World.setCell] using g5
          have HL : Hid (qb + 1 < lb ∧ nb + 2 < lb) := ⟨H3.out.2.2.2.2.2.1, H3.out.2.2.2.2.2.2⟩
          clear hW2 hwT e0 e1 f0 f1 l0 l1' hqb2 q2 hqne hqne2 hql2 H3 hlb hw9 q0 hql
          refine (wpIn_wide (n := 5)).1 ?_
          refine range_lb (n := 5) (by omega) (gf := 17) (lb := #[.pointer (some ⟨fx, 0, none⟩), .pointer (some ⟨fx + 1, 0, none⟩)]) rfl (enters_of Try.func17 (by kernel_rfl) rfl) rfl (.exit 6)
            (fun k W => ∃ pn ln : Nat, pn + ln = m ∧ (k = 0 → pn = P) ∧ (0 < k → ln = 0) ∧ WQ pf pg Z (Z + 1) fbx stop fx qb (qb + 1) (fx + 2) ms L lc pn P w W ∧ Blk W lb 3 #[.int .i64 (ln : Int)] ∧ Blk W (lb + 1) 3 #[.int .i64 (k : Int)] ∧ W.heap[nb + 2]? = some (.deferred (some [])))
            (fun _ => False)
            (fun k v => ∃ mm, ms[k]? = some mm ∧ v = mV mm) ms.length (lb + 2) H4.out.2.2.2.2 ?i3 ?x3 ⟨P, m - P, by omega, fun _ => rfl, fun h => absurd h (Nat.lt_irrefl 0), H4.out.1, H4.out.2.1, H4.out.2.2.1, H4.out.2.2.2.1⟩ ?iter3
            (fun v W => { tmps := #[.slice A m c, .slice A1 i c1, .int .i64 stop, undef, undef, .pointer (some ⟨Z, 0, none⟩), .pointer (some ⟨Z + 1, 0, none⟩), .pointer (some ⟨fbx, 0, none⟩), .int .i64 0, .pointer (some ⟨pg.fb, 0, none⟩), .int .i64 0, .int .i64 ↑P, undef, u13, .pointer (some ⟨qb, 0, none⟩), .pointer (some ⟨qb + 1, 0, none⟩), .pointer (some ⟨nb, 0, none⟩), .pointer (some ⟨nb + 1, 0, none⟩), undef, undef, .pointer (some ⟨lb, 0, none⟩), .pointer (some ⟨lb + 1, 0, none⟩), .pointer (some ⟨W.heap.size, 0, none⟩), undef, undef, .tuple #[.pointer (some ⟨pf.fb, 0, none⟩), .int .i64 0], .slice A m c, .tuple #[.pointer (some ⟨pf.fb, 0, none⟩), .int .i64 0], .pointer (some ⟨pf.fb, 0, none⟩), .int .i64 0, .tuple #[.pointer (some ⟨pg.fb, 0, none⟩), .int .i64 0], .slice A m c, .tuple #[.pointer (some ⟨pg.fb, 0, none⟩), .int .i64 0], .pointer (some ⟨pg.fb, 0, none⟩), .int .i64 0, .int .i64 0, .int .i64 0, .bool false, .bool false, .int .i64 0, .int .i64 0, .bool false, .bool false, .bool false, .pointer (some ⟨pf.fb, 0, none⟩), .bool false, .bool false, .bool false, .pointer (some ⟨pg.fb, 0, none⟩), .bool false, .bool false, .slice A1 i c1, .int .i64 ↑i, .int .i64 ↑i, .bool false, u55, u56, u57, u58, u59, u60, u61, u62, u63, u64, u65, u66, u67, u68, u69, u70, u71, u72, u73, u74, u75, u76, u77, .pointer (some ⟨pg.fb, 0, none⟩), .int .i64 ↑P, .int .i64 0, .int .i64 0, .bool false, .bool false, .pointer (some ⟨pf.fb, 0, none⟩), .int .i64 ↑P, .int .i64 ↑P, .bool false, .bool false, .pointer (some ⟨pf.fb, 0, none⟩), .func (.func 17) #[] #[.pointer (some ⟨fx, 0, none⟩), .pointer (some ⟨fx + 1, 0, none⟩)], .pointer (some ⟨pg.fb, 0, none⟩), .slice L ms.length lc, .func (.func 17) #[] #[.pointer (some ⟨fx, 0, none⟩), .pointer (some ⟨fx + 1, 0, none⟩)], .bool false, .func (.func 17) #[] #[.pointer (some ⟨fx, 0, none⟩), .pointer (some ⟨fx + 1, 0, none⟩)], undef, undef, undef, undef, undef, undef, undef, undef, undef, undef, undef, undef, undef, undef, undef, undef, undef, undef, undef, undef, undef, undef, undef, undef, undef, undef, undef, undef, undef, undef, undef, undef, undef, undef, undef, undef, undef, undef, undef, undef, u136, u137, u138, u139, u140, u141, u142, u143, u144, u145, u146, u147, u148, u149, u150, u151, u152, .bool false, .slice A m c, .int .i64 ↑m, .int .i64 ↑P, .int .i64 (↑m - ↑P), .func (.func 17) #[] #[.pointer (some ⟨fx, 0, none⟩), .pointer (some ⟨fx + 1, 0, none⟩)], v, undef, undef, undef, undef, undef, undef, undef, undef, undef, undef, undef, undef, undef, undef, undef, undef, undef, undef, undef, undef, undef, undef, undef, undef, undef, undef, undef, undef, undef, undef, undef, undef, undef, undef, undef, undef, undef, undef, undef, undef, undef, undef, undef, undef, undef, undef, undef, undef, undef, undef, undef, undef, undef, undef], defers := [] }) awM awM_below ?assign3 ?body3 ?done3 ?same3
          case i3 =>
            rintro k W W' ⟨pn, ln, e1, e2, e3, h1, h2, h3, h4⟩ hF
            have hl := HL.out
            have hMl := (Array.getElem?_eq_some_iff.1 h4).1
            exact ⟨pn, ln, e1, e2, e3, h1.above hF (fun g e => by omega), h2.fr hF (by omega), h3.fr hF (by omega), (hF.block _ hMl (by omega)).trans h4⟩
          case x3 => intro W W' h; exact h.elim
          case iter3 =>
            intro J Jx r hJ0 hJf hJI hY
            have hbl : Below wT.heap.size wT ((wT.alloc (.deferred (some []))).alloc (.loop r)) := ((Below.refl _ _).alloc (Nat.le_refl _) _).alloc (by simp) _
            have := matches1_lv 4 (lb + 2 + 1) fx (fx + 1) 273 pf P J Jx _ (H4.out.1.wp.ff.below hbl) (H4.out.1.bx.below hbl) (H4.out.1.bm.below hbl) (by rw [Hfl.out, Hlen.out]; exact hP) (by rw [Hfl.out, Hlen.out]; omega) (by rw [Hfd.out]; decide) hJ0 hJf (fun k W hJ => by
              obtain ⟨⟨pn, ln, _, _, _, h1, _⟩, _⟩ := hJI k W hJ
              exact ⟨⟨pn, h1.wp.ff⟩, h1.bx⟩) (fun k mm W hJ hm => by
              rw [Hfl.out, Hfd.out, Hms.out] at hm
              exact hY k (mV mm) W hJ ⟨mm, hm, rfl⟩ (List.getElem?_eq_some_iff.1 hm).1)
            rw [Hfl.out, Hfd.out, Hms.out] at this
            exact this
          case assign3 =>
            rintro k v W R ⟨mm, hm, rfl⟩ hR
            unfold mV at hR ⊢
            gi_wp2
            exact hR
          case same3 =>
            intro a' W hQ
            exact wpIn_exit (by first | exact hQ | simpa [Exit.inBlock] using hQ)
          case body3 =>
            rintro k v W Wb ⟨pn, ln, e1, e2, e3, h1, h2, h3, h4⟩ ⟨⟨m1, m2⟩, hm, rfl⟩ hk hD hFb _
            have hl := HL.out
            have hF : Fr (fun g => g = lb + 2 ∨ g = lb + 2 + 1) W Wb := ((Fr.refl _ W).of_below' (awM_below (mV (m1, m2)) W)).trans' hFb (fun i _ e => .inr e)
            have hbx : Blk Wb W.heap.size 30 #[.int .i64 (m1 : Int), .int .i64 (m2 : Int)] := (awM_box (m1, m2) W).fr hFb (by omega)
            have hMl := (Array.getElem?_eq_some_iff.1 h4).1
            have h1 := h1.above hF (fun g e => by omega)
            have h2 := h2.fr hF (by omega)
            have h3 := h3.fr hF (by omega)
            have h4 := (hF.block _ hMl (by omega)).trans h4
            have hzb := hF.size
            obtain ⟨X, hX⟩ : ∃ X, W.heap.size = X := ⟨_, rfl⟩
            rw [hX] at hbx hD hzb ⊢
            obtain ⟨g, hg, z0, z1⟩ := row_get h1.row hm
            have z0 : Wb.cell? ⟨g, k * 2, none⟩ = some (.int .i64 (m1 : Int)) := z0
            have z1 : Wb.cell? ⟨g, k * 2 + 1, none⟩ = some (.int .i64 (m2 : Int)) := z1
            have wcl := h1.bw.one
            rw [hg] at wcl
            obtain ⟨x0, x1⟩ := hbx.two
            have l0 := h2.one
            have a0 := h3.one
            have fb0 := h1.wp.bf.one
            have o1 := h1.wp.or1
            have o2 := h1.or2
            have HSk : Hid (∀ Wz, Below Wb.heap.size Wb Wz → Calls Try.prog 11 #[.pointer (some ⟨pf.fb, 0, none⟩), .int .i64 (ln : Int)] Wz fun e w' => e = .returned (.int .i64 0) ∧ Hid (WQ pf pg Z (Z + 1) fbx stop fx qb (qb + 1) (fx + 2) ms L lc m P w w' ∧ Fr (fun g => g = pf.fb) Wb w')) := fun Wz hz => by
              have h1z := h1.above (Fr.of_below hz) (fun g (e : False) => e.elim)
              refine (Skip_go pf pn ln Wz h1z.wp.ff (by rw [Hfl.out, Hlen.out]; omega) (by rw [Hfl.out, Hlen.out]; omega)).mono ?_
              rintro e w' ⟨r1, r2, r3⟩
              rw [e1] at r2
              exact ⟨r1, h1z.skipf r3 r2, (Fr.mono (Fr.of_below hz) (fun i hi (e : False) => e.elim)).trans r3⟩
            have hlb : lb < Wb.heap.size := h2.lt
            have hab : lb + 1 < Wb.heap.size := h3.lt
            have HH := Lib.hid (And.intro h2 (And.intro h3 h4))
            have HO3 := Lib.hid (And.intro o1 (And.intro o2 hl))
            have HXX := Lib.hid (And.intro hX (And.intro hD hzb))
            have hmix : Try.prog.follows Departure.mixedOrders = true := by kernel_rfl
            have hk' : (k : Int) < (ms.length : Int) := by omega
            have Hm := Lib.hid hm
            have He := Lib.hid (And.intro e1 (And.intro e2 e3))
            clear h1 h2 h3 h4 hbx hF hFb hm hX hD hzb hg o1 o2 hl e1 e2 e3 hMl
            unfold mV
            gi_wp2
            have hdk : decide ((ms.length : Int) ≤ (k : Int)) = false := decide_eq_false (by omega)
            have hdk' : decide (ms.length ≤ k) = false := decide_eq_false (by omega)
            refine still_tail_round 15 hmix (by kernel_rfl) (by kernel_rfl) ?_
            simp only [List.take_succ_cons, List.take_zero, List.drop_succ_cons, List.drop_zero]
            repeat still_step
            try refine wpStill_nil ?_
            gi_wp2
            refine ⟨trivial, ?_⟩
            refine (CallsIn.inRound _ (callsIn_wide.2 (HSk.out _ (Below.refl _ _).drew))).mono ?_
            rintro e' W4 ⟨rfl, HW4⟩
            clear HSk z0 z1 wcl x0 x1 l0 a0 fb0
            gi_wp2
            refine ⟨trivial, ?_⟩
            refine (CallsIn.inRound _ (callsIn_wide.2 (num_any 0 _))).mono ?_
            rintro e' W4 ⟨rfl, rfl⟩
            have HW5 : Hid (Blk W4 lb 3 #[.int .i64 (ln : Int)] ∧ Blk W4 (lb + 1) 3 #[.int .i64 (k : Int)] ∧ W4.heap[nb + 2]? = some (.deferred (some []))) := by
              obtain ⟨g1, g2⟩ := HW4.out
              obtain ⟨p1, p2, p3⟩ := HH.out
              have hfb := (HO3.out).1
              have hfc := HO3.out.2.1
              have hh := HO3.out.2.2
              have hnq := Hnq.out
              have hMl := (Array.getElem?_eq_some_iff.1 p3).1
              exact ⟨p1.fr g2 (by omega), p2.fr g2 (by omega), (g2.block _ hMl (by omega)).trans p3⟩
            have a1 := HW5.out.2.1.one
            have l1 := HW5.out.1.one
            have fl := HW5.out.1.frozen 0
            have fa := HW5.out.2.1.frozen 0
            have hl1 := HW5.out.1.lt
            have hl2 := HW5.out.2.1.lt
            clear hlb hab
            gi_wp2
            obtain ⟨WZ, hWZ⟩ : ∃ WZ, ((W4.setCell ⟨lb + 1, 0, none⟩ (.int .i64 ((k : Int) + 1))).setCell ⟨lb, 0, none⟩ (.int .i64 0)) = WZ := ⟨_, rfl⟩
            rw [hWZ]
            obtain ⟨g1, g2⟩ := HW4.out
            have hFz : Fr (fun g => g = lb ∨ g = lb + 1) W4 WZ := by rw [← hWZ]; exact ((Fr.refl (fun g => g = lb ∨ g = lb + 1) W4).setCell (p := ⟨lb + 1, 0, none⟩) (.inl (.inr rfl)) _).setCell (p := ⟨lb, 0, none⟩) (.inl (.inl rfl)) _
            obtain ⟨p1, p2, p3⟩ := HW5.out
            obtain ⟨hX, hD, hzb⟩ := HXX.out
            have hM4 := (Array.getElem?_eq_some_iff.1 p3).1
            have hs4 := g2.size
            have hfb := (HO3.out).1
            have hfc := HO3.out.2.1
            have hh := HO3.out.2.2
            have hnq := Hnq.out
            refine ⟨(hFz.block _ (by omega) (by omega)).trans (g2.block _ (by omega) (by omega)), (hFz.block _ (by omega) (by omega)).trans (g2.block _ (by omega) (by omega)), m, 0, by omega, fun h => absurd h (by omega), fun _ => rfl, g1.above hFz (fun g e => by omega), ?_, ?_, (hFz.block _ hM4 (by omega)).trans p3⟩
            · rw [← hWZ]
              exact (p1.far (p := ⟨lb + 1, 0, none⟩) (by show lb ≠ lb + 1; omega) _).set_ 0 _
            · rw [← hWZ, show ((k + 1 : Nat) : Int) = (k : Int) + 1 by omega]
              exact (p2.set_ 0 _).far (p := ⟨lb, 0, none⟩) (by show lb + 1 ≠ lb; omega) _
          case done3 =>
            rintro W hor hM
            have hE : ∃ pn : Nat, pn ≤ m ∧ (ms.length = 0 → pn = P) ∧ (0 < ms.length → pn = m) ∧ WQ pf pg Z (Z + 1) fbx stop fx qb (qb + 1) (fx + 2) ms L lc pn P w W ∧ Blk W (lb + 1) 3 #[.int .i64 (ms.length : Int)] ∧ W.heap[nb + 2]? = some (.deferred (some [])) := by
              rcases hor with ⟨pn, ln, e1, e2, e3, h1, h2, h3, h4⟩ | h
              · exact ⟨pn, by omega, e2, fun h => by have := e3 h; omega, h1, h3, h4⟩
              · exact h.elim
            obtain ⟨pn, e1, e2, e3, h1, h3, h4⟩ := hE
            have w0 := h1.bw.one
            have a0 := h3.one
            have HQ := Lib.hid (And.intro h1 (And.intro h4 hM))
            have HE := Lib.hid (And.intro e1 (And.intro e2 e3))
            clear hor h1 h3 h4 hM H4
            go_upto_if 188 with (fail)
            go_cut [23] from 188 to 190 (fun s23 wy => s23 = .int .i64 (pn : Int) ∧ wy = W)
            case first =>
              by_cases hN : 0 < ms.length
              · have hpn : (m : Int) = (pn : Int) := by have := HE.out.2.2 hN; omega
                have Hpn := Lib.hid hpn
                have hN' : (0 : Int) < (ms.length : Int) := by omega
                clear hpn
                go_wp2_with fail
                go_meet
                exact ⟨by first | rw [Hpn.out] | rfl, rfl⟩
              · have hpn : (P : Int) = (pn : Int) := by have := HE.out.2.1 (by omega); omega
                have Hpn := Lib.hid hpn
                have hN' : ¬ (0 : Int) < (ms.length : Int) := by omega
                clear hpn
                go_wp2_with fail
                go_meet
                exact ⟨by first | rw [Hpn.out] | rfl, rfl⟩
            case rest =>
              obtain ⟨hs23, hwW⟩ := hcut
              subst hs23
              rw [hwW]
              clear hwW w0 a0
              have q0 := HQ.out.1.bq.one
              have hql := HQ.out.1.bq.lt
              go_wp2_with fail
              obtain ⟨jb, hjb⟩ : ∃ jb, W.heap.size = jb := ⟨_, rfl⟩
              obtain ⟨wJ, hwJ⟩ : ∃ wJ, W.alloc (.cells #[.int .i64 0] 3) = wJ := ⟨_, rfl⟩
              rw [hwJ, hjb]
              have HJ : Hid (WQ pf pg Z (Z + 1) fbx stop fx qb (qb + 1) (fx + 2) ms L lc pn P w wJ ∧ Blk wJ jb 3 #[.int .i64 0] ∧ wJ.heap[nb + 2]? = some (.deferred (some [])) ∧ wJ.heap[lb + 2]? = some (.deferred (some [])) ∧ wJ.heap.size = jb + 1 ∧ lb + 2 < jb) := by
                obtain ⟨h1, h2, h3⟩ := HQ.out
                have hbJ : Below W.heap.size W wJ := by rw [← hwJ]; exact (Below.refl _ _).alloc (Nat.le_refl _) _
                have hl2 := (Array.getElem?_eq_some_iff.1 h2).1
                have hl3 := (Array.getElem?_eq_some_iff.1 h3).1
                exact ⟨h1.above (Fr.of_below hbJ) (fun g (e : False) => e.elim), by rw [← hwJ]; exact Blk.new_at hjb.symm, (hbJ.block _ hl2).trans h2, (hbJ.block _ hl3).trans h3, by rw [← hwJ, World.size_alloc, hjb], by omega⟩
              have hmt : mats l 4096 pn 273 = [] := by
                by_cases hN : 0 < ms.length
                · have := HE.out.2.2 hN
                  unfold mats
                  rw [if_pos (by unfold lft; have := Hlen.out; omega)]
                · rw [HE.out.2.1 (by omega), Hms.out]
                  exact List.length_eq_zero_iff.1 (by omega)
              have Hmt := Lib.hid hmt
              clear hwJ hjb hmt HQ q0 hql
              refine (wpIn_wide (n := 5)).1 ?_
              refine range_lb (n := 5) (by omega) (gf := 17) (lb := #[.pointer (some ⟨fx, 0, none⟩), .pointer (some ⟨fx + 1, 0, none⟩)]) rfl (enters_of Try.func17 (by kernel_rfl) rfl) rfl (.exit 8)
                (fun _ W => WQ pf pg Z (Z + 1) fbx stop fx qb (qb + 1) (fx + 2) ms L lc pn P w W ∧ Blk W jb 3 #[.int .i64 0] ∧ W.heap[nb + 2]? = some (.deferred (some [])) ∧ W.heap[lb + 2]? = some (.deferred (some [])))
                (fun _ => False) (fun _ _ => False) 0 (jb + 1) HJ.out.2.2.2.2.1 ?i4 ?x4 ⟨HJ.out.1, HJ.out.2.1, HJ.out.2.2.1, HJ.out.2.2.2.1⟩ ?iter4 (fun _ _ => { tmps := #[], defers := [] }) (fun _ W => W) (fun _ W => Below.refl _ W) ?assign4 ?body4 ?done4 ?same4
              case i4 =>
                rintro k W W' ⟨h1, h2, h3, h4⟩ hF
                have hl := HL.out
                have hj := HJ.out.2.2.2.2.2
                have hM3 := (Array.getElem?_eq_some_iff.1 h3).1
                have hM4 := (Array.getElem?_eq_some_iff.1 h4).1
                exact ⟨h1.above hF (fun g e => by omega), h2.fr hF (by omega), (hF.block _ hM3 (by omega)).trans h3, (hF.block _ hM4 (by omega)).trans h4⟩
              case x4 => intro W W' h; exact h.elim
              case assign4 => intro k v W R h; exact h.elim
              case body4 => intro k v W Wb _ h; exact h.elim
              case same4 =>
                intro a' W hQ
                exact wpIn_exit (by first | exact hQ | simpa [Exit.inBlock] using hQ)
              case iter4 =>
                intro J Jx r hJ0 hJf hJI hY
                have hbl : Below wJ.heap.size wJ ((wJ.alloc (.deferred (some []))).alloc (.loop r)) := ((Below.refl _ _).alloc (Nat.le_refl _) _).alloc (by simp) _
                have := matches1_lv 4 (jb + 1 + 1) fx (fx + 1) 273 pf pn J Jx _ (HJ.out.1.wp.ff.below hbl) (HJ.out.1.bx.below hbl) (HJ.out.1.bm.below hbl) (by rw [Hfl.out, Hlen.out]; exact HE.out.1) (by rw [Hfl.out, Hlen.out]; omega) (by rw [Hfd.out]; decide) hJ0 hJf (fun k W hJ => ⟨⟨pn, (hJI k W hJ).1.1.wp.ff⟩, (hJI k W hJ).1.1.bx⟩) (fun k mm W hJ hm => by
                  rw [Hfl.out, Hfd.out, Hmt.out] at hm
                  cases k <;> cases hm)
                rw [Hfl.out, Hfd.out, Hmt.out] at this
                exact this
              case done4 =>
                rintro W hor hM
                obtain ⟨h1, h2, h3, h4⟩ := hor.resolve_right (fun h => h)
                have HQ4 := Lib.hid (And.intro h1 (And.intro h3 (And.intro h4 hM)))
                have HCW : Hid (∀ W' : World, Below W.heap.size W W' → W'.cell? ⟨fbx, 0, none⟩ = some (.pointer (some ⟨pf.fb, 0, none⟩)) ∧ W'.cell? ⟨jb, 0, none⟩ = some (.int .i64 0) ∧ W'.cell? ⟨qb + 1, 0, none⟩ = some (.slice L ms.length lc)) := fun W' hW' => ⟨(h1.wp.bf.below hW').one, (h2.below hW').one, (h1.bw.below hW').one⟩
                have HFg : Hid (∀ W' : World, Below W.heap.size W W' → Calls Try.prog 10 #[.pointer (some ⟨pg.fb, 0, none⟩), .int .i64 273] W' (AllPost ms W')) := fun W' hW' => by
                  have := all_any pg P 273 W' (h1.wp.fg.below hW') (by rw [Hgl.out, Hlen.out]; omega) (by rw [Hgl.out, Hlen.out]; omega) (by rw [Hgd.out]; decide)
                  rw [Hgl.out, Hgd.out, Hms.out] at this
                  exact this
                obtain ⟨x0, x1, x2⟩ := HCW.out W (Below.refl _ _)
                have HCR : Hid (∀ W' : World, Below W.heap.size W W' → W'.frozen? ⟨Z + 1, 0, none⟩ = false ∧ Z + 1 < W'.heap.size ∧ W'.cell? ⟨Z + 1, 0, none⟩ = some (.bool false)) := fun W' hW' => ⟨(h1.wp.br.below hW').frozen 0, (h1.wp.br.below hW').lt, (h1.wp.br.below hW').one⟩
                have hzf : Z + 1 ≠ fbx ∧ Z + 1 ≠ jb ∧ Z + 1 ≠ qb + 1 ∧ Z ≠ qb := by
                  have o1 := h1.wp.or1
                  have o2 := h1.or2
                  have hl := HL.out
                  have hj := HJ.out.2.2.2.2.2
                  omega
                obtain ⟨n1', n2', n3', n4'⟩ := hzf
                have HTl := Lib.hid (ways_end HZ.out h1.wp.bl (D1 := nb + 2) (D2 := lb + 2) (D3 := jb + 1) (by have := Hnq.out; have := h1.wp.or1; have := h1.or2; omega) (by have := HL.out; omega) (by have := HJ.out.2.2.2.2.2; omega) h3 h4 hM h1.wp.br)
                clear h1 h2 h3 h4 hM hor HJ
                go_upto_region 49 with (fail)
                first | (go_region_with (first | (go_at_call 13; refine (Pos_any pf pn _ (HQ4.out.1.wp.ff.below (by first | (with_reducible exact (Below.refl _ _)) | (with_reducible exact (Below.refl _ _).drew)))).mono ?_; rintro en wp ⟨rfl, rfl⟩) | (go_at_call 10; refine (HFg.out _ (by first | (with_reducible exact (Below.refl _ _)) | (with_reducible exact (Below.refl _ _).drew))).mono ?_; rintro en wa ⟨L2, lc2, rfl, hO2, hba1⟩; have hba : Below W.heap.size W wa := bup (by first | (with_reducible exact (Below.refl _ _)) | (with_reducible exact (Below.refl _ _).drew)) hba1; obtain ⟨p0, p1, p2⟩ := HCW.out wa hba) | (go_at_call 15; refine (same_any L2 L lc2 lc _ _ ms _ hO2 (own_below HQ4.out.1.row hba) hm32).mono ?_; rintro en ws ⟨rfl, kk, rfl⟩; have q0 : (wa.drewN kk).cell? ⟨fbx, 0, none⟩ = some (.pointer (some ⟨pf.fb, 0, none⟩)) := p0; have q1 : (wa.drewN kk).cell? ⟨jb, 0, none⟩ = some (.int .i64 0) := p1; have q2 : (wa.drewN kk).cell? ⟨qb + 1, 0, none⟩ = some (.slice L ms.length lc) := p2; have r4 : (wa.drewN kk).frozen? ⟨Z + 1, 0, none⟩ = false := (HCR.out wa hba).1; have r5 : Z + 1 < (wa.drewN kk).heap.size := (HCR.out wa hba).2.1; have r6 : (wa.drewN kk).cell? ⟨Z + 1, 0, none⟩ = some (.bool false) := (HCR.out wa hba).2.2))) | (fail)
                all_goals go_wp2_with fail
                all_goals obtain ⟨t1, t2, t3, t4⟩ := HTl.out (wa.drewN kk) (below_drewN hba kk) (.bool true)
                all_goals refine ⟨by simp, .inl ⟨_, _, rfl, run_takeDeferred t1, ?_⟩⟩
                all_goals refine ⟨by simp, .inl ⟨_, _, rfl, run_takeDeferred (t2 _), ?_⟩⟩
                all_goals refine ⟨by simp, .inl ⟨_, _, rfl, run_takeDeferred (t3 _ _), ?_⟩⟩
                all_goals obtain ⟨t5, t6⟩ := t4 (.deferred none) (.deferred none) (.deferred none)
                all_goals have t7 := t5 (by simp)
                all_goals exact ⟨.bool true, by simp [results, Try.results5, go_sem, t7], rfl, t6⟩
end Go.Proofs.Ytllhmgnhnbnbiaa
