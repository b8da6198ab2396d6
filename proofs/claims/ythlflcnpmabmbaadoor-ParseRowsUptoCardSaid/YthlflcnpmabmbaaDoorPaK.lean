/-
  Walk of cheapest: the best step at a place. Conditions: the piece and the matches lie in memory; what 'behind' answers is told.
-/
import Derived.Test.YthlflcnpmabmbaaDoorPaS
namespace Go.Proofs.YthlflcnpmabmbaaDoor
open Go.RowKit Go.Shelf
attribute [local go_sem] Oper.semAt_some
set_option maxRecDepth 100000

theorem ents_get : ∀ {ms : List (Nat × Nat)} {i : Nat} {m : Nat × Nat}, ms[i]? = some m → (ents ms)[i * 2]? = some (.int .i64 (m.1 : Int)) ∧ (ents ms)[i * 2 + 1]? = some (.int .i64 (m.2 : Int))
  | [], i, m, h => by simp at h
  | a :: r, 0, m, h => by
    simp at h
    subst h
    exact ⟨rfl, rfl⟩
  | a :: r, i + 1, m, h => by
    have := ents_get (ms := r) (i := i) (m := m) (by simpa using h)
    have he : ents (a :: r) = [.int .i64 (a.1 : Int), .int .i64 (a.2 : Int)] ++ ents r := rfl
    rw [he, List.getElem?_append_right (by simp; omega), List.getElem?_append_right (by simp; omega)]
    simp only [List.length_cons, List.length_nil]
    rw [show (i + 1) * 2 - (0 + 1 + 1) = i * 2 by omega, show (i + 1) * 2 + 1 - (0 + 1 + 1) = i * 2 + 1 by omega]
    exact this
/-- the cells of the i-th match -/
theorem row_get {w : World} {B lc : Nat} {L : Option Addr} {ms : List (Nat × Nat)} {i : Nat} {m : Nat × Nat} (h : w.ownsRow B 98 2 (.slice L ms.length lc) ms.length (ents ms)) (hi : ms[i]? = some m) :
    ∃ g, L = some ⟨g, 0, none⟩ ∧ w.cell? ⟨g, i * 2, none⟩ = some (.int .i64 (m.1 : Int)) ∧ w.cell? ⟨g, i * 2 + 1, none⟩ = some (.int .i64 (m.2 : Int)) := by
  have hl : i < ms.length := (List.getElem?_eq_some_iff.1 hi).1
  obtain ⟨e1, e2⟩ := ents_get hi
  rcases h.2 with ⟨_, h0⟩ | ⟨g, cap, cur, hv, _⟩
  · omega
  · injection hv with a1 a2 a3
    refine ⟨g, a1, ?_, ?_⟩
    · subst a1
      have := h.cellAt (g := g) (cap := lc) (i * 2) (by omega)
      rw [this]
      simp [e1]
    · subst a1
      have := h.cellAt (g := g) (cap := lc) (i * 2 + 1) (by omega)
      rw [this]
      simp [e2]
/-- the price of a match -/
def mPr (n d : Nat) : Int := prV 2 (n : Int) (d : Int)
theorem mPr_bd (n d : Nat) : 0 ≤ mPr n d ∧ mPr n d ≤ 49 := prV_bd _ _ _
def stepC (R : Nat → Int) (p d n : Nat) (b : Sy × Int) : Sy × Int := if mPr n d + R (p + n) ≤ b.2 then (⟨2, 0, (n : Int), (d : Int)⟩, mPr n d + R (p + n)) else b
/-- a match in each of its lengths from n on -/
def cheapIn (R : Nat → Int) (p d : Nat) : Nat → Nat → Sy × Int → Sy × Int
  | 0, _, b => b
  | f + 1, n, b => cheapIn R p d f (n + 1) (stepC R p d n b)
def cheapM (R : Nat → Int) (p : Nat) (b : (Sy × Int) × Nat) (m : Nat × Nat) : (Sy × Int) × Nat := (cheapIn R p m.2 (m.1 + 1 - b.2) b.2 b.1, max b.2 (m.1 + 1))
def cheapGo (R : Nat → Int) (p : Nat) (c : UInt8) (ms : List (Nat × Nat)) : (Sy × Int) × Nat := ms.foldl (cheapM R p) ((⟨1, c, 0, 0⟩, 9 + R (p + 1)), 3)
def cheapL (R : Nat → Int) (p : Nat) (c : UInt8) (ms : List (Nat × Nat)) : Sy × Int := (cheapGo R p c ms).1
theorem cheapGo_snoc (R : Nat → Int) (p : Nat) (c : UInt8) (ms : List (Nat × Nat)) (m : Nat × Nat) : cheapGo R p c (ms ++ [m]) = cheapM R p (cheapGo R p c ms) m := by
  unfold cheapGo
  rw [List.foldl_append]
  rfl
theorem cheapIn_step (R : Nat → Int) (p d t n : Nat) (b : Sy × Int) (h : n ≤ t) : cheapIn R p d (t + 1 - n) n b = cheapIn R p d (t + 1 - (n + 1)) (n + 1) (stepC R p d n b) := by
  obtain ⟨f, hf⟩ : ∃ f, t + 1 - n = f + 1 := ⟨t - n, by omega⟩
  rw [hf, show t + 1 - (n + 1) = f by omega]
  rfl
/-- what the steps ahead promise of the prices behind -/
def Behind (R : Nat → Int) (p hi : Nat) (lb : Array Value) (w : World) : Prop :=
  ∀ W, Below w.heap.size w W → ∀ k : Nat, p < k → k ≤ hi → Calls Tryd.prog 46 (#[.int .i64 (k : Int)] ++ lb) W fun e w' => e = .returned (.int .i64 (R k)) ∧ W = w'
set_option maxHeartbeats 8000000 in
theorem cheapest_any (x : Pc) (pos p : Nat) (ms : List (Nat × Nat)) (L : Option Addr) (lc B1 r1 r2 : Nat) (R : Nat → Int) (w : World) (h : PIn x pos w) (hp : p < x.hi) (hl : w.ownsRow B1 98 2 (.slice L ms.length lc) ms.length (ents ms)) (hn : ms.length ≤ 32) (hms : ∀ m ∈ ms, m.1 ≤ pmost x.hi p)
    (hR : ∀ k, 0 ≤ R k ∧ R k ≤ 100000000) (hb : Behind R p x.hi #[.pointer (some ⟨r1, 0, none⟩), .pointer (some ⟨r2, 0, none⟩)] w) (hL : Laid w) :
    Calls Tryd.prog 45 #[.pointer (some ⟨x.cb, 0, none⟩), .int .i64 p, .slice L ms.length lc, .func (.func 46) #[] #[.pointer (some ⟨r1, 0, none⟩), .pointer (some ⟨r2, 0, none⟩)]] w fun e w' => e = .returned (.tuple #[(cheapL R p (x.l.getD p 0) ms).1.v, .int .i64 (cheapL R p (x.l.getD p 0) ms).2]) ∧ Below w.heap.size w w' := by
  obtain ⟨B, hB⟩ : ∃ B, w.heap.size = B := ⟨_, rfl⟩
  obtain ⟨wb, hwb⟩ : ∃ wb, w.alloc (.cells #[.int .i64 0, .int .u8 0, .int .i64 0, .int .i64 0] 24) = wb := ⟨_, rfl⟩
  have hbb : Below w.heap.size w wb := by rw [← hwb]; exact (Below.refl _ _).alloc (Nat.le_refl _) _
  have hBB : Blk wb B 24 #[.int .i64 0, .int .u8 0, .int .i64 0, .int .i64 0] := by rw [← hwb]; exact Blk.new_at hB.symm
  have hzb : wb.heap.size = B + 1 := by rw [← hwb, World.size_alloc, hB]
  obtain ⟨ad, hA, z1⟩ := (h.below hbb).d.at_ (j := p) (by have := h.le; omega)
  have c0 : wb.cell? ⟨x.cb, 0, none⟩ = some (.slice x.A x.m x.c) := (h.below hbb).b.cell 0
  rw [hA] at c0
  have hpm : (p : Int) < (x.m : Int) := by have := h.le; omega
  have hhi : x.hi ≤ 1073741824 := by have := h.le; omega
  have hpmo : pmost x.hi p ≤ x.hi - p ∧ pmost x.hi p ≤ 273 := by unfold pmost; omega
  obtain ⟨z, hz⟩ : ∃ z, x.l.getD p 0 = z := ⟨_, rfl⟩
  rw [hz] at z1 ⊢
  have HB := Lib.hid hb
  have HLa := Lib.hid hL
  have Hl := Lib.hid hl
  have HR := Lib.hid hR
  have Hms := Lib.hid hms
  have HBe := Lib.hid hB
  have HBB := Lib.hid (And.intro hBB (And.intro hbb hzb))
  clear h hl hb hL hR hms hA hz hBB hbb hzb
  go_enter Tryd.func45, Tryd.ntmps45
  go_upto_region 2 with (fail)
  clear hwb hB c0 z1
  obtain ⟨wl, hwl⟩ : ∃ wl, wb.alloc (.cells #[.int .i64 1, .int .u8 (z.toNat : Int), .int .i64 0, .int .i64 0] 24) = wl := ⟨_, rfl⟩
  simp only [hwl]
  have hbl : Below wb.heap.size wb wl := by rw [← hwl]; exact (Below.refl _ _).alloc (Nat.le_refl _) _
  have hBl : Blk wl (B + 1) 24 #[.int .i64 1, .int .u8 (z.toNat : Int), .int .i64 0, .int .i64 0] := by rw [← hwl]; exact Blk.new_at HBB.out.2.2.symm
  have Hwl := Lib.hid (And.intro hBl (And.intro (HBB.out.1.below hbl) (bup HBB.out.2.1 hbl)))
  have hsz1 : wb.heap.size = B + 1 := HBB.out.2.2
  simp only [hsz1]
  clear hwl hbl hBl HBB hsz1
  have hb1 := HB.out wl Hwl.out.2.2 (p + 1) (by omega) (by omega)
  rw [show ((p + 1 : Nat) : Int) = (p : Int) + 1 by omega] at hb1
  obtain ⟨R1, hR1⟩ : ∃ R1, R (p + 1) = R1 := ⟨_, rfl⟩
  rw [hR1] at hb1
  have hR1b := HR.out (p + 1)
  rw [hR1] at hR1b
  have HG0 : Hid (cheapGo R p z (ms.take 0) = ((⟨1, z, 0, 0⟩, 9 + R1), 3)) := by show _ = _; rw [List.take_zero, ← hR1]; rfl
  have Hb1 := Lib.hid hb1
  clear hR1 hb1
  go_wp2_with fail
  refine Hb1.out.mono ?_
  rintro e w' ⟨rfl, rfl⟩
  clear Hb1
  go_wp2_with fail
  go_loopw [11, 12, 34] (fun s11 s12 s34 wr => ∃ (i : Nat), s34 = .int .i64 (i : Int) ∧ i ≤ ms.length ∧ s11 = .int .i64 (cheapGo R p z (ms.take i)).1.2 ∧ s12 = .int .i64 ((cheapGo R p z (ms.take i)).2 : Int) ∧ Hid (Blk wr (B + 1) 24 (cheapGo R p z (ms.take i)).1.1.cs ∧ Blk wr B 24 #[.int .i64 0, .int .u8 0, .int .i64 0, .int .i64 0] ∧ Below w.heap.size w wr ∧ 3 ≤ (cheapGo R p z (ms.take i)).2 ∧ (cheapGo R p z (ms.take i)).2 ≤ 274)) (fun _ _ s34 _ => ms.length - (intOf s34).toNat)
  case atStart => exact ⟨0, rfl, Nat.zero_le _, by rw [HG0.out], by rw [HG0.out]; rfl, by rw [HG0.out]; exact ⟨Hwl.out.1, Hwl.out.2.1, Hwl.out.2.2, Nat.le_refl _, by show 3 ≤ 274; decide⟩⟩
  case round =>
    clear Hwl HG0
    obtain ⟨i, rfl, hi, rfl, rfl, HI⟩ := hrel
    by_cases hlt : i < ms.length
    · obtain ⟨m, hm⟩ : ∃ m, ms[i]? = some m := ⟨_, List.getElem?_eq_getElem hlt⟩
      have hnext : cheapGo R p z (ms.take (i + 1)) = cheapM R p (cheapGo R p z (ms.take i)) m := by rw [take_snoc hm, cheapGo_snoc]
      obtain ⟨G, hG⟩ : ∃ G, cheapGo R p z (ms.take i) = G := ⟨_, rfl⟩
      rw [hG] at hnext HI ⊢
      obtain ⟨⟨⟨yk, yy, yl, yx⟩, pr⟩, n0⟩ := G
      obtain ⟨m1, m2⟩ := m
      unfold cheapM at hnext
      simp only [] at hnext HI ⊢
      have hmm := Hms.out _ (List.mem_of_getElem? hm)
      simp only [] at hmm
      obtain ⟨g, hLg, e0, e1⟩ := row_get (own_below Hl.out HI.out.2.2.1) hm
      simp only [] at e0 e1
      subst hLg
      have hlt' : (i : Int) < (ms.length : Int) := by omega
      have Hn := Lib.hid hnext
      have Hm := Lib.hid hm
      clear hnext hm hG
      go_wp2_with fail
      obtain ⟨M, hM⟩ : ∃ M, wr.heap.size = M := ⟨_, rfl⟩
      obtain ⟨wm, hwm⟩ : ∃ wm, wr.alloc (.cells #[.int .i64 (m1 : Int), .int .i64 (m2 : Int)] 98) = wm := ⟨_, rfl⟩
      have hbm : Below wr.heap.size wr wm := by rw [← hwm]; exact (Below.refl _ _).alloc (Nat.le_refl _) _
      have hMm : Blk wm M 98 #[.int .i64 (m1 : Int), .int .i64 (m2 : Int)] := by rw [← hwm]; exact Blk.new_at hM.symm
      simp only [hwm, hM]
      have HI2 : Hid (Blk wm (B + 1) 24 (Sy.cs ⟨yk, yy, yl, yx⟩) ∧ Blk wm B 24 #[.int .i64 0, .int .u8 0, .int .i64 0, .int .i64 0] ∧ Blk wm M 98 #[.int .i64 (m1 : Int), .int .i64 (m2 : Int)] ∧ Below w.heap.size w wm) := ⟨HI.out.1.below hbm, HI.out.2.1.below hbm, hMm, bup HI.out.2.2.1 hbm⟩
      have HMB : Hid (B + 1 < M) := by show B + 1 < M; rw [← hM]; exact HI.out.1.lt
      have hn0 : 3 ≤ n0 ∧ n0 ≤ 274 := HI.out.2.2.2
      have hm274 : m1 ≤ 273 ∧ p + m1 ≤ x.hi := by omega
      clear hwm hM hbm hMm HI e0 e1 hmm
      go_loopw [11, 12] (fun s11 s12 wq => ∃ (n : Nat) (b : Sy × Int), s11 = .int .i64 b.2 ∧ s12 = .int .i64 (n : Int) ∧ 3 ≤ n ∧ n ≤ max n0 (m1 + 1) ∧ n0 ≤ n ∧ Hid (cheapIn R p m2 (m1 + 1 - n) n b = cheapIn R p m2 (m1 + 1 - n0) n0 (⟨yk, yy, yl, yx⟩, pr) ∧ Blk wq (B + 1) 24 b.1.cs ∧ Blk wq B 24 #[.int .i64 0, .int .u8 0, .int .i64 0, .int .i64 0] ∧ Blk wq M 98 #[.int .i64 (m1 : Int), .int .i64 (m2 : Int)] ∧ Below w.heap.size w wq)) (fun _ s12 _ => 274 - (intOf s12).toNat)
      case atStart => exact ⟨n0, (⟨yk, yy, yl, yx⟩, pr), rfl, rfl, hn0.1, by omega, Nat.le_refl _, rfl, HI2.out⟩
      case round =>
        clear HI2
        obtain ⟨n, ⟨⟨ak, ay, al, ax⟩, ap⟩, rfl, rfl, hn3, hnm, hn0n, HQ⟩ := hrel
        obtain ⟨q0, q1⟩ := HQ.out.2.2.2.1.two
        by_cases hle : n ≤ m1
        · have hle' : (n : Int) ≤ (m1 : Int) := by omega
          have hst := cheapIn_step R p m2 m1 n (⟨ak, ay, al, ax⟩, ap) hle
          unfold stepC at hst
          simp only [] at hst
          obtain ⟨own, hown⟩ : ∃ own, mPr n m2 = own := ⟨_, rfl⟩
          have hownb := mPr_bd n m2
          have HPr : Hid (∀ W, Laid W → Calls Tryd.prog 11 #[.agg #[.int .i64 2, .int .u8 0, .int .i64 (n : Int), .int .i64 (m2 : Int)]] W fun e w' => ∃ E, e = .returned (.tuple #[.int .i64 own, .int .i64 E]) ∧ Below W.heap.size W w') := fun W hW => by
            rw [← hown]
            exact (Price_any 2 (n : Int) (m2 : Int) 0 W hW).mono fun e w' h => ⟨_, h.1, h.2⟩
          obtain ⟨Rn, hRn⟩ : ∃ Rn, R (p + n) = Rn := ⟨_, rfl⟩
          have hRb := HR.out (p + n)
          have HBn : Hid (∀ W, Below w.heap.size w W → Calls Tryd.prog 46 #[.int .i64 ((p : Int) + (n : Int)), .pointer (some ⟨r1, 0, none⟩), .pointer (some ⟨r2, 0, none⟩)] W fun e w' => e = .returned (.int .i64 Rn) ∧ W = w') := fun W hW => by
            have := HB.out W hW (p + n) (by omega) (by omega)
            rw [hRn, show ((p + n : Nat) : Int) = (p : Int) + (n : Int) by omega] at this
            exact this
          rw [hown, hRn] at hst
          rw [hown] at hownb
          rw [hRn] at hRb
          have Hst := Lib.hid hst
          clear hst hown hRn
          obtain ⟨j1, j2, j3, j4, j5⟩ := HQ.out
          simp only [] at j1 j2
          have Hj1 := Lib.hid j1
          have HJ := Lib.hid (And.intro j2 (And.intro j3 (And.intro j4 j5)))
          clear j1 j2 j3 j4 j5 HQ
          go_wp2_with fail
          refine (match_any (n : Int) (m2 : Int) _).mono ?_
          rintro e wa ⟨rfl, hba⟩
          obtain ⟨Yb, hYb⟩ : ∃ Yb, wa.heap.size = Yb := ⟨_, rfl⟩
          obtain ⟨wy, hwy⟩ : ∃ wy, wa.alloc (.cells #[.int .i64 2, .int .u8 0, .int .i64 (n : Int), .int .i64 (m2 : Int)] 24) = wy := ⟨_, rfl⟩
          have hby : Below wr.heap.size wr wy := by rw [← hwy]; exact bmk hba _
          have hYy : Blk wy Yb 24 #[.int .i64 2, .int .u8 0, .int .i64 (n : Int), .int .i64 (m2 : Int)] := by rw [← hwy]; exact Blk.new_at hYb.symm
          have hYr : wr.heap.size ≤ Yb := by rw [← hYb]; exact hba.size
          obtain ⟨y0, y1, y2, y3⟩ := hYy.four
          have HY := Lib.hid (And.intro hby (And.intro hYy hYr))
          clear hby hYy hYr hba
          go_wp2_with fail
          clear hwy hYb
          refine (HPr.out wy (HLa.out.below (bup HJ.out.2.2.2 HY.out.1))).mono ?_
          rintro e wp ⟨E, rfl, hbp⟩
          have HP := Lib.hid (And.intro (bup HY.out.1 hbp) (HY.out.2.1.below hbp))
          clear hbp HPr y0 y1 y2 y3 q0 q1
          go_wp2_with fail
          refine (HBn.out wp (bup HJ.out.2.2.2 HP.out.1)).mono ?_
          rintro e w' ⟨rfl, rfl⟩
          obtain ⟨hbp, hYp⟩ := HP.out
          obtain ⟨y0, y1, y2, y3⟩ := hYp.four
          have hBp := HJ.out.1.below hbp
          obtain ⟨b0, b1, b2, b3⟩ := Blk.four hBp
          obtain ⟨f0, f1, f2, f3⟩ := Blk.four_f hBp
          have hBl := hBp.lt
          clear hbp hYp hBp HBn
          by_cases hsum : own + Rn ≤ ap
          · rw [if_pos hsum] at Hst
            go_wp2_with fail
            go_roundw
            case rel =>
              obtain ⟨h1, h2, h3, h4⟩ := HJ.out
              have hB := HBe.out
              have hMB := HMB.out
              have k1 := h1.below HP.out.1
              have k2 := h2.below HP.out.1
              have k3 := h3.below HP.out.1
              have k4 := bup h4 HP.out.1
              refine ⟨n + 1, (⟨2, 0, (n : Int), (m2 : Int)⟩, own + Rn), rfl, by go_num, by omega, by omega, by omega, ?_, ?_, ?_, ?_, ?_⟩
              · rw [← Hst.out]; exact Hj1.out
              · exact (((k1.set_ 0 _).set_ 1 _).set_ 2 _).set_ 3 _
              · have hne : B ≠ B + 1 := by omega
                exact (((k2.far (p := ⟨B + 1, 0, none⟩) hne _).far (p := ⟨B + 1, 1, none⟩) hne _).far (p := ⟨B + 1, 2, none⟩) hne _).far (p := ⟨B + 1, 3, none⟩) hne _
              · have hne : M ≠ B + 1 := by omega
                exact (((k3.far (p := ⟨B + 1, 0, none⟩) hne _).far (p := ⟨B + 1, 1, none⟩) hne _).far (p := ⟨B + 1, 2, none⟩) hne _).far (p := ⟨B + 1, 3, none⟩) hne _
              · have hle : w.heap.size ≤ B + 1 := by omega
                exact (((k4.setCell (p := ⟨B + 1, 0, none⟩) hle _).setCell (p := ⟨B + 1, 1, none⟩) hle _).setCell (p := ⟨B + 1, 2, none⟩) hle _).setCell (p := ⟨B + 1, 3, none⟩) hle _
            case measure => simp [intOf]; omega
          · rw [if_neg hsum] at Hst
            go_wp2_with fail
            go_roundw
            case rel =>
              obtain ⟨h1, h2, h3, h4⟩ := HJ.out
              refine ⟨n + 1, (⟨ak, ay, al, ax⟩, ap), rfl, by go_num, by omega, by omega, by omega, ?_, h1.below HP.out.1, h2.below HP.out.1, h3.below HP.out.1, bup h4 HP.out.1⟩
              rw [← Hst.out]; exact Hj1.out
            case measure => simp [intOf]; omega
        · have hgt : ¬ (n : Int) ≤ (m1 : Int) := by omega
          have hfin : n = max n0 (m1 + 1) := by omega
          obtain ⟨j1, j2, j3, j4, j5⟩ := HQ.out
          rw [show m1 + 1 - n = 0 by omega] at j1
          have HJ := Lib.hid (And.intro j1 (And.intro j2 (And.intro j3 (And.intro j4 (And.intro j5 hfin)))))
          clear j1 j2 j3 j4 j5 HQ hfin
          go_wp2_with fail
          go_roundw
          case rel =>
            obtain ⟨j1, j2, j3, j4, j5, hfin⟩ := HJ.out
            have e : cheapGo R p z (ms.take (i + 1)) = ((⟨ak, ay, al, ax⟩, ap), n) := by rw [Hn.out, ← j1, hfin]; rfl
            exact ⟨i + 1, by go_num, by omega, by rw [e], by rw [e], by rw [e]; exact ⟨j2, j3, j5, hn3, by show n ≤ 274; omega⟩⟩
          case measure => simp [intOf]; omega
    · obtain rfl : i = ms.length := by omega
      obtain ⟨G, hG⟩ : ∃ G, cheapGo R p z (ms.take ms.length) = G := ⟨_, rfl⟩
      have hGL : cheapL R p z ms = G.1 := by rw [← hG, List.take_length]; rfl
      rw [hG] at HI ⊢
      have HGL := Lib.hid hGL
      clear hG hGL
      obtain ⟨⟨⟨yk, yy, yl, yx⟩, pr⟩, n0⟩ := G
      simp only [] at HI ⊢
      have hBp := HI.out.1
      have hB0 := HI.out.2.1
      unfold Sy.cs at hBp
      obtain ⟨y0, y1, y2, y3⟩ := hBp.four
      obtain ⟨b0, b1, b2, b3⟩ := hB0.four
      obtain ⟨f0, f1, f2, f3⟩ := Blk.four_f hB0
      have hBl := hB0.lt
      clear hBp hB0
      have hge : ¬ (ms.length : Int) < (ms.length : Int) := by omega
      go_wp2_with fail
      have hle : w.heap.size ≤ B := by have := HBe.out; omega
      refine bodyPost_ret (v := .tuple #[.agg #[.int .i64 yk, .int .u8 (yy.toNat : Int), .int .i64 yl, .int .i64 yx], .int .i64 pr]) (by simp [results, Tryd.results45, go_sem, *]) rfl ⟨by rw [HGL.out]; rfl, ?_⟩
      exact (((HI.out.2.2.1.setCell (p := ⟨B, 0, none⟩) hle _).setCell (p := ⟨B, 1, none⟩) hle _).setCell (p := ⟨B, 2, none⟩) hle _).setCell (p := ⟨B, 3, none⟩) hle _
end Go.Proofs.YthlflcnpmabmbaaDoor
