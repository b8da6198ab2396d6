/-
  Walks of good and known. Conditions: none.
-/
import Derived.Test.YthlflcnpmabmbaaDoorPaO
import Derived.Test.YthlflcnpmabmbaaDoorFiKn
namespace Go.Proofs.YthlflcnpmabmbaaDoor
open Go.RowKit Go.Shelf
attribute [local go_sem] Oper.semAt_some
set_option maxRecDepth 100000

/-- a Piece by value -/
def pcC (A : Option Addr) (m c : Nat) (fr tz di : Int) (s : St) : Array Value := #[.slice A m c, .int .i64 fr, .int .i64 tz, .int .i64 di, .int .i64 s.n, .int .i64 s.a, .int .i64 s.b, .int .i64 s.c, .int .i64 s.d]
theorem Blk.nine {w : World} {g : Nat} {t : TypeId} {v0 v1 v2 v3 v4 v5 v6 v7 v8 : Value} (h : Blk w g t #[v0, v1, v2, v3, v4, v5, v6, v7, v8]) : (w.cell? ⟨g, 0, none⟩ = some v0 ∧ w.cell? ⟨g, 1, none⟩ = some v1 ∧ w.cell? ⟨g, 2, none⟩ = some v2 ∧ w.cell? ⟨g, 3, none⟩ = some v3 ∧ w.cell? ⟨g, 4, none⟩ = some v4 ∧ w.cell? ⟨g, 5, none⟩ = some v5 ∧ w.cell? ⟨g, 6, none⟩ = some v6 ∧ w.cell? ⟨g, 7, none⟩ = some v7 ∧ w.cell? ⟨g, 8, none⟩ = some v8) ∧
    (w.frozen? ⟨g, 0, none⟩ = false ∧ w.frozen? ⟨g, 1, none⟩ = false ∧ w.frozen? ⟨g, 2, none⟩ = false ∧ w.frozen? ⟨g, 3, none⟩ = false ∧ w.frozen? ⟨g, 4, none⟩ = false ∧ w.frozen? ⟨g, 5, none⟩ = false ∧ w.frozen? ⟨g, 6, none⟩ = false ∧ w.frozen? ⟨g, 7, none⟩ = false ∧ w.frozen? ⟨g, 8, none⟩ = false) ∧ g < w.heap.size :=
  ⟨⟨h.cell 0, h.cell 1, h.cell 2, h.cell 3, h.cell 4, h.cell 5, h.cell 6, h.cell 7, h.cell 8⟩, ⟨h.frozen 0, h.frozen 1, h.frozen 2, h.frozen 3, h.frozen 4, h.frozen 5, h.frozen 6, h.frozen 7, h.frozen 8⟩, h.lt⟩
def goodD (d : Int) : Prop := 1 ≤ d ∧ d ≤ 4294967295
def GoodP (m : Nat) (m' fr tz di : Nat) (s : St) : Prop := m' = min m 600 ∧ fr ≤ tz ∧ tz ≤ m' ∧ 1 ≤ di ∧ di ≤ 4096 ∧ s.right
set_option maxHeartbeats 4000000 in
theorem good_any (A : Option Addr) (m c : Nat) (fr tz di : Int) (s : St) (w : World) (hmc : m ≤ c) :
    Calls Tryd.prog 26 #[.agg (pcC A m c fr tz di s)] w fun e w' => ∃ (m' fr' tz' di' : Nat) (s' : St), e = .returned (.agg (pcC A m' c fr' tz' di' s')) ∧ GoodP m m' fr' tz' di' s' ∧ Below w.heap.size w w' := by
  obtain ⟨nu, ra, rb, rc, rd⟩ := s
  unfold pcC
  simp only []
  obtain ⟨B, hB⟩ : ∃ B, w.heap.size = B := ⟨_, rfl⟩
  obtain ⟨w1, hw1⟩ : ∃ w1, (w.alloc (.cells #[.slice A m c, .int .i64 fr, .int .i64 tz, .int .i64 di, .int .i64 nu, .int .i64 ra, .int .i64 rb, .int .i64 rc, .int .i64 rd] 45)).alloc (.cells #[.slice none 0 0, .int .i64 0, .int .i64 0, .int .i64 0, .int .i64 0, .int .i64 0, .int .i64 0, .int .i64 0, .int .i64 0] 45) = w1 := ⟨_, rfl⟩
  have hb1 : Below w.heap.size w w1 := by rw [← hw1]; exact ((Below.refl _ _).alloc (Nat.le_refl _) _).alloc (by simp) _
  have h1 : Blk w1 B 45 #[.slice A m c, .int .i64 fr, .int .i64 tz, .int .i64 di, .int .i64 nu, .int .i64 ra, .int .i64 rb, .int .i64 rc, .int .i64 rd] := by rw [← hw1]; exact (Blk.new_at hB.symm).alloc _
  have h2 : Blk w1 (B + 1) 45 #[.slice none 0 0, .int .i64 0, .int .i64 0, .int .i64 0, .int .i64 0, .int .i64 0, .int .i64 0, .int .i64 0, .int .i64 0] := by rw [← hw1]; exact Blk.new_at (by simp [hB])
  obtain ⟨⟨c0, c1, c2, c3, c4, c5, c6, c7, c8⟩, ⟨f0, f1, f2, f3, f4, f5, f6, f7, f8⟩, fl⟩ := h1.nine
  have H := Lib.hid (And.intro h1 (And.intro h2 hb1))
  have HBe := Lib.hid hB
  have hmc' : (m : Int) ≤ (c : Int) := by omega
  clear hb1 h1 h2
  go_enter Tryd.func26, Tryd.ntmps26
  go_upto_region 0 with (fail)
  go_cut [1, 2] (fun s1 s2 wy => s1 = .pointer (some ⟨B, 0, none⟩) ∧ s2 = .pointer (some ⟨B + 1, 0, none⟩) ∧ wy = w1)
  case first =>
    go_wp2_with fail
    go_meet
    exact ⟨rfl, rfl, rfl⟩
  obtain ⟨rfl, rfl, rfl⟩ := hcut
  clear hw1 hB
  -- the data
  go_step
  go_step
  go_cut [] (fun wy => ∃ m' : Nat, m' = min m 600 ∧ Hid (Blk wy B 45 #[.slice A m' c, .int .i64 fr, .int .i64 tz, .int .i64 di, .int .i64 nu, .int .i64 ra, .int .i64 rb, .int .i64 rc, .int .i64 rd] ∧ Blk wy (B + 1) 45 #[.slice none 0 0, .int .i64 0, .int .i64 0, .int .i64 0, .int .i64 0, .int .i64 0, .int .i64 0, .int .i64 0, .int .i64 0] ∧ Below w.heap.size w wy))
  case first =>
    by_cases hm6 : 600 < m
    · have hm6' : (600 : Int) < (m : Int) := by omega
      have hc6 : (600 : Int) ≤ (c : Int) := by omega
      go_wp2_with fail
      go_meet
      refine ⟨600, by omega, H.out.1.set_ 0 _, H.out.2.1.far (p := ⟨B, 0, none⟩) (by show B + 1 ≠ B; omega) _, H.out.2.2.setCell (p := ⟨B, 0, none⟩) (by have := HBe.out; show w.heap.size ≤ B; omega) _⟩
    · have hm6' : ¬ (600 : Int) < (m : Int) := by omega
      go_wp2_with fail
      go_meet
      exact ⟨m, by omega, H.out⟩
  case rest =>
    obtain ⟨m', hm', H⟩ := hcut
    have HM := Lib.hid hm'
    clear hm'
    clear c0 c1 c2 c3 c4 c5 c6 c7 c8 f0 f1 f2 f3 f4 f5 f6 f7 f8 fl
    obtain ⟨⟨c0, c1, c2, c3, c4, c5, c6, c7, c8⟩, ⟨f0, f1, f2, f3, f4, f5, f6, f7, f8⟩, fl⟩ := H.out.1.nine
    -- the beginning
    go_step
    go_step
    go_cut [] (fun wy => ∃ fr' : Nat, fr' ≤ m' ∧ Hid (Blk wy B 45 #[.slice A m' c, .int .i64 fr', .int .i64 tz, .int .i64 di, .int .i64 nu, .int .i64 ra, .int .i64 rb, .int .i64 rc, .int .i64 rd] ∧ Blk wy (B + 1) 45 #[.slice none 0 0, .int .i64 0, .int .i64 0, .int .i64 0, .int .i64 0, .int .i64 0, .int .i64 0, .int .i64 0, .int .i64 0] ∧ Below w.heap.size w wy))
    case first =>
      rcases (by omega : fr < 0 ∨ (0 ≤ fr ∧ (m' : Int) < fr) ∨ (0 ≤ fr ∧ fr ≤ (m' : Int))) with h1 | ⟨h1, h2⟩ | ⟨h1, h2⟩
      · go_wp2_with fail
        go_meet
        refine ⟨0, Nat.zero_le _, H.out.1.set_ 1 _, H.out.2.1.far (p := ⟨B, 1, none⟩) (by show B + 1 ≠ B; omega) _, H.out.2.2.setCell (p := ⟨B, 1, none⟩) (by have := HBe.out; show w.heap.size ≤ B; omega) _⟩
      · have h1' : ¬ fr < 0 := by omega
        go_wp2_with fail
        go_meet
        refine ⟨0, Nat.zero_le _, H.out.1.set_ 1 _, H.out.2.1.far (p := ⟨B, 1, none⟩) (by show B + 1 ≠ B; omega) _, H.out.2.2.setCell (p := ⟨B, 1, none⟩) (by have := HBe.out; show w.heap.size ≤ B; omega) _⟩
      · have h1' : ¬ fr < 0 := by omega
        have h2' : ¬ (m' : Int) < fr := by omega
        go_wp2_with fail
        go_meet
        obtain ⟨k, rfl⟩ : ∃ k : Nat, fr = (k : Int) := ⟨fr.toNat, by omega⟩
        exact ⟨k, by omega, H.out⟩
    case rest =>
      obtain ⟨fr', hfr, H⟩ := hcut
      clear c0 c1 c2 c3 c4 c5 c6 c7 c8 f0 f1 f2 f3 f4 f5 f6 f7 f8 fl
      obtain ⟨⟨c0, c1, c2, c3, c4, c5, c6, c7, c8⟩, ⟨f0, f1, f2, f3, f4, f5, f6, f7, f8⟩, fl⟩ := H.out.1.nine
      -- the end
      go_step
      go_step
      go_cut [] (fun wy => ∃ tz' : Nat, fr' ≤ tz' ∧ tz' ≤ m' ∧ Hid (Blk wy B 45 #[.slice A m' c, .int .i64 fr', .int .i64 tz', .int .i64 di, .int .i64 nu, .int .i64 ra, .int .i64 rb, .int .i64 rc, .int .i64 rd] ∧ Blk wy (B + 1) 45 #[.slice none 0 0, .int .i64 0, .int .i64 0, .int .i64 0, .int .i64 0, .int .i64 0, .int .i64 0, .int .i64 0, .int .i64 0] ∧ Below w.heap.size w wy))
      case first =>
        rcases (by omega : tz < (fr' : Int) ∨ ((fr' : Int) ≤ tz ∧ (m' : Int) < tz) ∨ ((fr' : Int) ≤ tz ∧ tz ≤ (m' : Int))) with h1 | ⟨h1, h2⟩ | ⟨h1, h2⟩
        · go_wp2_with fail
          go_meet
          refine ⟨m', by omega, Nat.le_refl _, H.out.1.set_ 2 _, H.out.2.1.far (p := ⟨B, 2, none⟩) (by show B + 1 ≠ B; omega) _, H.out.2.2.setCell (p := ⟨B, 2, none⟩) (by have := HBe.out; show w.heap.size ≤ B; omega) _⟩
        · have h1' : ¬ tz < (fr' : Int) := by omega
          go_wp2_with fail
          go_meet
          refine ⟨m', by omega, Nat.le_refl _, H.out.1.set_ 2 _, H.out.2.1.far (p := ⟨B, 2, none⟩) (by show B + 1 ≠ B; omega) _, H.out.2.2.setCell (p := ⟨B, 2, none⟩) (by have := HBe.out; show w.heap.size ≤ B; omega) _⟩
        · have h1' : ¬ tz < (fr' : Int) := by omega
          have h2' : ¬ (m' : Int) < tz := by omega
          go_wp2_with fail
          go_meet
          obtain ⟨k, rfl⟩ : ∃ k : Nat, tz = (k : Int) := ⟨tz.toNat, by omega⟩
          exact ⟨k, by omega, by omega, H.out⟩
      case rest =>
        obtain ⟨tz', hto1, hto2, H⟩ := hcut
        clear c0 c1 c2 c3 c4 c5 c6 c7 c8 f0 f1 f2 f3 f4 f5 f6 f7 f8 fl
        obtain ⟨⟨c0, c1, c2, c3, c4, c5, c6, c7, c8⟩, ⟨f0, f1, f2, f3, f4, f5, f6, f7, f8⟩, fl⟩ := H.out.1.nine
        -- the dictionary
        go_step
        go_step
        go_cut [] (fun wy => ∃ di' : Nat, 1 ≤ di' ∧ di' ≤ 4096 ∧ Hid (Blk wy B 45 #[.slice A m' c, .int .i64 fr', .int .i64 tz', .int .i64 di', .int .i64 nu, .int .i64 ra, .int .i64 rb, .int .i64 rc, .int .i64 rd] ∧ Blk wy (B + 1) 45 #[.slice none 0 0, .int .i64 0, .int .i64 0, .int .i64 0, .int .i64 0, .int .i64 0, .int .i64 0, .int .i64 0, .int .i64 0] ∧ Below w.heap.size w wy))
        case first =>
          rcases (by omega : di < 1 ∨ (1 ≤ di ∧ 4096 < di) ∨ (1 ≤ di ∧ di ≤ 4096)) with h1 | ⟨h1, h2⟩ | ⟨h1, h2⟩
          · go_wp2_with fail
            go_meet
            refine ⟨50, by decide, by decide, H.out.1.set_ 3 _, H.out.2.1.far (p := ⟨B, 3, none⟩) (by show B + 1 ≠ B; omega) _, H.out.2.2.setCell (p := ⟨B, 3, none⟩) (by have := HBe.out; show w.heap.size ≤ B; omega) _⟩
          · have h1' : ¬ di < 1 := by omega
            go_wp2_with fail
            go_meet
            refine ⟨50, by decide, by decide, H.out.1.set_ 3 _, H.out.2.1.far (p := ⟨B, 3, none⟩) (by show B + 1 ≠ B; omega) _, H.out.2.2.setCell (p := ⟨B, 3, none⟩) (by have := HBe.out; show w.heap.size ≤ B; omega) _⟩
          · have h1' : ¬ di < 1 := by omega
            have h2' : ¬ 4096 < di := by omega
            go_wp2_with fail
            go_meet
            obtain ⟨k, rfl⟩ : ∃ k : Nat, di = (k : Int) := ⟨di.toNat, by omega⟩
            exact ⟨k, by omega, by omega, H.out⟩
        case rest =>
          obtain ⟨di', hdi1, hdi2, H⟩ := hcut
          clear c0 c1 c2 c3 c4 c5 c6 c7 c8 f0 f1 f2 f3 f4 f5 f6 f7 f8 fl
          obtain ⟨⟨c0, c1, c2, c3, c4, c5, c6, c7, c8⟩, ⟨f0, f1, f2, f3, f4, f5, f6, f7, f8⟩, fl⟩ := H.out.1.nine
          -- the number
          go_step
          go_step
          go_cut [] (fun wy => ∃ nu' : Int, 0 ≤ nu' ∧ nu' ≤ 11 ∧ Hid (Blk wy B 45 #[.slice A m' c, .int .i64 fr', .int .i64 tz', .int .i64 di', .int .i64 nu', .int .i64 ra, .int .i64 rb, .int .i64 rc, .int .i64 rd] ∧ Blk wy (B + 1) 45 #[.slice none 0 0, .int .i64 0, .int .i64 0, .int .i64 0, .int .i64 0, .int .i64 0, .int .i64 0, .int .i64 0, .int .i64 0] ∧ Below w.heap.size w wy))
          case first =>
            rcases (by omega : nu < 0 ∨ (0 ≤ nu ∧ 11 < nu) ∨ (0 ≤ nu ∧ nu ≤ 11)) with h1 | ⟨h1, h2⟩ | ⟨h1, h2⟩
            · go_wp2_with fail
              go_meet
              refine ⟨0, by decide, by decide, H.out.1.set_ 4 _, H.out.2.1.far (p := ⟨B, 4, none⟩) (by show B + 1 ≠ B; omega) _, H.out.2.2.setCell (p := ⟨B, 4, none⟩) (by have := HBe.out; show w.heap.size ≤ B; omega) _⟩
            · have h1' : ¬ nu < 0 := by omega
              go_wp2_with fail
              go_meet
              refine ⟨0, by decide, by decide, H.out.1.set_ 4 _, H.out.2.1.far (p := ⟨B, 4, none⟩) (by show B + 1 ≠ B; omega) _, H.out.2.2.setCell (p := ⟨B, 4, none⟩) (by have := HBe.out; show w.heap.size ≤ B; omega) _⟩
            · have h1' : ¬ nu < 0 := by omega
              have h2' : ¬ 11 < nu := by omega
              go_wp2_with fail
              go_meet
              exact ⟨nu, h1, h2, H.out⟩
          case rest =>
            obtain ⟨nu', hnu1, hnu2, H⟩ := hcut
            clear c0 c1 c2 c3 c4 c5 c6 c7 c8 f0 f1 f2 f3 f4 f5 f6 f7 f8 fl
            obtain ⟨⟨c0, c1, c2, c3, c4, c5, c6, c7, c8⟩, ⟨f0, f1, f2, f3, f4, f5, f6, f7, f8⟩, fl⟩ := H.out.1.nine
            go_upto_region 12 with (fail)
            obtain ⟨w0, rfl⟩ : ∃ w0, w0 = wc := ⟨_, rfl⟩
            clear c0 c1 c2 c3 c4 c5 c6 c7 c8 f0 f1 f2 f3 f4 f5 f6 f7 f8 fl
            go_loopw [62] (fun s62 wr => ∃ (i : Nat) (a' b' c' d' : Int), s62 = .int .i64 (i : Int) ∧ i ≤ 4 ∧ Hid (Blk wr B 45 #[.slice A m' c, .int .i64 fr', .int .i64 tz', .int .i64 di', .int .i64 nu', .int .i64 a', .int .i64 b', .int .i64 c', .int .i64 d'] ∧ Blk wr (B + 1) 45 #[.slice none 0 0, .int .i64 0, .int .i64 0, .int .i64 0, .int .i64 0, .int .i64 0, .int .i64 0, .int .i64 0, .int .i64 0] ∧ Below w.heap.size w wr ∧ (if 0 < i then goodD a' else a' = ra) ∧ (if 1 < i then goodD b' else b' = rb) ∧ (if 2 < i then goodD c' else c' = rc) ∧ (if 3 < i then goodD d' else d' = rd))) (fun s62 _ => 4 - (intOf s62).toNat)
            case atStart => exact ⟨0, ra, rb, rc, rd, rfl, by omega, H.out.1, H.out.2.1, H.out.2.2, rfl, rfl, rfl, rfl⟩
            case round =>
              clear H
              obtain ⟨i, a', b', c', d', rfl, hi, HJ⟩ := hrel
              by_cases hlt : i < 4
              · have hlt' : (i : Int) < 4 := by omega
                obtain ⟨e, he⟩ : ∃ e, St.rep ⟨0, ra, rb, rc, rd⟩ (i : Int) = e := ⟨_, rfl⟩
                have hdv : (i = 0 ∧ e = ra) ∨ (i = 1 ∧ e = rb) ∨ (i = 2 ∧ e = rc) ∨ (i = 3 ∧ e = rd) := by
                  rcases (by omega : i = 0 ∨ i = 1 ∨ i = 2 ∨ i = 3) with rfl | rfl | rfl | rfl
                  · exact .inl ⟨rfl, he.symm⟩
                  · exact .inr (.inl ⟨rfl, he.symm⟩)
                  · exact .inr (.inr (.inl ⟨rfl, he.symm⟩))
                  · exact .inr (.inr (.inr ⟨rfl, he.symm⟩))
                clear he
                have hix : ∀ (u : World), (Instr.index 35 (.agg #[.int .i64 ra, .int .i64 rb, .int .i64 rc, .int .i64 rd]) (.int .i64 (i : Int))).run Tryd.prog u = .ok (.int .i64 e) u := fun u => by
                  rcases hdv with ⟨rfl, rfl⟩ | ⟨rfl, rfl⟩ | ⟨rfl, rfl⟩ | ⟨rfl, rfl⟩ <;> kernel_rfl
                have hc5 : ∃ v, wr.cell? ⟨B, 5 + i, none⟩ = some v := by
                  rw [HJ.out.1.cell]
                  rcases (by omega : i = 0 ∨ i = 1 ∨ i = 2 ∨ i = 3) with rfl | rfl | rfl | rfl
                  · exact ⟨_, rfl⟩
                  · exact ⟨_, rfl⟩
                  · exact ⟨_, rfl⟩
                  · exact ⟨_, rfl⟩
                obtain ⟨v5, c5⟩ := hc5
                have f5 := HJ.out.1.frozen (5 + i)
                have fl := HJ.out.1.lt
                have Hdv := Lib.hid hdv
                clear hdv
                have hset : ∀ u : Int, goodD u → ∃ a2 b2 c2 d2 : Int, Blk (wr.setCell ⟨B, 5 + i, none⟩ (.int .i64 u)) B 45 #[.slice A m' c, .int .i64 fr', .int .i64 tz', .int .i64 di', .int .i64 nu', .int .i64 a2, .int .i64 b2, .int .i64 c2, .int .i64 d2] ∧ (if 0 < i + 1 then goodD a2 else a2 = ra) ∧ (if 1 < i + 1 then goodD b2 else b2 = rb) ∧ (if 2 < i + 1 then goodD c2 else c2 = rc) ∧ (if 3 < i + 1 then goodD d2 else d2 = rd) := fun u hu => by
                  have hs := HJ.out.1.set_ (5 + i) (.int .i64 u)
                  obtain ⟨_, _, _, q0, q1, q2, q3⟩ := HJ.out
                  rcases (by omega : i = 0 ∨ i = 1 ∨ i = 2 ∨ i = 3) with rfl | rfl | rfl | rfl
                  · exact ⟨u, b', c', d', hs, hu, q1, q2, q3⟩
                  · exact ⟨a', u, c', d', hs, q0, hu, q2, q3⟩
                  · exact ⟨a', b', u, d', hs, q0, q1, hu, q3⟩
                  · exact ⟨a', b', c', u, hs, q0, q1, q2, hu⟩
                have Hset := Lib.hid hset
                clear hset
                by_cases hg : 1 ≤ e ∧ e ≤ 4294967295
                · have g1 : ¬ e < 1 := by omega
                  have g2 : ¬ 4294967295 < e := by omega
                  have hg' : goodD e := hg
                  have Hg := Lib.hid hg'
                  clear hg hg'
                  go_wp2_with fail
                  go_roundw
                  case rel =>
                    refine ⟨i + 1, a', b', c', d', by go_num, by omega, HJ.out.1, HJ.out.2.1, HJ.out.2.2.1, ?_⟩
                    obtain ⟨_, _, _, q0, q1, q2, q3⟩ := HJ.out
                    have hgd := Hg.out
                    rcases Hdv.out with ⟨rfl, rfl⟩ | ⟨rfl, rfl⟩ | ⟨rfl, rfl⟩ | ⟨rfl, rfl⟩
                    · exact ⟨by rw [if_pos (by decide)]; rw [if_neg (by decide)] at q0; rw [q0]; exact hgd, q1, q2, q3⟩
                    · exact ⟨q0, by rw [if_pos (by decide)]; rw [if_neg (by decide)] at q1; rw [q1]; exact hgd, q2, q3⟩
                    · exact ⟨q0, q1, by rw [if_pos (by decide)]; rw [if_neg (by decide)] at q2; rw [q2]; exact hgd, q3⟩
                    · exact ⟨q0, q1, q2, by rw [if_pos (by decide)]; rw [if_neg (by decide)] at q3; rw [q3]; exact hgd⟩
                  case measure => simp [intOf]; omega
                · have hrel2 : ∀ W, W = wr.setCell ⟨B, 5 + i, none⟩ (.int .i64 1) → ∃ a2 b2 c2 d2 : Int, (Blk W B 45 #[.slice A m' c, .int .i64 fr', .int .i64 tz', .int .i64 di', .int .i64 nu', .int .i64 a2, .int .i64 b2, .int .i64 c2, .int .i64 d2] ∧ Blk W (B + 1) 45 #[.slice none 0 0, .int .i64 0, .int .i64 0, .int .i64 0, .int .i64 0, .int .i64 0, .int .i64 0, .int .i64 0, .int .i64 0] ∧ Below w.heap.size w W ∧ (if 0 < i + 1 then goodD a2 else a2 = ra) ∧ (if 1 < i + 1 then goodD b2 else b2 = rb) ∧ (if 2 < i + 1 then goodD c2 else c2 = rc) ∧ (if 3 < i + 1 then goodD d2 else d2 = rd)) := fun W hW => by
                    obtain ⟨a2, b2, c2, d2, h1, h2⟩ := Hset.out 1 ⟨by decide, by decide⟩
                    subst hW
                    exact ⟨a2, b2, c2, d2, h1, HJ.out.2.1.far (p := ⟨B, 5 + i, none⟩) (by show B + 1 ≠ B; omega) _, HJ.out.2.2.1.setCell (p := ⟨B, 5 + i, none⟩) (by have := HBe.out; show w.heap.size ≤ B; omega) _, h2⟩
                  have Hr := Lib.hid hrel2
                  clear hrel2
                  by_cases g1 : e < 1
                  · go_wp2_with fail
                    go_roundw
                    case rel =>
                      obtain ⟨a2, b2, c2, d2, h⟩ := Hr.out _ rfl
                      exact ⟨i + 1, a2, b2, c2, d2, by go_num, by omega, h⟩
                    case measure => simp [intOf]; omega
                  · have g2 : 4294967295 < e := by omega
                    go_wp2_with fail
                    go_roundw
                    case rel =>
                      obtain ⟨a2, b2, c2, d2, h⟩ := Hr.out _ rfl
                      exact ⟨i + 1, a2, b2, c2, d2, by go_num, by omega, h⟩
                    case measure => simp [intOf]; omega
              · obtain rfl : i = 4 := by omega
                have hge : ¬ ((4 : Nat) : Int) < 4 := by omega
                obtain ⟨p1, p2, p3, q0, q1, q2, q3⟩ := HJ.out
                rw [if_pos (by decide)] at q0 q1 q2 q3
                obtain ⟨⟨c0, c1, c2, c3, c4, c5, c6, c7, c8⟩, _, _⟩ := p1.nine
                obtain ⟨⟨z0, z1, z2, z3, z4, z5, z6, z7, z8⟩, ⟨f0, f1, f2, f3, f4, f5, f6, f7, f8⟩, fl⟩ := p2.nine
                have HF := Lib.hid (And.intro p3 (And.intro q0 (And.intro q1 (And.intro q2 q3))))
                clear p1 p2 p3 q0 q1 q2 q3 HJ
                go_wp2_with fail
                obtain ⟨p3, q0, q1, q2, q3⟩ := HF.out
                have hle : w.heap.size ≤ B + 1 := by have := HBe.out; omega
                refine bodyPost_ret (v := .agg #[.slice A m' c, .int .i64 fr', .int .i64 tz', .int .i64 di', .int .i64 nu', .int .i64 a', .int .i64 b', .int .i64 c', .int .i64 d']) (by simp [results, Tryd.results26, go_sem, *]) rfl ⟨m', fr', tz', di', ⟨nu', a', b', c', d'⟩, rfl, ⟨HM.out, hto1, hto2, hdi1, hdi2, ⟨q0, q1, q2, q3, hnu1, by show nu' < 12; omega⟩⟩, ?_⟩
                exact ((((((((p3.setCell (p := ⟨B + 1, 0, none⟩) hle _).setCell (p := ⟨B + 1, 1, none⟩) hle _).setCell (p := ⟨B + 1, 2, none⟩) hle _).setCell (p := ⟨B + 1, 3, none⟩) hle _).setCell (p := ⟨B + 1, 4, none⟩) hle _).setCell (p := ⟨B + 1, 5, none⟩) hle _).setCell (p := ⟨B + 1, 6, none⟩) hle _).setCell (p := ⟨B + 1, 7, none⟩) hle _).setCell (p := ⟨B + 1, 8, none⟩) hle _
def k20 : Array Value := #[.int .u8 97, .int .u8 97, .int .u8 97, .int .u8 97, .int .u8 97, .int .u8 97, .int .u8 97, .int .u8 97, .int .u8 97, .int .u8 97, .int .u8 97, .int .u8 97, .int .u8 97, .int .u8 97, .int .u8 97, .int .u8 97, .int .u8 97, .int .u8 97, .int .u8 97, .int .u8 97]
theorem k20in (w : World) : In (w.alloc (.cells k20 5 (20, 21))) (some ⟨w.heap.size, 0, none⟩) 20 (List.replicate 20 97) := by
  have hh : (w.alloc (.cells k20 5 (20, 21))).heap[w.heap.size]? = some (.cells k20 5 (20, 21)) := heap_alloc_new w _
  refine ⟨⟨rfl, fun _ => ⟨_, rfl, fun j u hu => ?_⟩⟩, fun _ ad had => ?_, by omega⟩
  · have h1 := cell_of_row _ w.heap.size j k20 5 (20, 21) hh
    have h2 : (⟨w.heap.size, 0, none⟩ : Addr).add j = ⟨w.heap.size, j, none⟩ := by
      unfold Addr.add
      split
      · rename_i h; rw [h]
      · simp
    rw [h2, h1]
    have h3 : k20.toList = bys (List.replicate 20 97) := rfl
    rw [← h3] at hu
    simpa using hu
  · cases had
    simp
theorem k20n : (greedyGo (List.replicate 20 97) 20 4096 (20 - 0) 0 St.start).2.n = 8 := by decide +kernel
theorem k20l : (greedyGo (List.replicate 20 97) 20 4096 (20 - 0) 0 St.start).1 = [⟨1, 97, 0, 0⟩, ⟨3, 0, 19, 0⟩] := by rw [greedy_equal 20 97 (by decide)]; rfl
set_option maxHeartbeats 4000000 in
theorem known16_any (w : World) (hl : Laid w) : Calls Tryd.prog 27 #[] w fun e w' => e = .returned (.bool true) ∧ Below w.heap.size w w' := by
  have hcv := Lib.run_convert_bytes_const (P := Tryd.prog) w 34 5 k20 20 20 Tryd.underlying34 Tryd.underlying5
  have hbk : Below w.heap.size w (w.alloc (.cells k20 5 (20, 21))) := (Below.refl _ _).alloc (Nat.le_refl _) _
  obtain ⟨w0, hw0⟩ : ∃ w0, w.alloc (.cells k20 5 (20, 21)) = w0 := ⟨_, rfl⟩
  have hin := k20in w
  rw [hw0] at hbk hin
  have HG : Hid (∀ W, Below w0.heap.size w0 W → Calls Tryd.prog 13 #[.slice (some ⟨w.heap.size, 0, none⟩) 20 20, .int .i64 0, .int .i64 20, .int .i64 4096, stV 0 1 1 1 1] W fun e w' => ∃ (A : Option Addr) (c : Nat) (a b c' d : Int), e = .returned (.tuple #[.slice A 2 c, .agg #[.int .i64 8, .int .i64 a, .int .i64 b, .int .i64 c', .int .i64 d], .int .i64 0]) ∧ InS w' A 2 [⟨1, 97, 0, 0⟩, ⟨3, 0, 19, 0⟩] ∧ Below W.heap.size W w') := fun W hW => by
    have := Greedy_ok (some ⟨w.heap.size, 0, none⟩) 20 20 (List.replicate 20 97) 0 20 4096 St.start W (hin.below hW) (fun h => by omega) (Nat.le_refl _) (by decide) (by decide) (Nat.le_refl _) (by decide) start_right (hl.below (bup hbk hW))
    rw [k20l] at this
    have hn := k20n
    obtain ⟨S, hS⟩ : ∃ S, (greedyGo (List.replicate 20 97) 20 4096 (20 - 0) 0 St.start).2 = S := ⟨_, rfl⟩
    rw [hS] at this hn
    obtain ⟨n, a, b, c', d⟩ := S
    simp only [] at hn
    subst hn
    refine this.mono ?_
    rintro e w' ⟨A, c, rfl, h1, h2⟩
    exact ⟨A, c, a, b, c', d, rfl, InS.of_own h1 (by decide), h2⟩
  have Hbk := Lib.hid hbk
  unfold k20 at hcv hw0
  simp only [List.size_toArray, List.length_cons, List.length_nil, Nat.reduceAdd] at hcv
  rw [hw0] at hcv
  clear hbk hin
  go_enter Tryd.func27, Tryd.ntmps27
  go_wp2_with fail
  refine (New_any w0).mono ?_
  rintro e w1 ⟨rfl, hb1⟩
  have Hb1 := Lib.hid hb1
  clear hb1 hw0 hcv
  go_wp2_with fail
  refine (HG.out w1 Hb1.out).mono ?_
  rintro e w2 ⟨A, c, a, b, c', d, rfl, hI2, hb2⟩
  have H2 := Lib.hid (And.intro hI2 (bup (bup Hbk.out Hb1.out) hb2))
  clear hI2 hb2 HG
  go_upto_region 2 with (fail)
  obtain ⟨w3, hw3⟩ : ∃ w3, w2.alloc (.cells #[.int .i64 8, .int .i64 a, .int .i64 b, .int .i64 c', .int .i64 d] 37) = w3 := ⟨_, rfl⟩
  obtain ⟨S, hS⟩ : ∃ S, w2.heap.size = S := ⟨_, rfl⟩
  have hb3 : Below w2.heap.size w2 w3 := by rw [← hw3]; exact (Below.refl _ _).alloc (Nat.le_refl _) _
  have hS3 : Blk w3 S 37 #[.int .i64 8, .int .i64 a, .int .i64 b, .int .i64 c', .int .i64 d] := by rw [← hw3]; exact Blk.new_at hS.symm
  have H3 := Lib.hid (And.intro (H2.out.1.below hb3) (And.intro (bup H2.out.2 hb3) hS3))
  simp only [hw3, hS]
  clear hw3 hS hb3 hS3 H2
  have HSa : Hid (∀ W, W = w3.alloc (.cells #[.int .i64 1, .int .u8 97, .int .i64 0, .int .i64 0, .int .i64 3, .int .u8 0, .int .i64 19, .int .i64 0] 24) → Calls Tryd.prog 10 #[.slice A 2 c, .slice (some ⟨w3.heap.size, 0, none⟩) 2 2] W fun e w' => e = .returned (.bool true) ∧ Below W.heap.size W w') := fun W hW => by
    have hbW : Below w3.heap.size w3 W := by rw [hW]; exact (Below.refl _ _).alloc (Nat.le_refl _) _
    refine same_any A (some ⟨w3.heap.size, 0, none⟩) 2 c 2 [⟨1, 97, 0, 0⟩, ⟨3, 0, 19, 0⟩] W (H3.out.1.below hbW) ?_
    subst hW
    exact ⟨Rd.of_blk (Blk.new _ _ _) rfl rfl, fun _ ad had => by cases had; exact ⟨by simp, rfl⟩, by decide⟩
  go_wp2_with (go_at_call 10; refine (HSa.out _ rfl).mono ?_; rintro e w4 ⟨rfl, hb4⟩; have hb34 : Below w3.heap.size w3 w4 := bup ((Below.refl _ _).alloc (Nat.le_refl _) _) hb4; have s0 : w4.cell? ⟨S, 0, none⟩ = some (.int .i64 8) := (H3.out.2.2.below hb34).cell 0)
  go_ret
  exact ⟨rfl, bup H3.out.2.1 hb34⟩
end Go.Proofs.YthlflcnpmabmbaaDoor
