
/-
  Walk of Put: more bytes. Conditions: the window as Win says; the bytes lie in other blocks than the window's; so many bytes in all that they can be counted.
-/
import Derived.Test.YtcfaocbdhfmhbaaWin
import Derived.Test.YtcfaocbdhfmhbaaCopy
import Derived.Outline
set_option pp.deepTerms false
set_option pp.maxSteps 1500
namespace Go.Proofs.Ytcfaocbdhfmhbaa
open Go.RowKit

theorem infou8 : (Try.prog.info? 5).map (fun i => (i.zero, i.size, i.bytes)) = some (some (.int .u8 0), 1, 1) := by kernel_rfl

/-- bytes that are handed in: they lie in w, in a block that is none of the window's -/
def Src (w : World) (b : Nat) (r : Option Nat) (A : Option Addr) (m c : Nat) (ys : List UInt8) : Prop :=
  Rd w 1 A m (bys ys) ∧ m ≤ c ∧ ∀ ad, A = some ad → ad.block < w.heap.size ∧ ad.block ≠ b ∧ r ≠ some ad.block
theorem Src.len {w : World} {b m c : Nat} {r : Option Nat} {A : Option Addr} {ys : List UInt8} (h : Src w b r A m c ys) : ys.length = m := by
  have := h.1.1; rw [bys_length] at this; omega
theorem Src.cut {w : World} {b m c k : Nat} {r : Option Nat} {A : Option Addr} {ys : List UInt8} (h : Src w b r A m c ys) (hk : k ≤ m) :
    Src w b r (if c = k then A else A.map (·.add (k * 1))) (m - k) (c - k) (ys.drop k) := by
  refine ⟨?_, by have := h.2.1; omega, fun ad had => ?_⟩
  · have := h.1.cut hk h.2.1
    rw [Nat.mul_one, bys_drop] at this
    rw [Nat.mul_one]
    exact this
  · split at had
    · exact h.2.2 ad had
    · cases A with
      | none => cases had
      | some a =>
        simp only [Option.map_some, Option.some.injEq] at had
        subst had
        rw [block_add]
        exact h.2.2 a rfl
theorem Src.take {w : World} {b m c k : Nat} {r : Option Nat} {A : Option Addr} {ys : List UInt8} (h : Src w b r A m c ys) (hk : k ≤ m) : Src w b r A k c (ys.take k) := by
  refine ⟨?_, by have := h.2.1; omega, h.2.2⟩
  have := h.1.take hk
  rw [Nat.mul_one, bys_take] at this
  exact this
/-- the window in the midst of Put -/
def Mid (w wx : World) (B b : Nat) (r : Option Nat) (size pos : Nat) (L xs : List UInt8) (i : Nat) (v : Value) : Prop :=
  Blk wx b 59 #[.int .i64 (size : Int), v, .int .i64 (i : Int), .int .i64 (pos : Int)] ∧ wx.ownsRow B 5 1 v xs.length (bys xs) ∧ Ring size L xs i ∧
    Fr (fun k => k = b ∨ some k = r) w wx ∧ (∀ g, v.ownBlock = some g → r = some g ∨ w.heap.size ≤ g)
theorem Src.past {w wx : World} {B b m c size pos i : Nat} {r : Option Nat} {A : Option Addr} {ys L xs : List UInt8} {v : Value} (h : Src w b r A m c ys) (hm : Mid w wx B b r size pos L xs i v) : Rd wx 1 A m (bys ys) :=
  h.1.keep fun ad had => hm.2.2.2.1.block _ (h.2.2 ad had).1 (by
    rintro (e | e)
    · exact (h.2.2 ad had).2.1 e
    · exact (h.2.2 ad had).2.2 e.symm)

def lenV : Value → Nat
  | .slice _ n _ => n
  | _ => 0
def PutPost (B b size : Nat) (r : Option Nat) (all : List UInt8) (w : World) (e : Ending) (w' : World) : Prop :=
  e = .returned (.tuple #[]) ∧ ∃ r', Win w' B b r' size all ∧ Fr (fun k => k = b ∨ some k = r) w w' ∧ (∀ g, r' = some g → r = some g ∨ w.heap.size ≤ g)

set_option maxHeartbeats 4000000 in
set_option maxRecDepth 100000 in
theorem Put_any (B b size : Nat) (r : Option Nat) (all : List UInt8) (A : Option Addr) (m c : Nat) (ys : List UInt8) (w : World) (h : Win w B b r size all) (hsrc : Src w b r A m c ys) (hlen : all.length + m < 4611686018427387904) :
    Calls Try.prog 13 #[.pointer (some ⟨b, 0, none⟩), .slice A m c] w (PutPost B b size r (all ++ ys) w) := by
  obtain ⟨v, xs, i, hb, hown, hv, hr, hs1, hs2, hBb⟩ := h
  obtain ⟨c0, c1, c2, c3⟩ := hb.four
  have blt := hb.lt
  have f3 := hb.frozen 3
  have hmc := hsrc.2.1
  have hml := hsrc.len
  have hxs := hr.1
  obtain ⟨i0, hi0, hz0, hz1, hz2⟩ := info_parts infou8
  obtain ⟨va, vc, rfl⟩ := own_slice hown
  have hMid : Hid (Mid w (w.setCell ⟨b, 3, none⟩ (.int .i64 ((all.length : Int) + (m : Int)))) B b r size (all.length + m) (lastN size all) xs i (.slice va xs.length vc)) :=
    ⟨by have := hb.set_ 3 (.int .i64 ((all.length : Int) + (m : Int))); exact this, own_far hown (own_ne hown hb (by decide)) _, hr, Fr.setCell (Fr.refl _ _) (.inl (.inl rfl)) _, fun g hg => .inl (hv ▸ hg)⟩
  go_enter Try.func13, Try.ntmps13
  go_upto_if 21 with (fail)
  go_cut [1] (fun s1 wx => ∃ (A' : Option Addr) (m' c' : Nat) (ys' : List UInt8), s1 = .slice A' m' c' ∧ Src w b r A' m' c' ys' ∧ m' ≤ size ∧ Hid (lastN size (lastN size all ++ ys') = lastN size (all ++ ys)) ∧
    Hid (Mid w wx B b r size (all.length + m) (lastN size all) xs i (.slice va xs.length vc)))
  case first =>
    by_cases hbig : size < m
    · have x1 : (m : Int) - (size : Int) = ((m - size : Nat) : Int) := by omega
      have x2 : ((m - size : Nat) : Int) ≤ (m : Int) := by omega
      have x3 : m - (m - size) = size := by omega
      have x4 : c - (m - size) = c - (m - size) := rfl
      go_wp2_with fail
      go_meet
      have h1 := hsrc.cut (k := m - size) (by omega)
      rw [if_neg (by omega), Nat.mul_one, x3] at h1
      refine ⟨_, size, _, _, rfl, h1, Nat.le_refl _, ?_, hMid⟩
      have h2 : m - size = ys.length - size := by omega
      show lastN size (lastN size all ++ ys.drop (m - size)) = _
      rw [lastN_lastN, h2, lastN_cut all ys (by omega)]
      have h3 := lastN_cut (n := size) all ys (by omega)
      have h4 : (ys.drop (ys.length - size)).length = size := by rw [List.length_drop]; omega
      unfold lastN
      rw [List.drop_append, List.drop_eq_nil_of_le (by rw [List.length_append]; omega), List.nil_append, List.length_append, h4]
      rw [show all.length + size - size - all.length = 0 from by omega]
      rfl
    · have hd : decide (size < m) = false := decide_eq_false hbig
      go_wp2_with fail
      go_meet
      exact ⟨A, m, c, ys, rfl, hsrc, by omega, lastN_lastN _ _ _, hMid⟩
  case rest =>
    clear c0 c1 c2 c3 f3
    obtain ⟨A', m', c', ys', rfl, hsrc', hms, heq, hmid⟩ := hcut
    obtain ⟨d0, d1, d2, d3⟩ := hmid.out.1.four
    have hml' := hsrc'.len
    go_upto_region 3 with (fail)
    go_quiet (fail)
    obtain ⟨wd, hwd⟩ : ∃ wd, wc.drewN nq = wd := ⟨_, rfl⟩
    rw [hwd]
    have hmid2 : Hid (Mid w wd B b r size (all.length + m) (lastN size all) xs i (.slice va xs.length vc)) := hwd ▸ (⟨hmid.out.1.drewN nq, hmid.out.2.1, hmid.out.2.2.1, hmid.out.2.2.2.1.drewN nq, hmid.out.2.2.2.2⟩ : Mid _ _ _ _ _ _ _ _ _ _ _)
    obtain ⟨e0, e1, e2, e3⟩ := hmid2.out.1.four
    clear hwd d0 d1 d2 d3 hmid hMid
    go_upto_if 45 with (fail)
    obtain ⟨q, hq⟩ : ∃ q : Nat, (if (size : Int) - (xs.length : Int) < (m' : Int) then (size : Int) - (xs.length : Int) else (m' : Int)) = (q : Int) := ⟨min m' (size - xs.length), by split <;> omega⟩
    have hqm : q ≤ m' := by split at hq <;> omega
    have hqs : xs.length + q ≤ size := by split at hq <;> omega
    have hqf : 0 < m' - q → xs.length + q = size := by split at hq <;> omega
    rw [hq]
    have Hqf := Lib.hid hqf
    clear hq hqf
    go_cut [1] (fun s1 wx => ∃ (A2 : Option Addr) (m2 c2 : Nat) (zs L2 xs2 : List UInt8) (i2 : Nat) (v2 : Value), s1 = .slice A2 m2 c2 ∧ Src w b r A2 m2 c2 zs ∧ Hid (0 < m2 → xs2.length = size) ∧
      Hid (lastN size (L2 ++ zs) = lastN size (all ++ ys)) ∧ Hid (Mid w wx B b r size (all.length + m) L2 xs2 i2 v2))
    case first =>
      by_cases hq0 : 0 < q
      · have hq0' : (0 : Int) < (q : Int) := by omega
        have y1 : (q : Int) ≤ (c' : Int) := by have := hsrc'.2.1; omega
        have y2 : (q : Int) ≤ (m' : Int) := by omega
        have y3 := hsrc'.2.1
        have blt2 := hmid2.out.1.lt
        have hsep : some b ≠ (Value.slice va xs.length vc).ownBlock := own_ne hmid2.out.2.1 hmid2.out.1 (by decide)
        have hBd : B ≤ wd.drew.heap.size := by have := hmid2.out.2.2.2.1.size; show B ≤ wd.heap.size; omega
        have hrd0 := (hsrc'.take hqm).past hmid2.out
        have hrd : Rd wd.drew 1 A' q (bys (ys'.take q)) := hrd0
        have hod : wd.drew.ownsRow B 5 1 (.slice va xs.length vc) xs.length (bys xs) := hmid2.out.2.1
        go_upto_region 5 with (fail)
        go_region_law (
          (refine step_append_rd (w := wd.drew) rfl (.tmp 50) (.tmp 53) 22 rfl B 5 i0 _ 1 1 Try.underlying22 hi0 hz0 hz1 hz2 rfl (by decide) (.slice va xs.length vc) xs.length (bys xs) (by simp [Act.eval]) hod A' q c' (bys (ys'.take q)) (by simp [Act.eval]) hrd (bys_one _) (by simp only [maxLen]; omega) (by omega) hBd ?_
           intro a1 c1 w1 hown1 hg1 hat1
           have hb1 : Blk w1 b 59 _ := hmid2.out.1.drew.same (hg1.block b blt2 hsep)
           obtain ⟨f0, f1, f2, f3⟩ := hb1.four
           have z1 := hb1.frozen 1
           have z2 := hb1.frozen 2))
        all_goals
          go_wp2_with fail
        all_goals go_meet
        all_goals
          have hMid2 : Hid (Mid w ((w1.setCell ⟨b, 1, none⟩ (.slice a1 (xs.length + q) c1)).setCell ⟨b, 2, none⟩ (.int .i64 ((xs.length : Int) + (q : Int)))) B b r size (all.length + m) (lastN size all ++ ys'.take q) (xs ++ ys'.take q) (xs.length + q) (.slice a1 (xs.length + q) c1)) := by
            have hq1 : (ys'.take q).length = q := by rw [List.length_take]; omega
            refine ⟨?_, ?_, ?_, ?_, ?_⟩
            · have := (hb1.set_ 1 (.slice a1 (xs.length + q) c1)).set_ 2 (.int .i64 ((xs.length : Int) + (q : Int)))
              rw [show ((xs.length + q : Nat) : Int) = (xs.length : Int) + (q : Int) from by omega]
              exact this
            · rw [List.length_append, hq1, bys_append]
              exact own_far (own_far hown1 (own_ne hown1 hb1 (by decide)) _) (own_ne hown1 hb1 (by decide)) _
            · have := hmid2.out.2.2.1.grow (ys := ys'.take q) (by omega) (by omega)
              rw [List.length_append, hq1] at this
              exact this
            · refine Fr.setCell (Fr.setCell ((hmid2.out.2.2.2.1.drew).grown hg1 ?_) (.inl (.inl rfl)) _) (.inl (.inl rfl)) _
              intro g hg
              exact (hmid2.out.2.2.2.2 g hg).imp (fun h => Or.inr h.symm) id
            · intro g hg
              rcases hat1 with h | h
              · exact hmid2.out.2.2.2.2 g (h ▸ hg)
              · rw [h] at hg
                cases hg
                exact .inr hmid2.out.2.2.2.1.size
          have hSrc2 := hsrc'.cut hqm
          have hEq2 : Hid (lastN size ((lastN size all ++ ys'.take q) ++ ys'.drop q) = lastN size (all ++ ys)) := by
            show _ = _
            rw [List.append_assoc, List.take_append_drop]; exact heq.out
          have hfull2 : Hid (0 < m' - q → (xs ++ ys'.take q).length = size) := by
            have h1 := Hqf.out
            have hq1 : (ys'.take q).length = q := by rw [List.length_take]; omega
            intro h; rw [List.length_append, hq1]; exact h1 h
        · have hcq : c' = q := by assumption
          rw [if_pos hcq, hcq, Nat.sub_self] at hSrc2
          exact ⟨_, _, _, _, _, _, _, _, rfl, hSrc2, hfull2, hEq2, hMid2⟩
        · have hcq : ¬ c' = q := by assumption
          rw [if_neg hcq, Nat.mul_one] at hSrc2
          exact ⟨_, _, _, _, _, _, _, _, rfl, hSrc2, hfull2, hEq2, hMid2⟩
      · have hq0' : decide (0 < q) = false := decide_eq_false hq0
        go_wp2_with fail
        go_meet
        refine ⟨A', m', c', ys', _, xs, i, _, rfl, hsrc', ?_, heq, hmid2⟩
        have := Hqf.out
        exact fun h => by have := this (by omega); omega
    case rest =>
      clear e0 e1 e2 e3 hmid2
      obtain ⟨A2, m2, c2, zs, L2, xs2, i2, v2, rfl, hsrc2, hfull, heq2, hmid⟩ := hcut
      obtain ⟨wo, hwo⟩ : ∃ wo : World, wo = wc := ⟨_, rfl⟩
      go_wp2_with fail
      go_loopw [1] (fun s1 wr => ∃ (A2 : Option Addr) (m2 c2 : Nat) (zs L2 xs2 : List UInt8) (i2 : Nat) (v2 : Value), s1 = .slice A2 m2 c2 ∧ Src w b r A2 m2 c2 zs ∧ Hid (0 < m2 → xs2.length = size) ∧
        Hid (lastN size (L2 ++ zs) = lastN size (all ++ ys)) ∧ Hid (Mid w wr B b r size (all.length + m) L2 xs2 i2 v2)) (fun s1 _ => lenV s1)
      case atStart => exact ⟨_, _, _, _, _, _, _, _, rfl, hsrc2, hfull, heq2, hmid⟩
      case round =>
        clear hsrc2 hfull heq2 hmid hwo
        obtain ⟨A3, m3, c3, zs, L3, xs3, i3, v3, rfl, hsrc3, hfull, heq3, hmid⟩ := hrel
        by_cases h0 : 0 < m3
        · have h0' : (0 : Int) < (m3 : Int) := by omega
          have hfl := hfull.out h0
          obtain ⟨g, cap, rfl, hBg, hgl⟩ := hmid.out.2.1.form (by omega)
          obtain ⟨d0, d1, d2, d3⟩ := hmid.out.1.four
          have hcap := own_cap hmid.out.2.1
          have blt3 := hmid.out.1.lt
          have hi3 := hmid.out.2.2.1.2.1
          have Hfl := Lib.hid hfl
          have hfl1 : xs3.length ≤ size := by omega
          have hfl2 : size ≤ xs3.length := by omega
          clear hfl
          go_wp2_with fail
          go_quiet (fail)
          obtain ⟨wd, hwd⟩ : ∃ wd, wr.drewN nq = wd := ⟨_, rfl⟩
          rw [hwd]
          have hmid2 : Hid (Mid w wd B b r size (all.length + m) L3 xs3 i3 (.slice (some ⟨g, 0, none⟩) xs3.length cap)) := hwd ▸ (⟨hmid.out.1.drewN nq, hmid.out.2.1, hmid.out.2.2.1, hmid.out.2.2.2.1.drewN nq, hmid.out.2.2.2.2⟩ : Mid _ _ _ _ _ _ _ _ _ _ _)
          clear hwd d0 d1 d2 d3 hmid
          obtain ⟨d0, d1, d2, d3⟩ := hmid2.out.1.four
          have f2 := hmid2.out.1.frozen 2
          go_upto_if 79 with (fail)
          go_cut [] (fun wx => ∃ i4 : Nat, i4 < size ∧ Hid (Mid w wx B b r size (all.length + m) L3 xs3 i4 (.slice (some ⟨g, 0, none⟩) xs3.length cap)))
          case first =>
            by_cases hi : i3 = size
            · have hd : ((i3 : Int) == (size : Int)) = true := beq_iff_eq.2 (by omega)
              have hmid3 : Mid w (wd.setCell ⟨b, 2, none⟩ (.int .i64 0)) B b r size (all.length + m) L3 xs3 0 (.slice (some ⟨g, 0, none⟩) xs3.length cap) := by
                refine ⟨?_, ?_, ?_, ?_, ?_⟩
                · have := hmid2.out.1.set_ 2 (.int .i64 0)
                  exact this
                · exact own_far hmid2.out.2.1 (own_ne hmid2.out.2.1 hmid2.out.1 (by decide)) _
                · have := hmid2.out.2.2.1
                  rw [hi] at this
                  exact this.wrap Hfl.out
                · exact Fr.setCell hmid2.out.2.2.2.1 (.inl (.inl rfl)) _
                · exact hmid2.out.2.2.2.2
              have Hmid3 := Lib.hid hmid3
              clear hi hmid3
              go_wp2_with fail
              go_meet
              exact ⟨0, by omega, Hmid3⟩
            · have hd : ((i3 : Int) == (size : Int)) = false := beq_eq_false_iff_ne.2 (by omega)
              have hi4 : i3 < size := by omega
              clear hi
              go_wp2_with fail
              go_meet
              exact ⟨i3, hi4, hmid2⟩
          case rest =>
            clear d0 d1 d2 d3 f2 hmid2
            obtain ⟨i4, hi4, hmid4⟩ := hcut
            obtain ⟨d0, d1, d2, d3⟩ := hmid4.out.1.four
            obtain ⟨k, hk⟩ : ∃ k, k = min m3 (xs3.length - i4) := ⟨_, rfl⟩
            have hk0 : 0 < k := by omega
            have hkm : k ≤ m3 := by omega
            have hks : i4 + k ≤ size := by omega
            have hoff : i4 + (xs3.length - i4) = xs3.length := by omega
            have hix : i4 ≤ xs3.length := by omega
            have hix' : (i4 : Int) ≤ (xs3.length : Int) := by omega
            have hic : ¬ cap = i4 := by omega
            have hrd := hsrc3.past hmid4.out
            have hod := hmid4.out.2.1
            have blt4 := hmid4.out.1.lt
            have hgb : some b ≠ some g := own_ne hod hmid4.out.1 (by decide)
            have Hk := Lib.hid hk
            have Hrd := Lib.hid hrd
            have Hod := Lib.hid hod
            clear hk hrd hod
            go_wp2_with fail
            go_region_law (
              (refine step_copy_rd (w := wc.drew) rfl (.tmp 91) (.tmp 92) 22 rfl 5 Try.underlying22 (by kernel_rfl) B g i4 (xs3.length - i4) (cap - i4) xs3.length cap (by simp [Act.eval, Act.put]) (bys xs3) Hod.out hoff A3 m3 c3 (by simp [Act.eval, Act.put]) (bys zs) Hrd.out (bys_one _) k Hk.out ?_
               intro w1 hown1 hg1
               have hb1 : Blk w1 b 59 _ := hmid4.out.1.drew.same (hg1.block b blt4 hgb)
               obtain ⟨e0, e1, e2, e3⟩ := hb1.four
               have z2 := hb1.frozen 2))
            all_goals
              go_wp2_with fail
            all_goals
              have hk := Hk.out
              have hfl := Hfl.out
              have hzl := hsrc3.len
              have hk1 : (zs.take k).length = k := by rw [List.length_take]; omega
              have hLl := hmid4.out.2.2.1.len
              go_roundw
              case rel =>
                have hS := hsrc3.cut (k := k) hkm
                rw [Nat.mul_one] at hS
                refine ⟨_, _, _, zs.drop k, L3.drop k ++ zs.take k, xs3.take i4 ++ zs.take k ++ xs3.drop (i4 + k), i4 + k, .slice (some ⟨g, 0, none⟩) xs3.length cap, rfl, hS, ?_, ?_, ?_, ?_, ?_, ?_, ?_⟩
                · intro _
                  simp only [List.length_append, List.length_take, List.length_drop]; omega
                · show _ = _
                  rw [over_last (by omega) (by omega) (by omega)]
                  exact heq3.out
                · have := hb1.set_ 2 (.int .i64 ((i4 : Int) + (k : Int)))
                  rw [show ((i4 + k : Nat) : Int) = (i4 : Int) + (k : Int) from by omega]
                  exact this
                · have h1 := own_far hown1 (own_ne hown1 hb1 (by decide)) (p := ⟨b, 2, none⟩) (.int .i64 ((i4 : Int) + (k : Int)))
                  rw [bys_take, bys_take, bys_drop, ← bys_append, ← bys_append] at h1
                  have h2 : (xs3.take i4 ++ zs.take k ++ xs3.drop (i4 + k)).length = xs3.length := by
                    simp only [List.length_append, List.length_take, List.length_drop]; omega
                  rw [h2]
                  exact h1
                · have := hmid4.out.2.2.1.over (ys := zs.take k) (by omega) (by omega)
                  rw [hk1] at this
                  exact this
                · refine Fr.setCell ((hmid4.out.2.2.2.1.drew).grown hg1 ?_) (.inl (.inl rfl)) _
                  intro j hj
                  cases hj
                  exact (hmid4.out.2.2.2.2 g rfl).imp (fun h => Or.inr h.symm) id
                · exact hmid4.out.2.2.2.2
              case measure => simp [lenV]; omega
        · have h00 : m3 = 0 := by omega
          go_wp2_with fail
          go_end0
          have hz : zs = [] := List.eq_nil_of_length_eq_zero (by have := hsrc3.len; omega)
          have he := heq3.out
          rw [hz, List.append_nil] at he
          have hR := hmid.out.2.2.1
          rw [lastN_all (by have := hR.len; have := hR.1; omega)] at he
          rw [he] at hR
          refine ⟨rfl, v3.ownBlock, ⟨v3, xs3, i3, ?_, hmid.out.2.1, rfl, hR, hs1, hs2, hBb⟩, hmid.out.2.2.2.1, hmid.out.2.2.2.2⟩
          have := hmid.out.1
          rw [List.length_append, hml]
          exact this
end Go.Proofs.Ytcfaocbdhfmhbaa
