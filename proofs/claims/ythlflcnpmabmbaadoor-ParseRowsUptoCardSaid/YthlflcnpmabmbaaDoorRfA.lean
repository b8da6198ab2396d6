/-
  Walks of the reference's usable, run, length, Refuses, rep. Conditions: the data lie in memory.
-/
import Derived.Test.YthlflcnpmabmbaaDoorPaB
namespace Go.Proofs.YthlflcnpmabmbaaDoor
open Go.RowKit Go.Shelf
attribute [local go_sem] Oper.semAt_some
set_option maxRecDepth 100000

/-- the reference's piece by value -/
def rfC (A : Option Addr) (m c : Nat) (fr hi di : Int) : Array Value := #[.slice A m c, .int .i64 fr, .int .i64 hi, .int .i64 di]
theorem usableR_any (A : Option Addr) (m c : Nat) (fr hi di : Int) (p : Nat) (d : Int) (w : World) :
    Calls Tryd.prog 70 #[.agg (rfC A m c fr hi di), .int .i64 p, .int .i64 d] w fun e w' => e = .returned (.bool (decide (1 ≤ d ∧ d ≤ (p : Int) ∧ d ≤ di))) ∧ Below w.heap.size w w' := by
  unfold rfC
  have hb : Below w.heap.size w (w.alloc (.cells #[.slice A m c, .int .i64 fr, .int .i64 hi, .int .i64 di] 50)) := (Below.refl _ _).alloc (Nat.le_refl _) _
  rcases (by omega : d < 1 ∨ (1 ≤ d ∧ (p : Int) < d) ∨ (1 ≤ d ∧ d ≤ (p : Int) ∧ di < d) ∨ (1 ≤ d ∧ d ≤ (p : Int) ∧ d ≤ di)) with h | ⟨h, h2⟩ | ⟨h, h2, h3⟩ | ⟨h, h2, h3⟩
  · rw [decide_eq_false (by omega)]
    have h' : ¬ 0 < d := by omega
    go_enter Tryd.func70, Tryd.ntmps70
    go_wp2_with fail
    go_ret
    exact ⟨rfl, hb⟩
  · rw [decide_eq_false (by omega)]
    have h' : 0 < d := by omega
    have h2' : ¬ d ≤ (p : Int) := by omega
    go_enter Tryd.func70, Tryd.ntmps70
    go_wp2_with fail
    go_ret
    exact ⟨rfl, hb⟩
  · rw [decide_eq_false (by omega)]
    have h' : 0 < d := by omega
    have h3' : ¬ d ≤ di := by omega
    go_enter Tryd.func70, Tryd.ntmps70
    go_wp2_with fail
    go_ret
    exact ⟨rfl, hb⟩
  · rw [decide_eq_true ⟨h, h2, h3⟩]
    have h' : 0 < d := by omega
    go_enter Tryd.func70, Tryd.ntmps70
    go_wp2_with fail
    go_ret
    exact ⟨rfl, hb⟩
theorem lengthR_any (k l x : Int) (z : UInt8) (w : World) : Calls Tryd.prog 52 #[.agg #[.int .i64 k, .int .u8 (z.toNat : Int), .int .i64 l, .int .i64 x]] w fun e w' => e = .returned (.int .i64 (if k = 2 ∨ k = 3 then l else 1)) ∧ Below w.heap.size w w' := by
  have hb : Below w.heap.size w (w.alloc (.cells #[.int .i64 k, .int .u8 (z.toNat : Int), .int .i64 l, .int .i64 x] 24)) := (Below.refl _ _).alloc (Nat.le_refl _) _
  by_cases h2 : k = 2
  · rw [if_pos (.inl h2)]
    have e2 : (k == 2) = true := by simp [h2]
    clear h2
    go_enter Tryd.func52, Tryd.ntmps52
    go_wp2_with fail
    go_ret
    exact ⟨rfl, hb⟩
  · have e2 : (k == 2) = false := by simp [h2]
    by_cases h3 : k = 3
    · rw [if_pos (.inr h3)]
      have e3 : (k == 3) = true := by simp [h3]
      clear h2 h3
      go_enter Tryd.func52, Tryd.ntmps52
      go_wp2_with fail
      go_ret
      exact ⟨rfl, hb⟩
    · have e3 : (k == 3) = false := by simp [h3]
      rw [if_neg (by omega)]
      clear h2 h3
      go_enter Tryd.func52, Tryd.ntmps52
      go_wp2_with fail
      go_ret
      exact ⟨rfl, hb⟩
/-- what Refuses answers -/
def refE (m fr hi di : Int) : Int := if fr < 0 ∨ hi < fr ∨ m < hi then 7 else if di < 1 ∨ 4294967295 < di then 6 else 0
theorem Refuses_any (A : Option Addr) (m c : Nat) (fr hi di : Int) (w : World) :
    Calls Tryd.prog 48 #[.agg (rfC A m c fr hi di)] w fun e w' => e = .returned (.int .i64 (refE m fr hi di)) ∧ Below w.heap.size w w' := by
  unfold rfC
  have hb : Below w.heap.size w (w.alloc (.cells #[.slice A m c, .int .i64 fr, .int .i64 hi, .int .i64 di] 50)) := (Below.refl _ _).alloc (Nat.le_refl _) _
  rcases (by omega : fr < 0 ∨ (¬ fr < 0 ∧ hi < fr) ∨ (¬ fr < 0 ∧ ¬ hi < fr ∧ (m : Int) < hi) ∨ (¬ fr < 0 ∧ ¬ hi < fr ∧ ¬ (m : Int) < hi)) with h | ⟨h, h2⟩ | ⟨h, h2, h3⟩ | ⟨h, h2, h3⟩
  · rw [show refE m fr hi di = 7 from if_pos (.inl h)]
    go_enter Tryd.func48, Tryd.ntmps48
    go_wp2_with fail
    go_ret
    exact ⟨rfl, hb⟩
  · rw [show refE m fr hi di = 7 from if_pos (.inr (.inl h2))]
    go_enter Tryd.func48, Tryd.ntmps48
    go_wp2_with fail
    go_ret
    exact ⟨rfl, hb⟩
  · rw [show refE m fr hi di = 7 from if_pos (.inr (.inr h3))]
    go_enter Tryd.func48, Tryd.ntmps48
    go_wp2_with fail
    go_ret
    exact ⟨rfl, hb⟩
  · have e0 : refE m fr hi di = if di < 1 ∨ 4294967295 < di then 6 else 0 := if_neg (by omega)
    rcases (by omega : di < 1 ∨ (¬ di < 1 ∧ 4294967295 < di) ∨ (¬ di < 1 ∧ ¬ 4294967295 < di)) with g | ⟨g, g2⟩ | ⟨g, g2⟩
    · rw [e0, if_pos (.inl g)]
      clear e0
      go_enter Tryd.func48, Tryd.ntmps48
      go_wp2_with fail
      go_ret
      exact ⟨rfl, hb⟩
    · rw [e0, if_pos (.inr g2)]
      clear e0
      go_enter Tryd.func48, Tryd.ntmps48
      go_wp2_with fail
      go_ret
      exact ⟨rfl, hb⟩
    · rw [e0, if_neg (by omega)]
      clear e0
      go_enter Tryd.func48, Tryd.ntmps48
      go_wp2_with fail
      go_ret
      exact ⟨rfl, hb⟩
/-- the reference's run of a usable distance -/
theorem runR_any (A : Option Addr) (m c : Nat) (l : List UInt8) (fr di : Int) (hi p d : Nat) (w : World) (h : In w A m l) (hm : m ≤ 1073741824) (hhi : hi ≤ m) (_hmc : m ≤ c) (hp : p ≤ hi) (h1 : 1 ≤ d) (h2 : d ≤ p) :
    Calls Tryd.prog 71 #[.agg (rfC A m c fr hi di), .int .i64 p, .int .i64 d] w fun e w' => e = .returned (.int .i64 (ext l (p - d) p (pmost hi p))) ∧ Below w.heap.size w w' := by
  unfold rfC
  obtain ⟨B, hB⟩ : ∃ B, w.heap.size = B := ⟨_, rfl⟩
  obtain ⟨w1, hw1⟩ : ∃ w1, w.alloc (.cells #[.slice A m c, .int .i64 fr, .int .i64 hi, .int .i64 di] 50) = w1 := ⟨_, rfl⟩
  have hb1 : Below w.heap.size w w1 := by rw [← hw1]; exact (Below.refl _ _).alloc (Nat.le_refl _) _
  have hP1 : Blk w1 B 50 #[.slice A m c, .int .i64 fr, .int .i64 hi, .int .i64 di] := by rw [← hw1]; exact Blk.new_at hB.symm
  obtain ⟨M, hM⟩ : ∃ M, pmost hi p = M := ⟨_, rfl⟩
  have hM1 : p + M ≤ hi ∧ M ≤ 273 ∧ (M = 273 ∨ p + M = hi) := by rw [← hM]; unfold pmost; omega
  rw [hM]
  obtain ⟨r, hr⟩ : ∃ r, ext l (p - d) p M = r := ⟨_, rfl⟩
  have Hr := Lib.hid hr
  rw [hr]
  have HI := Lib.hid (And.intro (h.below hb1) (And.intro hP1 hb1))
  have hd1 : (1 : Int) ≤ (d : Int) := by omega
  have hd2 : (d : Int) ≤ (p : Int) := by omega
  clear h hr hM hb1 hP1
  go_enter Tryd.func71, Tryd.ntmps71
  go_wp2_with fail
  clear hw1
  go_loopw [7] (fun s7 wr => ∃ k : Nat, s7 = .int .i64 (k : Int) ∧ k ≤ M ∧ Hid ((∃ n, wr = w1.drewN n) ∧ ∀ j, j < k → l.getD (p - d + j) 0 = l.getD (p + j) 0)) (fun s7 _ => M - (intOf s7).toNat)
  case atStart => exact ⟨0, rfl, Nat.zero_le _, ⟨0, rfl⟩, fun j hj => absurd hj (Nat.not_lt_zero j)⟩
  case round =>
    obtain ⟨k, rfl, hk, HR⟩ := hrel
    obtain ⟨⟨n0, rfl⟩, hj⟩ := HR.out
    have Hj := Lib.hid hj
    clear hj HR
    obtain ⟨c0, c1, c2, c3⟩ := Blk.four HI.out.2.1
    have hpk : IntKind.i64.wrap ((p : Int) + (k : Int)) = (p : Int) + (k : Int) := IntWalk.i64_in _ (by omega)
    by_cases hlt : k < M
    · obtain ⟨ad, hA, z1⟩ := HI.out.1.at_ (j := p - d + k) (by omega)
      obtain ⟨ad', hA', z2⟩ := HI.out.1.at_ (j := p + k) (by omega)
      rw [hA] at hA'
      obtain rfl : ad = ad' := Option.some.inj hA'
      rw [hA] at c0
      clear hA'
      have hAd := Lib.hid hA
      clear hA
      obtain ⟨y1, hx⟩ : ∃ y1, l.getD (p - d + k) 0 = y1 := ⟨_, rfl⟩
      obtain ⟨y2, hy⟩ : ∃ y2, l.getD (p + k) 0 = y2 := ⟨_, rfl⟩
      rw [hx] at z1
      rw [hy] at z2
      have hq1 : ((p : Int) + (k : Int) - (d : Int)).toNat = p - d + k := by omega
      have hp1 : ((p : Int) + (k : Int)).toNat = p + k := by omega
      have hb1 : (p : Int) + (k : Int) - (d : Int) < (m : Int) := by omega
      have hb0 : (0 : Int) ≤ (p : Int) + (k : Int) - (d : Int) := by omega
      have hb2 : (p : Int) + (k : Int) < (m : Int) := by omega
      have hk273 : (k : Int) < 273 := by omega
      have hkhi : (p : Int) + (k : Int) < (hi : Int) := by omega
      have HN : y1 = y2 → Hid (∀ j, j < k + 1 → l.getD (p - d + j) 0 = l.getD (p + j) 0) := fun he j hj => by
        rcases (by omega : j < k ∨ j = k) with h | h
        · exact Hj.out j h
        · subst h; rw [hx, hy, he]
      by_cases he : y1 = y2
      · have he' : ((y2.toNat : Int) == (y1.toNat : Int)) = true := by subst he; simp
        have HN := HN he
        have Hx := Lib.hid (And.intro hx hy)
        clear hx hy he
        go_wp2_with fail
        go_quiet (fail)
        go_wp2_with fail
        go_roundw
        case rel => exact ⟨k + 1, by go_num, by omega, ⟨_, rfl⟩, HN.out⟩
        case measure => simp [intOf]; omega
      · have he' : ((y2.toNat : Int) == (y1.toNat : Int)) = false := beq_eq_false_iff_ne.2 (fun e => he (UInt8.toNat_inj.1 (by omega)))
        have hrk : r = k := by rw [← Hr.out]; exact ext_stop (by omega) Hj.out (.inr (by rw [hx, hy]; exact he))
        have HF : Hid (Below w.heap.size w w1) := HI.out.2.2
        subst hrk
        have Hx := Lib.hid (And.intro hx hy)
        clear hx hy he HN
        go_wp2_with fail
        go_quiet (fail)
        go_wp2_with fail
        go_ret
        exact ⟨rfl, by first | exact below_drewN HF.out _ | exact (below_drewN HF.out _).drew | exact below_drewN (below_drewN HF.out _) _⟩
    · obtain rfl : k = M := by omega
      have hrk : r = k := by rw [← Hr.out]; exact ext_stop (by omega) Hj.out (.inl rfl)
      subst hrk
      have HF : Hid (Below w.heap.size w w1) := HI.out.2.2
      rcases hM1.2.2 with h | h
      · have hk273 : ¬ (r : Int) < 273 := by omega
        have hdc := decide_eq_false hk273
        clear h
        go_wp2_with fail
        go_quiet (fail)
        go_wp2_with fail
        go_ret
        exact ⟨rfl, by first | exact below_drewN HF.out _ | exact (below_drewN HF.out _).drew | exact below_drewN (below_drewN HF.out _) _⟩
      · by_cases hk273 : (r : Int) < 273
        · have hkhi : ¬ (p : Int) + (r : Int) < (hi : Int) := by omega
          have hdc := decide_eq_false hkhi
          go_wp2_with fail
          go_quiet (fail)
          go_wp2_with fail
          go_ret
          exact ⟨rfl, by first | exact below_drewN HF.out _ | exact (below_drewN HF.out _).drew | exact below_drewN (below_drewN HF.out _) _⟩
        · have hdc := decide_eq_false hk273
          go_wp2_with fail
          go_quiet (fail)
          go_wp2_with fail
          go_ret
          exact ⟨rfl, by first | exact below_drewN HF.out _ | exact (below_drewN HF.out _).drew | exact below_drewN (below_drewN HF.out _) _⟩
end Go.Proofs.YthlflcnpmabmbaaDoor
