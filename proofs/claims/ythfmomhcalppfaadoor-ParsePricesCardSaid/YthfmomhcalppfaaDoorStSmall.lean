/-
  The small functions of a state: right, Literal, New, the move's number, the program's and the document's. No condition beyond each theorem's own.
-/
import Derived.Test.YthfmomhcalppfaaDoorMem
import Derived.Test.YthfmomhcalppfaaDoorStNums
import Derived.Test.YthfmomhcalppfaaDoorChecked
import Derived.WalkKit
import Derived.WalkSpells
import Derived.WalkLawsBesides
import Derived.Lib.Strings
import Derived.Lib.Slices
import Derived.Lib.Small
import Derived.Lib.Walk
import Derived.Lib.BitFns
import Derived.Lib.Hide
import Derived.Deep.Light
namespace Go.Proofs.YthfmomhcalppfaaDoor
open Go.RowKit

abbrev stC (n a b c d : Int) : Array Value := #[.int .i64 n, .int .i64 a, .int .i64 b, .int .i64 c, .int .i64 d]
def stV (n a b c d : Int) : Value := .agg (stC n a b c d)
def isD (d : Int) : Prop := 1 ≤ d ∧ d ≤ 4294967295
instance (d : Int) : Decidable (isD d) := by unfold isD; infer_instance
def rightP (n a b c d : Int) : Prop := isD a ∧ isD b ∧ isD c ∧ isD d ∧ 0 ≤ n ∧ n < 12
instance (n a b c d : Int) : Decidable (rightP n a b c d) := by unfold rightP; infer_instance
theorem isDist_any (d : Int) (w : World) : Calls Tryd.prog 19 #[.int .i64 d] w fun e w' => e = .returned (.bool (decide (isD d))) ∧ w = w' := by
  by_cases h : isD d
  · obtain ⟨k, rfl⟩ : ∃ k : Nat, d = k := ⟨d.toNat, by unfold isD at h; omega⟩
    rw [decide_eq_true h]
    exact isDist_yes k (by unfold isD at h; omega) (by unfold isD at h; omega) w
  · rw [decide_eq_false h]
    exact isDist_no d h w
def isL (d : Int) : Prop := 2 ≤ d ∧ d ≤ 273
instance (d : Int) : Decidable (isL d) := by unfold isL; infer_instance
theorem isLen_any (d : Int) (w : World) : Calls Tryd.prog 18 #[.int .i64 d] w fun e w' => e = .returned (.bool (decide (isL d))) ∧ w = w' := by
  by_cases h : isL d
  · rw [decide_eq_true h]
    obtain ⟨h1, h2⟩ := h
    go_enter Tryd.func18, Tryd.ntmps18
    go_wp2
    go_ret
    exact ⟨rfl, rfl⟩
  · rw [decide_eq_false h]
    have : ¬ 2 ≤ d ∨ (2 ≤ d ∧ ¬ d ≤ 273) := by unfold isL at h; omega
    rcases this with h1 | ⟨h1, h2⟩
    all_goals
      go_enter Tryd.func18, Tryd.ntmps18
      go_wp2
      go_ret
      exact ⟨rfl, rfl⟩
def at4 (a b c d : Int) (i : Nat) : Int := if i = 0 then a else if i = 1 then b else if i = 2 then c else d
theorem right_any (n a b c d : Int) (w : World) : Calls Tryd.prog 17 #[stV n a b c d] w fun e w' => e = .returned (.bool (decide (rightP n a b c d))) ∧ Below w.heap.size w w' := by
  unfold stV
  have i0 : ∀ w : World, (Instr.index 34 (.agg #[.int .i64 a, .int .i64 b, .int .i64 c, .int .i64 d]) (.int .i64 0)).run Tryd.prog w = .ok (.int .i64 a) w := fun _ => by kernel_rfl
  have i1 : ∀ w : World, (Instr.index 34 (.agg #[.int .i64 a, .int .i64 b, .int .i64 c, .int .i64 d]) (.int .i64 1)).run Tryd.prog w = .ok (.int .i64 b) w := fun _ => by kernel_rfl
  have i2 : ∀ w : World, (Instr.index 34 (.agg #[.int .i64 a, .int .i64 b, .int .i64 c, .int .i64 d]) (.int .i64 2)).run Tryd.prog w = .ok (.int .i64 c) w := fun _ => by kernel_rfl
  have i3 : ∀ w : World, (Instr.index 34 (.agg #[.int .i64 a, .int .i64 b, .int .i64 c, .int .i64 d]) (.int .i64 3)).run Tryd.prog w = .ok (.int .i64 d) w := fun _ => by kernel_rfl
  go_enter Tryd.func17, Tryd.ntmps17
  go_wp2_with fail
  go_loopw [4, 7] (fun s4 s7 wr => ∃ i : Nat, s7 = .int .i64 (i : Int) ∧ i ≤ 4 ∧ Hid (∀ j, j < i → isD (at4 a b c d j)) ∧ Blk wr w.heap.size 36 (stC n a b c d) ∧ Below w.heap.size w wr) (fun _ s7 _ => 4 - (intOf s7).toNat)
  case atStart => exact ⟨0, rfl, by omega, fun j h => absurd h (by omega), Blk.new _ _ _, (Below.refl _ _).alloc (Nat.le_refl _) _⟩
  case round =>
    obtain ⟨i, rfl, hi, hall, hb, hB⟩ := hrel
    have c0 := hb.cell 0
    simp at c0
    by_cases h4 : i = 4
    · subst h4
      by_cases n0 : 0 ≤ n
      · by_cases n1 : n < 12
        · go_wp2_with fail
          go_ret
          refine ⟨?_, hB⟩
          rw [decide_eq_true ⟨hall.out 0 (by omega), hall.out 1 (by omega), hall.out 2 (by omega), hall.out 3 (by omega), n0, n1⟩]
          rfl
        · have hf : ¬ rightP n a b c d := fun h => n1 h.2.2.2.2.2
          go_wp2_with fail
          go_ret
          first | exact ⟨rfl, hB⟩ | exact ⟨by rw [decide_eq_false hf]; rfl, hB⟩
      · have hf : ¬ rightP n a b c d := fun h => n0 h.2.2.2.2.1
        go_wp2_with fail
        go_ret
        first | exact ⟨rfl, hB⟩ | exact ⟨by rw [decide_eq_false hf]; rfl, hB⟩
    · have hs : i = 0 ∨ i = 1 ∨ i = 2 ∨ i = 3 := by omega
      rcases hs with rfl | rfl | rfl | rfl
      · by_cases hd : isD a
        · have hc := isDist_any a wr
          rw [decide_eq_true hd] at hc
          go_wp2_with (go_at_call 19; refine hc.mono ?_; rintro e w' ⟨rfl, rfl⟩)
          go_roundw
          case rel => exact ⟨1, rfl, by omega, fun j hj => by
            by_cases e : j = 0
            · subst e; exact hd
            · exact hall.out j (by omega), hb, hB⟩
          case measure => simp [intOf]
        · have hc := isDist_any a wr
          rw [decide_eq_false hd] at hc
          have hf : ¬ rightP n a b c d := fun h => hd h.1
          go_wp2_with (go_at_call 19; refine hc.mono ?_; rintro e w' ⟨rfl, rfl⟩)
          go_ret
          first | exact ⟨rfl, hB⟩ | exact ⟨by rw [decide_eq_false hf]; rfl, hB⟩
      · by_cases hd : isD b
        · have hc := isDist_any b wr
          rw [decide_eq_true hd] at hc
          go_wp2_with (go_at_call 19; refine hc.mono ?_; rintro e w' ⟨rfl, rfl⟩)
          go_roundw
          case rel => exact ⟨2, rfl, by omega, fun j hj => by
            by_cases e : j = 1
            · subst e; exact hd
            · exact hall.out j (by omega), hb, hB⟩
          case measure => simp [intOf]
        · have hc := isDist_any b wr
          rw [decide_eq_false hd] at hc
          have hf : ¬ rightP n a b c d := fun h => hd h.2.1
          go_wp2_with (go_at_call 19; refine hc.mono ?_; rintro e w' ⟨rfl, rfl⟩)
          go_ret
          first | exact ⟨rfl, hB⟩ | exact ⟨by rw [decide_eq_false hf]; rfl, hB⟩
      · by_cases hd : isD c
        · have hc := isDist_any c wr
          rw [decide_eq_true hd] at hc
          go_wp2_with (go_at_call 19; refine hc.mono ?_; rintro e w' ⟨rfl, rfl⟩)
          go_roundw
          case rel => exact ⟨3, rfl, by omega, fun j hj => by
            by_cases e : j = 2
            · subst e; exact hd
            · exact hall.out j (by omega), hb, hB⟩
          case measure => simp [intOf]
        · have hc := isDist_any c wr
          rw [decide_eq_false hd] at hc
          have hf : ¬ rightP n a b c d := fun h => hd h.2.2.1
          go_wp2_with (go_at_call 19; refine hc.mono ?_; rintro e w' ⟨rfl, rfl⟩)
          go_ret
          first | exact ⟨rfl, hB⟩ | exact ⟨by rw [decide_eq_false hf]; rfl, hB⟩
      · by_cases hd : isD d
        · have hc := isDist_any d wr
          rw [decide_eq_true hd] at hc
          go_wp2_with (go_at_call 19; refine hc.mono ?_; rintro e w' ⟨rfl, rfl⟩)
          go_roundw
          case rel => exact ⟨4, rfl, by omega, fun j hj => by
            by_cases e : j = 3
            · subst e; exact hd
            · exact hall.out j (by omega), hb, hB⟩
          case measure => simp [intOf]
        · have hc := isDist_any d wr
          rw [decide_eq_false hd] at hc
          have hf : ¬ rightP n a b c d := fun h => hd h.2.2.2.1
          go_wp2_with (go_at_call 19; refine hc.mono ?_; rintro e w' ⟨rfl, rfl⟩)
          go_ret
          first | exact ⟨rfl, hB⟩ | exact ⟨by rw [decide_eq_false hf]; rfl, hB⟩
def New_post (w : World) (e : Ending) (w' : World) : Prop := e = .returned (stV 0 1 1 1 1) ∧ Below w.heap.size w w'
theorem New_any (w : World) : Calls Tryd.prog 9 #[] w (New_post w) := by
  go_enter Tryd.func9, Tryd.ntmps9
  go_wp2
  exact bodyPost_ret (v := stV 0 1 1 1 1) (by simp [results, Tryd.results9, go_sem, stV]) rfl ⟨rfl, (Below.refl _ _).alloc (Nat.le_refl _) _⟩
def yV (k y l d : Int) : Value := .agg #[.int .i64 k, .int .u8 y, .int .i64 l, .int .i64 d]
/-- the number behind a kind -/
def movedN (n k : Int) : Int := if k = 1 then (if n < 4 then 0 else if n < 10 then n - 3 else n - 6) else if k = 2 then (if 7 ≤ n then 10 else 7) else if 7 ≤ n then 11 else if k = 3 then 8 else 9
end Go.Proofs.YthfmomhcalppfaaDoor
