/-
  The law StateSlotted as a walk: slots are monotone and follow one another without a gap. No condition beyond each theorem's own.
-/
import Derived.Test.YtchoiedgnmhjeaaDoorMem
import Derived.Test.YtchoiedgnmhjeaaDoorNext
import Derived.Test.YtchoiedgnmhjeaaDoorEasy
import Derived.Laws.CopyOwn
import Derived.Laws.CopyRow
import Derived.Deep.RegionLaw
import Derived.Deep.RegionHeld3
import Derived.Deep.DeepCutAuto
import Derived.Deep.QuietTactic
import Derived.BigQuiet
import Derived.BigRegion
import Derived.Test.YtchoiedgnmhjeaaDoorProps
import Derived.Test.YtchoiedgnmhjeaaDoorChecked
import Derived.WalkKit
import Derived.WalkSpells
import Derived.WalkLawsBesides
import Derived.Lib.Strings
import Derived.Lib.Slices
import Derived.Lib.Small
import Derived.Lib.Walk
import Derived.Lib.BitFns
import Derived.Lib.Hide
import Derived.Deep.Light
namespace Go.Proofs.YtchoiedgnmhjeaaDoor
open Go.RowKit

theorem slotUpto_le {d : Nat} (h : 1 ≤ d) : ∀ n, leastN (slotUpto d n) ≤ d
  | 0 => h
  | n + 1 => by
    unfold slotUpto
    split
    · assumption
    · exact slotUpto_le h n
theorem slotUpto_lt (d : Nat) : ∀ n, 0 < n → slotUpto d n < n
  | 0, h => absurd h (by omega)
  | n + 1, _ => by
    unfold slotUpto
    split
    · omega
    · rcases Nat.eq_zero_or_pos n with rfl | hn
      · exact Nat.zero_lt_one
      · have := slotUpto_lt d n hn; omega
theorem slotUpto_above (d : Nat) : ∀ n j, slotUpto d n < j → j < n → d < leastN j
  | 0, j, _, h => absurd h (by omega)
  | n + 1, j, h1, h2 => by
    unfold slotUpto at h1
    split at h1
    · omega
    · rename_i hn
      by_cases e : j = n
      · subst e; omega
      · exact slotUpto_above d n j h1 (by omega)
theorem slotUpto_mono {a b : Nat} (h1 : 1 ≤ a) (h : a ≤ b) (n : Nat) (hn : 0 < n) : slotUpto a n ≤ slotUpto b n := by
  rcases Nat.lt_or_ge (slotUpto b n) (slotUpto a n) with hlt | hge
  · have := slotUpto_above b n _ hlt (slotUpto_lt a n hn)
    have := slotUpto_le h1 n
    omega
  · exact hge
theorem slot_top {d : Nat} (h2 : d ≤ 4294967295) : d < leastN (slotUpto d 64) + 2 ^ bitsN (slotUpto d 64) := by
  have hlt := slotUpto_lt d 64 (by decide)
  show d < leastN (slotUpto d 64 + 1)
  by_cases e : slotUpto d 64 + 1 < 64
  · exact slotUpto_above d 64 _ (Nat.lt_succ_self _) e
  · have : slotUpto d 64 + 1 = 64 := by omega
    rw [this, show leastN 64 = 4294967297 by decide +kernel]
    omega
theorem slot_self {s : Nat} (h : s < 64) : slotUpto (leastN s) 64 = s :=
  slotUpto_of (Nat.le_refl _) (by show leastN s < leastN s + 2 ^ bitsN s; have := Nat.two_pow_pos (bitsN s); omega) 64 h
theorem bits_fit : ∀ s : Fin 64, bitsN s.val ≤ 30 ∧ leastN s.val ≤ 4294967295 ∧ 1 ≤ leastN s.val ∧ 2 ^ bitsN s.val ≤ 1073741824 := by decide +kernel
set_option maxHeartbeats 4000000 in
theorem slotted_law (a b : Int) (w : World) (hl : Laid w) : Calls Tryd.prog 8 #[.int .i64 a, .int .i64 b] w fun e w' => e = .returned (.bool true) ∧ Below w.heap.size w w' := by
  go_enter Tryd.func8, Tryd.ntmps8
  go_wp2_with fail
  go_loopw [5] (fun s5 wr => ∃ i : Nat, s5 = .int .i64 (i : Int) ∧ i ≤ 63 ∧ wr = w) (fun s5 _ => 63 - (intOf s5).toNat)
  case atStart => exact ⟨0, rfl, by omega, rfl⟩
  case round =>
    obtain ⟨i, rfl, hi, rfl⟩ := hrel
    by_cases hin : i < 63
    · have hin' : (i : Int) < 63 := by omega
      obtain ⟨f1, f2, f3, f4⟩ := bits_fit ⟨i, by omega⟩
      simp only at f1 f2 f3 f4
      have hc := Range_yes i (by omega) wr
      have hd := Range_yes (i + 1) (by omega) wr
      have hs : leastN (i + 1) = leastN i + 2 ^ bitsN i := rfl
      rw [hs] at hd
      obtain ⟨l, hl'⟩ : ∃ l, leastN i = l := ⟨_, rfl⟩
      obtain ⟨k, hk⟩ : ∃ k, bitsN i = k := ⟨_, rfl⟩
      obtain ⟨k2, hk2⟩ : ∃ k, bitsN (i + 1) = k := ⟨_, rfl⟩
      obtain ⟨p, hp⟩ : ∃ p, (2 : Nat) ^ k = p := ⟨_, rfl⟩
      rw [hl'] at hc hd f2 f3
      rw [hk] at hc hd f1 f4
      rw [hk2] at hd
      rw [hp] at hd f4
      have hp' : (2 : Int) ^ k = (p : Int) := by rw [← hp]; push_cast; rfl
      have hm : min k 64 = k := by omega
      have f1' : ¬ (30 : Int) < (k : Int) := by omega
      have hd' : Calls Tryd.prog 20 #[.int .i64 ((i : Int) + 1)] wr fun e w'' => e = .returned (.tuple #[.int .i64 ((l : Int) + (p : Int)), .int .i64 (k2 : Int), .int .i64 0]) ∧ wr = w'' := by
        have := hd
        push_cast at this
        exact this
      clear hl' hk hk2 hp hs hd
      go_wp2_with (go_at_call 20; (first | with_reducible refine hc.mono ?_ | with_reducible refine hd'.mono ?_); rintro e w' ⟨rfl, rfl⟩)
      go_roundw
      case rel => exact ⟨i + 1, rfl, by omega, by trivial⟩
      case measure => simp [intOf]; omega
    · obtain rfl : i = 63 := by omega
      by_cases hr : 1 ≤ a ∧ a ≤ b ∧ b ≤ 4294967295
      · obtain ⟨r1, r2, r3⟩ := hr
        have a1 : ¬ a < 1 := by omega
        have a2 : ¬ b < a := by omega
        have a3 : ¬ 4294967295 < b := by omega
        obtain ⟨x, rfl⟩ : ∃ x : Nat, a = x := ⟨a.toNat, by omega⟩
        obtain ⟨y, rfl⟩ : ∃ y : Nat, b = y := ⟨b.toNat, by omega⟩
        have hx := Slot_yes x (by omega) (by omega) wr
        have hy := Slot_yes y (by omega) (by omega) wr
        have hle := slotUpto_mono (show 1 ≤ x by omega) (show x ≤ y by omega) 64 (by decide)
        have hlx := slotUpto_le (show 1 ≤ x by omega) 64
        have htx := slot_top (show x ≤ 4294967295 by omega)
        have hs := slotUpto_lt x 64 (by decide)
        have hself := slot_self hs
        obtain ⟨f1, f2, f3, f4⟩ := bits_fit ⟨slotUpto x 64, hs⟩
        simp only at f1 f2 f3 f4
        have hr := Range_yes (slotUpto x 64) hs wr
        obtain ⟨s, hs'⟩ : ∃ s, slotUpto x 64 = s := ⟨_, rfl⟩
        obtain ⟨t, ht⟩ : ∃ t, slotUpto y 64 = t := ⟨_, rfl⟩
        rw [hs'] at hx hle hlx htx hself f1 f2 f3 f4 hr
        rw [ht] at hy hle
        have hz := Slot_yes (leastN s) f3 f2 wr
        rw [hself] at hz
        obtain ⟨l, hl'⟩ : ∃ l, leastN s = l := ⟨_, rfl⟩
        obtain ⟨k, hk⟩ : ∃ k, bitsN s = k := ⟨_, rfl⟩
        rw [hl'] at hlx htx f2 f3 hr hz
        rw [hk] at htx f1 f4 hr
        obtain ⟨p, hp⟩ : ∃ p, (2 : Nat) ^ k = p := ⟨_, rfl⟩
        rw [hp] at htx f4
        have hp' : (2 : Int) ^ k = (p : Int) := by rw [← hp]; push_cast; rfl
        have hm : min k 64 = k := by omega
        have c1 : ¬ (t : Int) < (s : Int) := by omega
        have c2 : ¬ (x : Int) < (l : Int) := by omega
        have c3 : ¬ (p : Int) ≤ (x : Int) - (l : Int) := by omega
        clear hself hl' hk hp hs' ht hs
        go_wp2_with (first
          | (go_at_call 18; (first | with_reducible refine hx.mono ?_ | with_reducible refine hy.mono ?_ | with_reducible refine hz.mono ?_); rintro e w' ⟨rfl, rfl⟩)
          | (go_at_call 20; refine hr.mono ?_; rintro e w' ⟨rfl, rfl⟩)
          | (go_at_call 13; refine (fixed_any _ hl).mono ?_; rintro e w1 ⟨rfl, hb1⟩))
        go_ret
        exact ⟨rfl, hb1⟩
      · have hh : a < 1 ∨ (¬ a < 1 ∧ b < a) ∨ (¬ a < 1 ∧ ¬ b < a ∧ 4294967295 < b) := by omega
        clear hr
        rcases hh with h1 | ⟨h1, h2⟩ | ⟨h1, h2, h3⟩
        all_goals
          go_wp2_with (go_at_call 13; refine (fixed_any _ hl).mono ?_; rintro e w1 ⟨rfl, hb1⟩)
          go_ret
          exact ⟨rfl, hb1⟩
end Go.Proofs.YtchoiedgnmhjeaaDoor
