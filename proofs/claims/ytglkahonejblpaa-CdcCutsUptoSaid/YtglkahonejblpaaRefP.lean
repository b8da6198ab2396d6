/-
  Plain law of the document's sum: the last 64 bytes tell it; its ends are the cutter's. Conditions: each lemma's own.
-/
import Derived.Test.YtglkahonejblpaaSizesP
namespace Go.Proofs.Ytglkahonejblpaa
open Go.RowKit

def rollL (s : Int) (l : List UInt8) : Int := l.foldl roll1 s
theorem rollL_append (s : Int) (a b : List UInt8) : rollL s (a ++ b) = rollL (rollL s a) b := List.foldl_append ..
theorem rollL_snoc (s : Int) (a : List UInt8) (z : UInt8) : rollL s (a ++ [z]) = roll1 (rollL s a) z := by rw [rollL_append]; rfl
theorem wrap_mod (x : Int) : IntKind.u64.wrap x = x % 18446744073709551616 := rfl
theorem roll1_mod (s : Int) (z : UInt8) : roll1 s z = (s * 2 + gearI z) % 18446744073709551616 := by
  unfold roll1
  rw [wrap_mod, wrap_mod]
  omega
theorem rollL_range (l : List UInt8) : ∀ (s : Int), l ≠ [] → 0 ≤ rollL s l ∧ rollL s l < 18446744073709551616 := by
  induction l with
  | nil => intro s h; exact absurd rfl h
  | cons z r ih =>
    intro s _
    by_cases hr : r = []
    · subst hr
      show 0 ≤ roll1 s z ∧ roll1 s z < _
      rw [roll1_mod]
      omega
    · exact ih _ hr
theorem rollL_pow (l : List UInt8) : ∀ (s : Int), ∃ c : Int, rollL s l - (s * 2 ^ l.length + rollL 0 l) = 18446744073709551616 * c := by
  induction l with
  | nil => intro s; exact ⟨0, by simp [rollL]⟩
  | cons z r ih =>
    intro s
    obtain ⟨a, ha⟩ := ih (roll1 s z)
    obtain ⟨b, hb⟩ := ih (roll1 0 z)
    obtain ⟨q, hq⟩ : ∃ q : Int, roll1 s z - roll1 0 z - 2 * s = 18446744073709551616 * q := by
      rw [roll1_mod, roll1_mod]
      exact ⟨(gearI z) / 18446744073709551616 - (s * 2 + gearI z) / 18446744073709551616, by omega⟩
    have e1 : rollL s (z :: r) = rollL (roll1 s z) r := rfl
    have e2 : rollL 0 (z :: r) = rollL (roll1 0 z) r := rfl
    rw [e1, e2, List.length_cons, Int.pow_succ]
    generalize rollL (roll1 s z) r = x1 at *
    generalize rollL (roll1 0 z) r = x2 at *
    generalize rollL 0 r = y at *
    generalize roll1 s z = r1 at *
    generalize roll1 0 z = r2 at *
    generalize (2 : Int) ^ r.length = P at *
    have hm : (r1 - r2 - 2 * s) * P = 18446744073709551616 * q * P := by rw [hq]
    rw [Int.sub_mul, Int.sub_mul, Int.mul_assoc 2 s P, Int.mul_assoc 18446744073709551616 q P] at hm
    refine ⟨a - b + q * P, ?_⟩
    rw [← Int.mul_assoc s P 2, Int.mul_add, Int.mul_sub]
    generalize r1 * P = u1 at *
    generalize r2 * P = u2 at *
    generalize s * P = u3 at *
    generalize q * P = u4 at *
    omega
/-- 64 bytes tell the sum -/
theorem rollL_64 (l : List UInt8) (s : Int) (h : l.length = 64) : rollL s l = rollL 0 l := by
  have hne : l ≠ [] := fun e => by rw [e] at h; cases h
  obtain ⟨c, hc⟩ := rollL_pow l s
  have h1 := rollL_range l s hne
  have h2 := rollL_range l 0 hne
  rw [h, show (2 : Int) ^ 64 = 18446744073709551616 by decide] at hc
  omega
theorem rollL_last (l : List UInt8) : rollL 0 l = rollL 0 (l.drop (l.length - 64)) := by
  by_cases h : l.length ≤ 64
  · rw [show l.length - 64 = 0 by omega]; rfl
  · have hd : (l.drop (l.length - 64)).length = 64 := by rw [List.length_drop]; omega
    conv => lhs; rw [← List.take_append_drop (l.length - 64) l]
    rw [rollL_append, rollL_64 _ _ hd]
section
variable (least most bits : Int)
/-- the document's: does a piece end here? -/
def endsR (l : List UInt8) : Bool := if (l.length : Int) < least then false else if most ≤ (l.length : Int) ∨ bits = 0 then true else decide (rollL 0 (l.drop (l.length - 64)) / 2 ^ (64 - bits).toNat = 0)
theorem endsR_here (hok : CutsOk least most bits) (l : List UInt8) (h : (l.length : Int) ≤ most) (hne : l ≠ []) : endsR least most bits l = decide (here least most bits (rollL 0 l) l.length) := by
  have hkey : endsR least most bits l = true ↔ here least most bits (rollL 0 l) l.length := by
    unfold endsR here
    rw [← rollL_last]
    by_cases h1 : (l.length : Int) < least
    · rw [if_pos h1]
      exact ⟨fun h => (by cases h), fun ⟨h2, _⟩ => by omega⟩
    · rw [if_neg h1]
      by_cases h2 : most ≤ (l.length : Int) ∨ bits = 0
      · rw [if_pos h2]
        refine ⟨fun _ => ⟨by omega, ?_⟩, fun _ => rfl⟩
        rcases h2 with h2 | h2
        · exact .inl (by omega)
        · right
          rw [h2, show (64 - (0 : Int)).toNat = 64 by decide, show (2 : Int) ^ 64 = 18446744073709551616 by decide]
          have := rollL_range l 0 hne
          omega
      · rw [if_neg h2, decide_eq_true_iff]
        refine ⟨fun h => ⟨by omega, .inr h⟩, fun ⟨_, h⟩ => ?_⟩
        rcases h with h | h
        · omega
        · exact h
  by_cases hh : here least most bits (rollL 0 l) l.length
  · rw [hkey.2 hh, decide_eq_true hh]
  · rw [decide_eq_false hh]
    cases he : endsR least most bits l
    · rfl
    · exact absurd (hkey.1 he) hh
/-- what is left behind writes: its sum, its size -/
theorem wrL_inv (hok : CutsOk least most bits) (l : List UInt8) : ∀ (lf : List UInt8), (lf.length : Int) < most → ∃ lf', (wrL least most bits (rollL 0 lf) lf.length lf l).2 = (rollL 0 lf', lf'.length, lf') ∧ (lf'.length : Int) < most ∧ ((lf ≠ [] → endsR least most bits lf = false) → lf' ≠ [] → endsR least most bits lf' = false) := by
  obtain ⟨k1, k2, k3, k4, k5⟩ := hok
  induction l with
  | nil => intro lf h; exact ⟨lf, by rw [wrL_nil], h, fun h => h⟩
  | cons z r ih =>
    intro lf h
    rw [wrL_step, ← rollL_snoc]
    have hl : (lf ++ [z]).length = lf.length + 1 := by simp
    have hE := endsR_here least most bits ⟨k1, k2, k3, k4, k5⟩ (lf ++ [z]) (by rw [hl]; omega) (by simp)
    rw [hl] at hE
    by_cases hh : here least most bits (rollL 0 (lf ++ [z])) (lf.length + 1)
    · rw [if_pos hh]
      obtain ⟨lf', h1, h2, h3⟩ := ih [] (by simp; omega)
      exact ⟨lf', h1, h2, fun _ => h3 (fun e => absurd rfl e)⟩
    · rw [if_neg hh]
      rw [decide_eq_false hh] at hE
      have hn : ((lf ++ [z]).length : Int) < most := by
        rw [hl]
        have : ¬ (least ≤ ((lf.length + 1 : Nat) : Int) ∧ ((lf.length + 1 : Nat) : Int) = most) := fun ⟨h1, h2⟩ => hh ⟨h1, .inl h2⟩
        omega
      obtain ⟨lf', h1, h2, h3⟩ := ih (lf ++ [z]) hn
      rw [hl] at h1
      exact ⟨lf', h1, h2, fun _ => h3 (fun _ => hE)⟩
/-- a whole piece has its end -/
theorem wrL_whole (hok : CutsOk least most bits) (l : List UInt8) : ∀ (lf : List UInt8), (lf.length : Int) < most → ∀ p, p ∈ (wrL least most bits (rollL 0 lf) lf.length lf l).1 → endsR least most bits p = true := by
  obtain ⟨k1, k2, k3, k4, k5⟩ := hok
  induction l with
  | nil => intro lf h p hp; rw [wrL_nil] at hp; cases hp
  | cons z r ih =>
    intro lf h p hp
    rw [wrL_step, ← rollL_snoc] at hp
    have hl : (lf ++ [z]).length = lf.length + 1 := by simp
    have hE := endsR_here least most bits ⟨k1, k2, k3, k4, k5⟩ (lf ++ [z]) (by rw [hl]; omega) (by simp)
    rw [hl] at hE
    by_cases hh : here least most bits (rollL 0 (lf ++ [z])) (lf.length + 1)
    · rw [if_pos hh] at hp
      rw [decide_eq_true hh] at hE
      rcases List.mem_cons.1 hp with e | e
      · rw [e]; exact hE
      · exact ih [] (by simp; omega) p e
    · rw [if_neg hh] at hp
      have hn : ((lf ++ [z]).length : Int) < most := by
        rw [hl]
        have : ¬ (least ≤ ((lf.length + 1 : Nat) : Int) ∧ ((lf.length + 1 : Nat) : Int) = most) := fun ⟨h1, h2⟩ => hh ⟨h1, .inl h2⟩
        omega
      refine ih (lf ++ [z]) hn p ?_
      rw [hl]
      exact hp
end
end Go.Proofs.Ytglkahonejblpaa
