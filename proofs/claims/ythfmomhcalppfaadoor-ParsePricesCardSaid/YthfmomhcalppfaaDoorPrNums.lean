/-
  The numbers of chapter 12: bits.Len (after the shelf's own contract text), Slot and Range, the program's and the document's: both answer by the same plain function. No condition beyond each theorem's own.
-/
import Derived.Test.YthfmomhcalppfaaDoorStNums
import Derived.WalkKit
import Derived.WalkSpells
import Derived.WalkLawsBesides
import Derived.Lib.Strings
import Derived.Lib.Slices
import Derived.Lib.Small
import Derived.Lib.Walk
import Derived.Lib.BitFns
import Derived.Lib.Hide
import Derived.Deep.Light
namespace Go.Proofs.YthfmomhcalppfaaDoor
open Go.RowKit

set_option maxRecDepth 100000 in
theorem len8tab_size : (Lib.len8tab.size : Int) = 256 := by
  have : Lib.len8tab.size = 256 := by decide
  omega
/-- THE LAST STEP OF EACH OF THE EIGHT WAYS, PROVED ONCE, OUTSIDE: 'omega' on it INSIDE the way's context (a chain of divisions by great numbers) took 25 s a way and gigabytes. -/
theorem wrap_add (k a b : Nat) (hk : k ≤ 56) (ha : a ≤ 8) (hb : b = k + a) : RowKit.wrap64 ((k : Int) + RowKit.wrap64 (a : Int)) = (b : Int) := by
  unfold RowKit.wrap64
  omega
theorem wrap_wrap (a : Nat) (ha : a ≤ 8) : RowKit.wrap64 (RowKit.wrap64 (a : Int)) = (a : Int) := by
  unfold RowKit.wrap64
  omega
theorem wrap_one (a : Nat) (ha : a ≤ 8) : RowKit.wrap64 (a : Int) = (a : Int) := by
  unfold RowKit.wrap64
  omega
/-- The table's byte, as an index's plain meaning reads it, IS the shelf's 'Lib.len8'. -/
theorem len8_get (y : Int) (h : y.toNat < Lib.len8tab.size) : ((Lib.len8tab[y.toNat]'h).toNat : Int) = Lib.len8 y := by
  unfold Lib.len8
  rw [getElem?_pos Lib.len8tab y.toNat h]
  rfl

set_option maxHeartbeats 32000000 in
set_option maxRecDepth 1000000 in
theorem bits_Len64 (x : Int) (w : World) (h0 : 0 ≤ x) (h1 : x ≤ 18446744073709551615) :
    Calls Tryd.prog 22 #[.int .u64 x] w fun e w' => e = .returned (.int .i64 (Lib.bitLen x.toNat)) ∧ w' = w := by
  go_enter Tryd.func22, Tryd.ntmps22
  go_wp2
  all_goals first
    | (go_ret; refine ⟨congrArg Ending.returned (congrArg (Value.int IntKind.i64) ?_), rfl⟩; go_light)
    | (exfalso
       go_light
       have hs := len8tab_size
       omega)
  all_goals first
    | (rw [len8_get (x / 4294967296 / 65536 / 256) _, Lib.len8_of (x / 4294967296 / 65536 / 256) (by omega) (by omega)]
       have e : (x / 4294967296 / 65536 / 256).toNat = x.toNat / 72057594037927936 := by omega
       have l := Lib.bitLen_le8' (x / 4294967296 / 65536 / 256) (by omega) (by omega)
       have s := Lib.bitLen_shift56 x.toNat (by omega) (by omega)
       rw [e] at l ⊢
       exact wrap_add 56 _ _ (by decide) l s)
    | (rw [len8_get (x / 4294967296 / 65536) _, Lib.len8_of (x / 4294967296 / 65536) (by omega) (by omega)]
       have e : (x / 4294967296 / 65536).toNat = x.toNat / 281474976710656 := by omega
       have l := Lib.bitLen_le8' (x / 4294967296 / 65536) (by omega) (by omega)
       have s := Lib.bitLen_shift48 x.toNat (by omega) (by omega)
       rw [e] at l ⊢
       exact wrap_add 48 _ _ (by decide) l s)
    | (rw [len8_get (x / 4294967296 / 256) _, Lib.len8_of (x / 4294967296 / 256) (by omega) (by omega)]
       have e : (x / 4294967296 / 256).toNat = x.toNat / 1099511627776 := by omega
       have l := Lib.bitLen_le8' (x / 4294967296 / 256) (by omega) (by omega)
       have s := Lib.bitLen_shift40 x.toNat (by omega) (by omega)
       rw [e] at l ⊢
       exact wrap_add 40 _ _ (by decide) l s)
    | (rw [len8_get (x / 4294967296) _, Lib.len8_of (x / 4294967296) (by omega) (by omega)]
       have e : (x / 4294967296).toNat = x.toNat / 4294967296 := by omega
       have l := Lib.bitLen_le8' (x / 4294967296) (by omega) (by omega)
       have s := Lib.bitLen_shift32 x.toNat (by omega) (by omega)
       rw [e] at l ⊢
       exact wrap_add 32 _ _ (by decide) l s)
    | (rw [len8_get (x / 65536 / 256) _, Lib.len8_of (x / 65536 / 256) (by omega) (by omega)]
       have e : (x / 65536 / 256).toNat = x.toNat / 16777216 := by omega
       have l := Lib.bitLen_le8' (x / 65536 / 256) (by omega) (by omega)
       have s := Lib.bitLen_shift24 x.toNat (by omega) (by omega)
       rw [e] at l ⊢
       exact wrap_add 24 _ _ (by decide) l s)
    | (rw [len8_get (x / 65536) _, Lib.len8_of (x / 65536) (by omega) (by omega)]
       have e : (x / 65536).toNat = x.toNat / 65536 := by omega
       have l := Lib.bitLen_le8' (x / 65536) (by omega) (by omega)
       have s := Lib.bitLen_shift16 x.toNat (by omega) (by omega)
       rw [e] at l ⊢
       exact wrap_add 16 _ _ (by decide) l s)
    | (rw [len8_get (x / 256) _, Lib.len8_of (x / 256) (by omega) (by omega)]
       have e : (x / 256).toNat = x.toNat / 256 := by omega
       have l := Lib.bitLen_le8' (x / 256) (by omega) (by omega)
       have s := Lib.bitLen_shift8 x.toNat (by omega) (by omega)
       rw [e] at l ⊢
       exact wrap_add 8 _ _ (by decide) l s)
    | (rw [len8_get (x) _, Lib.len8_of (x) (by omega) (by omega)]
       have e : (x).toNat = x.toNat := by omega
       have l := Lib.bitLen_le8' (x) (by omega) (by omega)
       rw [e] at l ⊢
       first | exact wrap_wrap _ l | exact wrap_add 0 _ _ (by decide) l (by omega) | exact wrap_one _ l)

/-- bits.Len: "Len returns the minimum number of bits required to represent x; the result is 0 for x == 0.": IT RETURNS 'Lib.bitLen x'; the world is as it was. (A uint has 64 bits in the model.) ITS CALLEE bits.Len64 IS MET BY ITS OWN CONTRACT OFF THE SHELF (lay that first). -/
theorem bits_Len (x : Int) (w : World) (h0 : 0 ≤ x) (h1 : x ≤ 18446744073709551615) :
    Calls Tryd.prog 20 #[.int .u64 x] w fun e w' => e = .returned (.int .i64 (Lib.bitLen x.toNat)) ∧ w' = w := by
  go_enter Tryd.func20, Tryd.ntmps20
  go_wp2_with (go_at_call 22; refine (bits_Len64 x _ h0 h1).mono ?_; rintro e w' ⟨rfl, rfl⟩)
  go_ret
  exact ⟨rfl, rfl⟩

def bitsN (i : Nat) : Nat := if i < 4 then 0 else i / 2 - 1
/-- a slot's least distance -/
def leastN : Nat → Nat
  | 0 => 1
  | i + 1 => leastN i + 2 ^ bitsN i
/-- the last slot below n whose least distance is not above d -/
def slotUpto (d : Nat) : Nat → Nat
  | 0 => 0
  | n + 1 => if leastN n ≤ d then n else slotUpto d n
theorem leastN_mono {i j : Nat} (h : i ≤ j) : leastN i ≤ leastN j := by
  induction h with
  | refl => exact Nat.le_refl _
  | step h ih => exact Nat.le_trans ih (Nat.le_add_right _ _)
theorem slotUpto_of {d s : Nat} (h1 : leastN s ≤ d) (h2 : d < leastN (s + 1)) : ∀ n, s < n → slotUpto d n = s := by
  intro n h
  induction n with
  | zero => omega
  | succ n ih =>
    unfold slotUpto
    by_cases e : n = s
    · subst e; rw [if_pos h1]
    · have := leastN_mono (show s + 1 ≤ n by omega)
      rw [if_neg (by omega)]
      exact ih (by omega)
theorem least_bits : ∀ s : Fin 64, 4 ≤ s.val → wrap64 (wrap64 (bits BinOp.or IntKind.i64 2 (bits BinOp.and IntKind.i64 (s.val : Int) 1) * 2 ^ (s.val / 2 - 1)) + 1) = (leastN s.val : Int) := by decide +kernel
theorem least_form : ∀ s : Fin 64, 4 ≤ s.val → leastN s.val = (2 + s.val % 2) * 2 ^ (s.val / 2 - 1) + 1 := by decide +kernel
theorem least_small : ∀ s : Fin 4, leastN s.val = s.val + 1 := by decide +kernel
theorem least_fits : ∀ s : Fin 65, leastN s.val ≤ 4294967297 ∧ bitsN s.val ≤ 31 ∧ 2 ^ bitsN s.val ≤ 4294967296 := by decide +kernel
theorem bitsN_form : ∀ s : Fin 64, 4 ≤ s.val → bitsN s.val = s.val / 2 - 1 := by decide +kernel

theorem Range_no (s : Int) (h : ¬ (0 ≤ s ∧ s < 64)) (w : World) : Calls Tryd.prog 13 #[.int .i64 s] w fun e w' => e = .returned (.tuple #[.int .i64 0, .int .i64 0, .int .i64 7]) ∧ w = w' := by
  by_cases a1 : s < 0
  · go_enter Tryd.func13, Tryd.ntmps13
    go_wp2
    go_ret3
    exact ⟨rfl, rfl⟩
  · have a2 : (63 : Int) < s := by omega
    go_enter Tryd.func13, Tryd.ntmps13
    go_wp2
    go_ret3
    exact ⟨rfl, rfl⟩
theorem Range_yes (s : Nat) (h : s < 64) (w : World) : Calls Tryd.prog 13 #[.int .i64 (s : Int)] w fun e w' => e = .returned (.tuple #[.int .i64 (leastN s : Int), .int .i64 (bitsN s : Int), .int .i64 0]) ∧ w = w' := by
  have a1 : ¬ ((s : Int) < 0) := by omega
  have a2 : ¬ ((63 : Int) < s) := by omega
  by_cases h4 : 4 ≤ s
  · have a3 : ¬ ((s : Int) < 4) := by omega
    have hl := least_bits ⟨s, h⟩ h4
    have hb := bitsN_form ⟨s, h⟩ h4
    simp only at hl hb
    have hb' : (bitsN s : Int) = (s : Int) / 2 - 1 := by omega
    rw [← hl, hb']
    clear hl hb hb'
    go_enter Tryd.func13, Tryd.ntmps13
    go_wp2
    go_ret3
    exact ⟨rfl, rfl⟩
  · have a3 : (s : Int) < 4 := by omega
    have hl := least_small ⟨s, by omega⟩
    simp only at hl
    have hb : bitsN s = 0 := by unfold bitsN; rw [if_pos (by omega)]
    rw [hl, hb]
    clear hl hb
    go_enter Tryd.func13, Tryd.ntmps13
    go_wp2
    go_ret3
    exact ⟨by simp, rfl⟩
theorem Slot_no (d : Int) (h : ¬ (1 ≤ d ∧ d ≤ 4294967295)) (w : World) : Calls Tryd.prog 12 #[.int .i64 d] w fun e w' => e = .returned (.tuple #[.int .i64 0, .int .i64 7]) ∧ w = w' := by
  go_enter Tryd.func12, Tryd.ntmps12
  go_wp2_with (go_at_call 19; refine (isDist_no d h _).mono ?_; rintro e w' ⟨rfl, rfl⟩)
  go_ret2
  exact ⟨rfl, rfl⟩
theorem Slot_yes (d : Nat) (h1 : 1 ≤ d) (h2 : d ≤ 4294967295) (w : World) : Calls Tryd.prog 12 #[.int .i64 (d : Int)] w fun e w' => e = .returned (.tuple #[.int .i64 (slotUpto d 64 : Int), .int .i64 0]) ∧ w = w' := by
  obtain ⟨x, rfl⟩ : ∃ x, d = x + 1 := ⟨d - 1, by omega⟩
  by_cases h4 : x < 4
  · have a4 : (x : Int) < 4 := by omega
    have hx : slotUpto (x + 1) 64 = x := by
      have e0 := least_small ⟨x, h4⟩
      have e1 : leastN (x + 1) = leastN x + 2 ^ bitsN x := rfl
      simp only at e0
      refine slotUpto_of (by omega) ?_ _ (by omega)
      rw [e1]; have := Nat.two_pow_pos (bitsN x); omega
    rw [hx]
    clear hx
    go_enter Tryd.func12, Tryd.ntmps12
    go_wp2_with (go_at_call 19; refine (isDist_yes (x + 1) h1 h2 _).mono ?_; rintro e w' ⟨rfl, rfl⟩)
    go_ret2
    exact ⟨rfl, rfl⟩
  · have a4 : ¬ (x : Int) < 4 := by omega
    have hb : ∃ j b, Lib.bitLen x = j + 2 ∧ 1 ≤ j ∧ j ≤ 30 ∧ x / 2 ^ j = 2 + b ∧ b < 2 := by
      have hx0 : x ≠ 0 := by omega
      have l1 := Nat.log2_self_le hx0
      have l2 : x < 2 ^ (x.log2 + 1) := Nat.lt_log2_self
      have l3 : 2 ≤ x.log2 := (Nat.le_log2 hx0).2 (by omega)
      have l4 : x.log2 < 32 := (Nat.log2_lt hx0).2 (by omega)
      have e := Lib.bitLen_shift x.log2 x l1 (by omega)
      obtain ⟨j, hj⟩ : ∃ j, x.log2 = j + 1 := ⟨x.log2 - 1, by omega⟩
      rw [hj] at l1 l2 e
      rw [Nat.pow_succ] at l1
      rw [Nat.pow_succ, Nat.pow_succ] at l2
      have hp : 0 < 2 ^ j := Nat.two_pow_pos j
      have q1 : 2 ≤ x / 2 ^ j := (Nat.le_div_iff_mul_le hp).2 (by omega)
      have q2 : x / 2 ^ j < 4 := (Nat.div_lt_iff_lt_mul hp).2 (by omega)
      have q3 : x / 2 ^ (j + 1) = 1 := by rw [Nat.pow_succ, ← Nat.div_div_eq_div_mul]; omega
      rw [q3] at e
      exact ⟨j, x / 2 ^ j - 2, e.trans (by rw [show Lib.bitLen 1 = 1 by decide]), by omega, by omega, by omega, by omega⟩
    obtain ⟨j, b, hj, j1, j2, hxb, hb2⟩ := hb
    have hc : ∀ w, Calls Tryd.prog 20 #[.int .u64 (x : Int)] w fun e w' => e = .returned (.int .i64 ((j : Int) + 2)) ∧ w' = w := by
      intro w
      have := bits_Len (x : Int) w (by omega) (by omega)
      rw [Int.toNat_natCast, hj] at this
      simpa using this
    have hz : slotUpto (x + 1) 64 = 2 * (j + 1) + b := by
      have hp : 0 < 2 ^ j := Nat.two_pow_pos j
      have d1 : (2 + b) * 2 ^ j ≤ x := by rw [← hxb]; exact Nat.div_mul_le_self _ _
      have d2 : x < (2 + b + 1) * 2 ^ j := by rw [← hxb]; exact (Nat.div_lt_iff_lt_mul hp).1 (Nat.lt_succ_self _)
      have f := least_form ⟨2 * (j + 1) + b, by omega⟩ (by show 4 ≤ 2 * (j + 1) + b; omega)
      simp only at f
      rw [show (2 * (j + 1) + b) % 2 = b by omega, show (2 * (j + 1) + b) / 2 - 1 = j by omega] at f
      have g := bitsN_form ⟨2 * (j + 1) + b, by omega⟩ (by show 4 ≤ 2 * (j + 1) + b; omega)
      simp only at g
      rw [show (2 * (j + 1) + b) / 2 - 1 = j by omega] at g
      refine slotUpto_of (by omega) ?_ _ (by omega)
      show _ < leastN (2 * (j + 1) + b) + 2 ^ bitsN (2 * (j + 1) + b)
      rw [g, f]
      rw [Nat.add_mul, Nat.one_mul] at d2
      omega
    rw [hz, show ((2 * (j + 1) + b : Nat) : Int) = 2 * ((j : Int) + 2 - 1) + (b : Int) by omega]
    have hq : (x : Int) / 2 ^ j = 2 + (b : Int) := by
      have : (x : Int) / 2 ^ j = ((2 + b : Nat) : Int) := by rw [← hxb]; push_cast; rfl
      rw [this]; push_cast; rfl
    have ha : bits BinOp.and IntKind.u64 (2 + (b : Int)) 1 = (b : Int) := by
      have : ∀ b : Fin 2, bits BinOp.and IntKind.u64 (2 + (b.val : Int)) 1 = (b.val : Int) := by decide +kernel
      exact this ⟨b, hb2⟩
    have hw : wrap64 (b : Int) = (b : Int) := by unfold wrap64; omega
    clear hz hxb hj
    go_enter Tryd.func12, Tryd.ntmps12
    go_wp2_with (first | (go_at_call 19; refine (isDist_yes (x + 1) h1 h2 _).mono ?_; rintro e w' ⟨rfl, rfl⟩) | (go_at_call 20; refine (hc _).mono ?_; rintro e w' ⟨rfl, rfl⟩))
    go_ret2
    exact ⟨rfl, rfl⟩
end Go.Proofs.YthfmomhcalppfaaDoor
