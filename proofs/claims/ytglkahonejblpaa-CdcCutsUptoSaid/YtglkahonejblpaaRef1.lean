/-
  Walks of the document's Legal, Gear, sum and ends. Conditions: the bytes lie in memory; legal cuts for ends.
-/
import Derived.Test.YtglkahonejblpaaRefP
import Derived.Deep.QuietTactic
import Derived.BigQuiet
import Derived.Outline
namespace Go.Proofs.Ytglkahonejblpaa
open Go.RowKit

theorem RLegal_any (least most bits : Int) (w : World) : Calls Try.prog 8 #[.agg #[.int .i64 least, .int .i64 most, .int .i64 bits]] w fun e w' => e = .returned (.int .i64 (if CutsOk least most bits then 0 else 6)) ∧ Below w.heap.size w w' := by
  by_cases h1 : least < 64
  · rw [if_neg (fun h => by have := h.a; omega)]
    go_enter Try.func8, Try.ntmps8
    go_wp2
    go_ret
    exact ⟨rfl, (Below.refl _ _).alloc (Nat.le_refl _) _⟩
  · by_cases h2 : most < least
    · rw [if_neg (fun h => by have := h.b; omega)]
      go_enter Try.func8, Try.ntmps8
      go_wp2
      go_ret
      exact ⟨rfl, (Below.refl _ _).alloc (Nat.le_refl _) _⟩
    · by_cases h3 : 1048576 < most
      · rw [if_neg (fun h => by have := h.c; omega)]
        go_enter Try.func8, Try.ntmps8
        go_wp2
        go_ret
        exact ⟨rfl, (Below.refl _ _).alloc (Nat.le_refl _) _⟩
      · by_cases h4 : bits < 0
        · rw [if_neg (fun h => by have := h.d; omega)]
          go_enter Try.func8, Try.ntmps8
          go_wp2
          go_ret
          exact ⟨rfl, (Below.refl _ _).alloc (Nat.le_refl _) _⟩
        · by_cases h5 : 20 < bits
          · rw [if_neg (fun h => by have := h.e; omega)]
            go_enter Try.func8, Try.ntmps8
            go_wp2
            go_ret
            exact ⟨rfl, (Below.refl _ _).alloc (Nat.le_refl _) _⟩
          · rw [if_pos ⟨by omega, by omega, by omega, by omega, by omega⟩]
            go_enter Try.func8, Try.ntmps8
            go_wp2
            go_ret
            exact ⟨rfl, (Below.refl _ _).alloc (Nat.le_refl _) _⟩
theorem td1 (x : Int) : IntKind.u64.wrap ((IntKind.u64.wrap x).tdiv 1073741824) = IntKind.u64.wrap x / 1073741824 := by
  rw [wrap_mod, wrap_mod, Int.tdiv_eq_ediv_of_nonneg (by omega)]
  omega
theorem td2 (x : Int) : IntKind.u64.wrap ((IntKind.u64.wrap x).tdiv 134217728) = IntKind.u64.wrap x / 134217728 := by
  rw [wrap_mod, wrap_mod, Int.tdiv_eq_ediv_of_nonneg (by omega)]
  omega
theorem td3 (x : Int) : IntKind.u64.wrap ((IntKind.u64.wrap x).tdiv 2147483648) = IntKind.u64.wrap x / 2147483648 := by
  rw [wrap_mod, wrap_mod, Int.tdiv_eq_ediv_of_nonneg (by omega)]
  omega
set_option maxRecDepth 100000 in
theorem RGear_any (z : UInt8) (w : World) : Calls Try.prog 27 #[.int .u8 (z.toNat : Int)] w fun e w' => e = .returned (.int .u64 (gearI z)) ∧ w = w' := by
  go_enter Try.func27, Try.ntmps27
  go_wp2
  go_ret
  refine ⟨?_, rfl⟩
  unfold gearI gearC gearB gearA
  simp only [td1, td2, td3]
  rfl
set_option maxHeartbeats 4000000 in
set_option maxRecDepth 100000 in
theorem Rsum_any (A : Option Addr) (m c : Nat) (l : List UInt8) (w : World) (hI : In w A m l) :
    Calls Try.prog 36 #[.slice A m c] w fun e w' => e = .returned (.int .u64 (rollL 0 (l.drop (m - 64)))) ∧ w = w' := by
  have HI := Lib.hid hI
  have Hlen := Lib.hid hI.len
  have hm := hI.2.2
  obtain ⟨f, hf⟩ : ∃ f, m - 64 = f := ⟨_, rfl⟩
  obtain ⟨r, hr⟩ : ∃ r, rollL 0 (l.drop f) = r := ⟨_, rfl⟩
  have Hr := Lib.hid hr
  rw [hf, hr]
  clear hI hr
  go_enter Try.func36, Try.ntmps36
  go_upto_if 8 with (fail)
  go_cut [3] (fun s3 wy => s3 = .int .i64 (f : Int) ∧ w = wy)
  case first =>
    by_cases h64 : (64 : Int) < (m : Int)
    · have hd : decide ((64 : Int) < (m : Int)) = true := decide_eq_true h64
      go_wp2_with fail
      go_meet
      exact ⟨by rw [show (m : Int) - 64 = (f : Int) by omega], rfl⟩
    · have hd : decide ((64 : Int) < (m : Int)) = false := decide_eq_false h64
      go_wp2_with fail
      go_meet
      exact ⟨by rw [show (f : Int) = 0 by omega], rfl⟩
  case rest =>
    obtain ⟨rfl, rfl⟩ := hcut
    go_wp2_with fail
    go_loopw [4, 5] (fun s4 s5 wr => ∃ (i : Nat) (s : Int), s4 = .int .u64 s ∧ s5 = .int .i64 (i : Int) ∧ i ≤ m ∧ Hid (rollL s (l.drop i) = r) ∧ w = wr) (fun _ s5 _ => m - (intOf s5).toNat)
    case atStart => exact ⟨f, 0, rfl, rfl, by omega, Hr, rfl⟩
    case round =>
      clear Hr
      obtain ⟨i, s, rfl, rfl, hi, Hr, rfl⟩ := hrel
      by_cases hlt : i < m
      · have hlt' : (i : Int) < (m : Int) := by omega
        obtain ⟨z, hz⟩ : ∃ z, l[i]? = some z := ⟨_, List.getElem?_eq_getElem (by have := Hlen.out; omega)⟩
        obtain ⟨ab, ao, rfl, hco⟩ := HI.out.1.cells_at (by omega)
        have b0 := hco i z hz
        have hdz : l.drop i = z :: l.drop (i + 1) := by
          obtain ⟨h1, h2⟩ := List.getElem?_eq_some_iff.1 hz
          rw [List.drop_eq_getElem_cons h1, h2]
        have Hr2 : Hid (rollL (roll1 s z) (l.drop (i + 1)) = r) := by
          have := Hr.out
          rw [hdz] at this
          exact this
        clear hdz hz hco Hr
        go_wp2_with fail
        refine (RGear_any z _).mono ?_
        rintro e w' ⟨rfl, rfl⟩
        go_wp2_with fail
        go_roundw
        case rel => exact ⟨i + 1, roll1 s z, by unfold roll1; rw [Int.mul_comm s 2], by go_num, by omega, Hr2, trivial⟩
        case measure => simp [intOf]; omega
      · have him : i = m := by omega
        subst him
        have hs : s = r := by
          have := Hr.out
          rw [List.drop_of_length_le (by rw [Hlen.out]; exact Nat.le_refl _)] at this
          exact this
        subst hs
        have hlt' : decide ((i : Int) < (i : Int)) = false := decide_eq_false (by omega)
        go_wp2_with fail
        go_ret
        exact ⟨rfl, rfl⟩
set_option maxHeartbeats 4000000 in
set_option maxRecDepth 100000 in
theorem Rends_any (least most bits : Int) (A : Option Addr) (m c : Nat) (l : List UInt8) (w : World) (hI : In w A m l) (hok : CutsOk least most bits) :
    Calls Try.prog 31 #[.slice A m c, .agg #[.int .i64 least, .int .i64 most, .int .i64 bits]] w fun e w' => e = .returned (.bool (endsR least most bits l)) ∧ Below w.heap.size w w' := by
  obtain ⟨k1, k2, k3, k4, k5⟩ := hok
  have hlen := hI.len
  have Hlen := Lib.hid hlen
  have hm := hI.2.2
  unfold endsR
  rw [hlen]
  by_cases h1 : (m : Int) < least
  · rw [if_pos h1]
    go_enter Try.func31, Try.ntmps31
    go_wp2_with fail
    go_ret
    exact ⟨rfl, (Below.refl _ _).alloc (Nat.le_refl _) _⟩
  · rw [if_neg h1]
    have hd1 : decide ((m : Int) < least) = false := decide_eq_false h1
    by_cases h2 : most ≤ (m : Int)
    · rw [if_pos (.inl h2)]
      have hd2 : decide (most ≤ (m : Int)) = true := decide_eq_true h2
      go_enter Try.func31, Try.ntmps31
      go_wp2_with fail
      go_ret
      exact ⟨rfl, (Below.refl _ _).alloc (Nat.le_refl _) _⟩
    · have hd2 : decide (most ≤ (m : Int)) = false := decide_eq_false h2
      by_cases h3 : bits = 0
      · rw [if_pos (.inr h3)]
        subst h3
        go_enter Try.func31, Try.ntmps31
        go_wp2_with fail
        go_ret
        exact ⟨rfl, (Below.refl _ _).alloc (Nat.le_refl _) _⟩
      · rw [if_neg (by rintro (h | h); exact h2 h; exact h3 h)]
        have hd3 : decide (bits = 0) = false := decide_eq_false h3
        have HS := Lib.hid (fun a => Rsum_any A m c l ((w.alloc (.cells #[.int .i64 least, .int .i64 most, .int .i64 bits] 23)).drewN a) ((hI.below ((Below.refl _ _).alloc (Nat.le_refl _) _)).below (below_drewN (Below.refl _ _) _)))
        have hsh : IntKind.i64.wrap (64 - bits) = 64 - bits := IntWalk.i64_in _ (by omega)
        have hb1 : 0 ≤ 64 - bits ∧ 64 - bits < 64 := by omega
        go_enter Try.func31, Try.ntmps31
        go_wp2_with fail
        go_quiet ((go_at_call 36; exact Calls.quiet_of_same ((HS.out _).mono fun _ _ h => ⟨h.1, h.2.symm⟩)))
        go_wp2_with fail
        go_ret
        exact ⟨rfl, below_drewN ((Below.refl _ _).alloc (Nat.le_refl _) _) _⟩
end Go.Proofs.Ytglkahonejblpaa
