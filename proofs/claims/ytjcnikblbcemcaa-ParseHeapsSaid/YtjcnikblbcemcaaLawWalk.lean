/-
  Walk: the law ParseHeaps returns true for every script that lies in memory and is shorter than 2^42 - 1 moves; nothing that was there is written.
-/
import Derived.Test.YtjcnikblbcemcaaHeaped
namespace Go.Proofs.Ytjcnikblbcemcaa
open Go.RowKit

/-- a script lies in memory: move i at the i-th four cells behind the address -/
def Moves (w : World) (A : Option Addr) (n : Nat) : Prop :=
  0 < n → ∃ b off, A = some ⟨b, off, none⟩ ∧ b < w.heap.size ∧ ∀ i, i < n → ∃ (kind price place : Int) (two : Bool),
    w.cell? ⟨b, off + i * 4, none⟩ = some (.int .i64 kind) ∧ w.cell? ⟨b, off + i * 4 + 1, none⟩ = some (.bool two) ∧ w.cell? ⟨b, off + i * 4 + 2, none⟩ = some (.int .i64 price) ∧ w.cell? ⟨b, off + i * 4 + 3, none⟩ = some (.int .i64 place)
theorem nx_le (k : Int) (n : Nat) : nx k n ≤ n + 1 := by unfold nx; split <;> (try split) <;> omega
theorem Two.mono {w : World} {B G R H S n m n' m' : Nat} (h : Two w B G R H S n m) (hn : n ≤ n') (hm : m ≤ m') : Two w B G R H S n' m' := by
  obtain ⟨rg, rr, rh, rs, h1, h2, h3⟩ := h
  exact ⟨rg, rr, rh, rs, h1.mono hn, h2.mono hm, h3⟩

set_option maxHeartbeats 1600000 in
set_option maxRecDepth 100000 in
theorem law (A : Option Addr) (n c : Nat) (w : World) (h : Moves w A n) (hn : n < 4398046511103) :
    Calls Try.prog 3 #[.slice A n c] w fun e w' => e = .returned (.bool true) ∧ Below w.heap.size w w' := by
  have ht := Two.start w
  go_enter Try.func3, Try.ntmps3
  go_wp2_with fail
  have hb0 : Below w.heap.size w ((((w.alloc (.cells #[.slice none 0 0, .nilFunc] 29)).alloc (.cells #[.slice none 0 0, .nilFunc] 29)).alloc (.cells #[.slice none 0 0] 33)).alloc (.cells #[.slice none 0 0] 33)) :=
    ((((Below.refl _ w).alloc (Nat.le_refl _) _).alloc (by simp) _).alloc (by simp; omega) _).alloc (by simp; omega) _
  go_loopw [21] (fun s wr => ∃ i : Nat, s = .int .i64 i ∧ i ≤ n ∧ Two wr w.heap.size w.heap.size (w.heap.size + 2) (w.heap.size + 1) (w.heap.size + 3) i i ∧ Below w.heap.size w wr) (fun s _ => n - (intOf s).toNat)
  case atStart => exact ⟨0, rfl, Nat.zero_le _, ht, hb0⟩
  case round =>
    obtain ⟨i, rfl, hi, ht, hb⟩ := hrel
    by_cases hin : i < n
    · obtain ⟨b, off, rfl, hbl, hM⟩ := h (by omega)
      obtain ⟨kind, price, place, two, m0, m1, m2, m3⟩ := hM i hin
      have hin' : (i : Int) < (n : Int) := by omega
      have m0 := (hb.cell (p := ⟨b, off + i * 4, none⟩) hbl).trans m0
      have m1 := (hb.cell (p := ⟨b, off + i * 4 + 1, none⟩) hbl).trans m1
      have m2 := (hb.cell (p := ⟨b, off + i * 4 + 2, none⟩) hbl).trans m2
      have m3 := (hb.cell (p := ⟨b, off + i * 4 + 3, none⟩) hbl).trans m3
      clear hM
      have hta : ∀ o, Two (wr.alloc o) w.heap.size w.heap.size (w.heap.size + 2) (w.heap.size + 1) (w.heap.size + 3) i i := fun o => ht.below ((Below.refl _ _).alloc (Nat.le_refl _) _)
      have hba : ∀ o, Below w.heap.size w (wr.alloc o) := fun o => hb.alloc hb.size _
      cases two
      · go_wp2_with (go_at_call 5; refine (heaped_fst w.heap.size w.heap.size (w.heap.size + 2) (w.heap.size + 1) (w.heap.size + 3) i i kind price place false _ (by omega) (by omega) (hta _) (by omega)).mono ?_; rintro e w1 ⟨rfl, ht1, hb1, hk1⟩; obtain ⟨q0, q1, q2, q3⟩ := (hk1 _ _ (Blk.new wr 35 _)).four)
        go_roundw
        case rel => exact ⟨i + 1, by go_num, by omega, ht1.mono (nx_le _ _) (by omega), (hba _).trans hb1⟩
        case measure => simp [intOf]; omega
      · go_wp2_with (go_at_call 5; refine (heaped_snd w.heap.size w.heap.size (w.heap.size + 2) (w.heap.size + 1) (w.heap.size + 3) i i kind price place true _ (by omega) (by omega) (hta _) (by omega)).mono ?_; rintro e w1 ⟨rfl, ht1, hb1, hk1⟩; obtain ⟨q0, q1, q2, q3⟩ := (hk1 _ _ (Blk.new wr 35 _)).four)
        go_roundw
        case rel => exact ⟨i + 1, by go_num, by omega, ht1.mono (by omega) (nx_le _ _), (hba _).trans hb1⟩
        case measure => simp [intOf]; omega
    · obtain rfl : n = i := by omega
      go_wp2_with fail
      clear hi hin
      go_loopw [10] (fun s wr => ∃ i : Nat, s = .int .i64 i ∧ i ≤ n + 1 ∧ Two wr w.heap.size w.heap.size (w.heap.size + 2) (w.heap.size + 1) (w.heap.size + 3) (n - i) (n - i) ∧ Below w.heap.size w wr) (fun s _ => n + 1 - (intOf s).toNat)
      case atStart => exact ⟨0, rfl, Nat.zero_le _, ht, hb⟩
      case round =>
        obtain ⟨i, rfl, hi, ht, hb⟩ := hrel
        by_cases hin : i ≤ n
        · have hin' : (i : Int) ≤ (n : Int) := by omega
          go_wp2_with fail
          refine (heaped_fst w.heap.size w.heap.size (w.heap.size + 2) (w.heap.size + 1) (w.heap.size + 3) (n - i) (n - i) 1 0 0 false _ (by omega) (by omega) ht (by omega)).mono ?_
          rintro e w1 ⟨rfl, ht1, hb1, _⟩
          go_wp2_with fail
          refine (heaped_snd w.heap.size w.heap.size (w.heap.size + 2) (w.heap.size + 1) (w.heap.size + 3) (nx 1 (n - i)) (n - i) 1 0 0 false _ (by omega) (by omega) ht1 (by omega)).mono ?_
          rintro e w2 ⟨rfl, ht2, hb2, _⟩
          go_wp2_with fail
          go_roundw
          case rel => exact ⟨i + 1, by go_num, by omega, ht2.mono (by simp [nx]; omega) (by simp [nx]; omega), (hb.trans hb1).trans hb2⟩
          case measure => simp [intOf]; omega
        · obtain rfl : i = n + 1 := by omega
          obtain ⟨l, k, a, c', d, e, hl, hk, h1, h2⟩ := ht.lens
          obtain rfl : l = 0 := by omega
          obtain rfl : k = 0 := by omega
          have hin' : ¬ ((n : Int) + 1 ≤ (n : Int)) := by omega
          go_wp2_with fail
          refine (len_any w.heap.size 0 d a _ h1).mono ?_
          rintro e w' ⟨rfl, rfl⟩
          go_wp2_with fail
          refine (len_any (w.heap.size + 1) 0 _ c' _ h2).mono ?_
          rintro e w' ⟨rfl, rfl⟩
          go_wp2_with fail
          go_ret
          exact ⟨rfl, hb⟩
end Go.Proofs.Ytjcnikblbcemcaa
