/-
  Walks of Gear and Legal. No condition.
-/
import Derived.Test.YtglkahonejblpaaCdBase
import Derived.Outline
namespace Go.Proofs.Ytglkahonejblpaa
open Go.RowKit

/-- the number that is added for a byte -/
def gearA (z : UInt8) : Int := IntKind.u64.wrap (IntKind.u64.wrap (IntKind.u64.wrap (z.toNat : Int) + 1) * 11400714819323198485)
def gearB (z : UInt8) : Int := IntKind.u64.wrap (bits BinOp.xor IntKind.u64 (gearA z) (gearA z / 1073741824) * 13787848793156543929)
def gearC (z : UInt8) : Int := IntKind.u64.wrap (bits BinOp.xor IntKind.u64 (gearB z) (gearB z / 134217728) * 10723151780598845931)
def gearI (z : UInt8) : Int := bits BinOp.xor IntKind.u64 (gearC z) (gearC z / 2147483648)
theorem Gear_any (z : UInt8) (w : World) : Calls Try.prog 26 #[.int .u8 (z.toNat : Int)] w fun e w' => e = .returned (.int .u64 (gearI z)) ∧ w = w' := by
  go_enter Try.func26, Try.ntmps26
  go_wp2
  go_ret
  exact ⟨rfl, rfl⟩
structure CutsOk (least most bits : Int) : Prop where
  a : 64 ≤ least
  b : least ≤ most
  c : most ≤ 1048576
  d : 0 ≤ bits
  e : bits ≤ 20
instance (least most bits : Int) : Decidable (CutsOk least most bits) := decidable_of_iff (64 ≤ least ∧ least ≤ most ∧ most ≤ 1048576 ∧ 0 ≤ bits ∧ bits ≤ 20) ⟨fun ⟨a, b, c, d, e⟩ => ⟨a, b, c, d, e⟩, fun ⟨a, b, c, d, e⟩ => ⟨a, b, c, d, e⟩⟩
theorem Legal_any (least most bits : Int) (w : World) : Calls Try.prog 25 #[.agg #[.int .i64 least, .int .i64 most, .int .i64 bits]] w fun e w' => e = .returned (.int .i64 (if CutsOk least most bits then 0 else 6)) ∧ Below w.heap.size w w' := by
  by_cases h1 : least < 64
  · rw [if_neg (fun h => by have := h.a; omega)]
    go_enter Try.func25, Try.ntmps25
    go_wp2
    go_ret
    exact ⟨rfl, (Below.refl _ _).alloc (Nat.le_refl _) _⟩
  · by_cases h2 : most < least
    · rw [if_neg (fun h => by have := h.b; omega)]
      go_enter Try.func25, Try.ntmps25
      go_wp2
      go_ret
      exact ⟨rfl, (Below.refl _ _).alloc (Nat.le_refl _) _⟩
    · by_cases h3 : 1048576 < most
      · rw [if_neg (fun h => by have := h.c; omega)]
        go_enter Try.func25, Try.ntmps25
        go_wp2
        go_ret
        exact ⟨rfl, (Below.refl _ _).alloc (Nat.le_refl _) _⟩
      · by_cases h4 : bits < 0
        · rw [if_neg (fun h => by have := h.d; omega)]
          go_enter Try.func25, Try.ntmps25
          go_wp2
          go_ret
          exact ⟨rfl, (Below.refl _ _).alloc (Nat.le_refl _) _⟩
        · by_cases h5 : 20 < bits
          · rw [if_neg (fun h => by have := h.e; omega)]
            go_enter Try.func25, Try.ntmps25
            go_wp2
            go_ret
            exact ⟨rfl, (Below.refl _ _).alloc (Nat.le_refl _) _⟩
          · rw [if_pos ⟨by omega, by omega, by omega, by omega, by omega⟩]
            go_enter Try.func25, Try.ntmps25
            go_wp2
            go_ret
            exact ⟨rfl, (Below.refl _ _).alloc (Nat.le_refl _) _⟩
end Go.Proofs.Ytglkahonejblpaa
