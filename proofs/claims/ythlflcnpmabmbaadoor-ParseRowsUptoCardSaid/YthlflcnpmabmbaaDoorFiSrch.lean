/-
  sort.SearchInts over this program, by the library's contract. Conditions: an ascending list in memory.
-/
import Derived.Test.YthlflcnpmabmbaaDoorFiSmall
import Derived.Shelf.SlSorted.Search
namespace Go.Proofs.YthlflcnpmabmbaaDoor
open Go.RowKit Go.Shelf

def rnF : Nat → Nat
  | 14 => 74
  | 16 => 79
  | 22 => 80
  | n => n
def rnT : Nat → Nat
  | 0 => 0
  | 3 => 3
  | 4 => 4
  | 28 => 61
  | 35 => 115
  | 38 => 116
  | n => n
def rnS : Ren := ⟨rnF, rnT, fun x => x⟩
set_option maxRecDepth 100000 in
set_option maxHeartbeats 4000000 in
theorem laysS : SlLaysO.n14 Tryd.prog rnS :=
  { mixed := by kernel_rfl
    f14 := by kernel_rfl
    f16 := by kernel_rfl
    f22 := by kernel_rfl
    t0 := by kernel_rfl
    a0 := fun w => by kernel_rfl
    z0 := fun w => by kernel_rfl
    v0 := fun w => by kernel_rfl
    t3 := by kernel_rfl
    a3 := fun w => by kernel_rfl
    z3 := fun w => by kernel_rfl
    v3 := fun w => by kernel_rfl
    t4 := by kernel_rfl
    a4 := fun w => by kernel_rfl
    z4 := fun w => by kernel_rfl
    v4 := fun w => by kernel_rfl
    t28 := by kernel_rfl
    a28 := fun w => by kernel_rfl
    z28 := fun w => by kernel_rfl
    v28 := fun w => by kernel_rfl
    t35 := by kernel_rfl
    a35 := fun w => by kernel_rfl
    z35 := fun w => by kernel_rfl
    v35 := fun w => by kernel_rfl
    t38 := by kernel_rfl
    a38 := fun w => by kernel_rfl
    z38 := fun w => by kernel_rfl
    v38 := fun w => by kernel_rfl }
theorem SInts_any (g cap : Nat) (d : Array Int) (x : Int) (w : World) (hc : ∀ i, i < d.size → w.cell? ⟨g, 0 + i, none⟩ = some ((Value.int .i64) d[i]!)) (hg : g < w.heap.size) (hsz : d.size < 4611686018427387904)
    (hs : ∀ a b, a ≤ b → b < d.size → decide (x ≤ d[a]!) = true → decide (x ≤ d[b]!) = true) :
    Calls Tryd.prog 74 #[.slice (some ⟨g, 0, none⟩) d.size cap, .int .i64 x] w fun e w' => e = .returned (.int .i64 (d.toList.countP (fun y => !decide (x ≤ y)) : Nat)) ∧ Below w.heap.size w w' :=
  Any.sort_SearchInts laysS g 0 cap d x w hc hg hsz hs
end Go.Proofs.YthlflcnpmabmbaaDoor
