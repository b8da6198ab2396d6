/-
  Walk of all: the list of the matches. Conditions: the finder lies in memory.
-/
import Derived.Test.YthlflcnpmabmbaaDoorFiBest
namespace Go.Proofs.YthlflcnpmabmbaaDoor
open Go.RowKit Go.Shelf
attribute [local go_sem] Oper.semAt_some
set_option maxRecDepth 100000

def ents (l : List (Nat × Nat)) : List Value := l.flatMap fun m => [.int .i64 (m.1 : Int), .int .i64 (m.2 : Int)]
theorem ents_append (l r : List (Nat × Nat)) : ents (l ++ r) = ents l ++ ents r := by simp [ents]
theorem ents_length (l : List (Nat × Nat)) : (ents l).length = l.length * 2 := by
  induction l with
  | nil => rfl
  | cons a r ih =>
    have : ents (a :: r) = [.int .i64 (a.1 : Int), .int .i64 (a.2 : Int)] ++ ents r := rfl
    rw [this, List.length_append, ih]
    simp
    omega
theorem mats_le (l : List UInt8) (dict : Int) (p : Nat) (most : Int) : (mats l dict p most).length ≤ 32 := by
  unfold mats
  split
  · simp
  · rw [List.length_map]
    exact (cand_le l dict p).1
theorem infoM : (Tryd.prog.info? 98).map (fun i => (i.zero, i.size, i.bytes)) = some (some (.agg #[.int .i64 0, .int .i64 0]), 2, 16) := by kernel_rfl
theorem seq_nil (f : Fn) (a b : Array Value) (w : World) : (binOp .eql 106 (.func f a b) .nilFunc).run Tryd.prog w = .ok (.bool false) w := by kernel_rfl
/-- the list of the matches in new memory -/
def AllPost (ms : List (Nat × Nat)) (w : World) (e : Ending) (w' : World) : Prop :=
  ∃ L lc, e = .returned (.slice L ms.length lc) ∧ w'.ownsRow w.heap.size 98 2 (.slice L ms.length lc) ms.length (ents ms) ∧ Below w.heap.size w w'
end Go.Proofs.YthlflcnpmabmbaaDoor
