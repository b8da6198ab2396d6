/-
  Walk of known: what the document fixes holds. No condition.
-/
import Derived.Test.YthlflcnpmabmbaaDoorFiAll
import Derived.Laws.StructEq
import Derived.Lib.SlBytesConst
namespace Go.Proofs.YthlflcnpmabmbaaDoor
open Go.RowKit Go.Shelf
attribute [local go_sem] Oper.semAt_some
set_option maxRecDepth 100000

theorem eqM (a b c d : Int) (w : World) : (Op.equalIn 10000 98 (.agg #[.int .i64 a, .int .i64 b]) (.agg #[.int .i64 c, .int .i64 d])).run Tryd.prog w = .ok (decide (a = c ∧ b = d)) w := by
  rw [run_equalIn_struct w 9999 98 _ _ (by kernel_rfl) (by kernel_rfl)]
  have hf : (Tryd.prog.fieldsOf 98).toList = [⟨"Len", 3, 0, false, "", "", 0⟩, ⟨"Dist", 3, 1, false, "", "", 8⟩] := by kernel_rfl
  rw [hf]
  have h3 : ∀ (x y : Int), (Op.equalIn 9999 3 (.int .i64 x) (.int .i64 y)).run Tryd.prog w = .ok (x == y) w := fun x y => run_equalIn_int w 9998 3 .i64 .i64 x y Tryd.underlying3
  have p0 : ∀ x y : Int, (part 3 #[.int .i64 x, .int .i64 y] 0).run Tryd.prog w = .ok (.int .i64 x) w := fun x y => by simp [part, isAgg, run_underlying Tryd.underlying3]
  have p1 : ∀ x y : Int, (part 3 #[.int .i64 x, .int .i64 y] 1).run Tryd.prog w = .ok (.int .i64 y) w := fun x y => by simp [part, isAgg, run_underlying Tryd.underlying3]
  by_cases e0 : a = c <;> by_cases e1 : b = d <;> simp [Op.eqFields, h3, p0, p1, e0, e1]
def kdat : List UInt8 := [97, 98, 99, 97, 98, 99, 97, 98, 99, 100]
theorem k273 : bestL (mats kdat 4096 3 273) = (6, 3) := by decide +kernel
theorem k4 : bestL (mats kdat 4096 3 4) = (4, 3) := by decide +kernel
def kcs : Array Value := #[.int .u8 97, .int .u8 98, .int .u8 99, .int .u8 97, .int .u8 98, .int .u8 99, .int .u8 97, .int .u8 98, .int .u8 99, .int .u8 100]
theorem kin (w : World) : In (w.alloc (.cells kcs 5 (10, 11))) (some ⟨w.heap.size, 0, none⟩) 10 kdat := by
  have hh : (w.alloc (.cells kcs 5 (10, 11))).heap[w.heap.size]? = some (.cells kcs 5 (10, 11)) := heap_alloc_new w _
  refine ⟨⟨rfl, fun _ => ⟨_, rfl, fun j u hu => ?_⟩⟩, fun _ ad had => ?_, by omega⟩
  · have h1 := cell_of_row _ w.heap.size j kcs 5 (10, 11) hh
    have h2 : (⟨w.heap.size, 0, none⟩ : Addr).add j = ⟨w.heap.size, j, none⟩ := by
      unfold Addr.add
      split
      · rename_i h; rw [h]
      · simp
    rw [h2, h1]
    have h3 : kcs.toList = bys kdat := rfl
    rw [← h3] at hu
    simpa using hu
  · cases had
    simp
/-- Skip that goes on: the finder behind it -/
theorem Skip_go (p : FP) (pos n : Nat) (w : World) (h : Fi p pos w) (hn : pos + n ≤ p.l.length) (hl : p.l.length ≤ 1073741824) : Calls Tryd.prog 29 #[.pointer (some ⟨p.fb, 0, none⟩), .int .i64 n] w fun en w' => en = .returned (.int .i64 0) ∧ Fi p (pos + n) w' ∧ Fr (fun g => g = p.fb) w w' := by
  refine (Skip_yes p pos n w h hn hl).mono ?_
  rintro e w' ⟨h1, k, rfl⟩
  have h2 : Fi p pos (w.drewN k) := h.keep (fun g _ _ => rfl) (Nat.le_refl _)
  exact ⟨h1, h2.pos, ((Fr.refl (fun g => g = p.fb) w).drewN k).setCell (p := ⟨p.fb, 2, none⟩) (.inl rfl) _⟩
end Go.Proofs.YthlflcnpmabmbaaDoor
