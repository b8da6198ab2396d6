/-
  Walks of New and End. Conditions: the cutter lies in memory.
-/
import Derived.Test.YtglkahonejblpaaCdFn
import Derived.Test.YtglkahonejblpaaEatX
namespace Go.Proofs.Ytglkahonejblpaa
open Go.RowKit

theorem New_yes (least most bits : Int) (w : World) (hok : CutsOk least most bits) :
    Calls Try.prog 7 #[.agg #[.int .i64 least, .int .i64 most, .int .i64 bits]] w fun e w' => ∃ X, e = .returned (.tuple #[.pointer (some ⟨X, 0, none⟩), .int .i64 0]) ∧ w.heap.size ≤ X ∧ Blk w' X 71 (rollX (.slice none 0 0) least most bits 0 0) ∧ Below w.heap.size w w' := by
  have HL := Lib.hid (Legal_any least most bits (w.alloc (.cells #[.int .i64 least, .int .i64 most, .int .i64 bits] 23)))
  go_enter Try.func7, Try.ntmps7
  go_wp2_with fail
  refine HL.out.mono ?_
  rintro e w1 ⟨rfl, hb1⟩
  rw [if_pos hok]
  have Hbw : Hid (Below w.heap.size w w1) := bup ((Below.refl _ _).alloc (Nat.le_refl _) _) hb1
  have hcx := (Blk.new w 23 #[.int .i64 least, .int .i64 most, .int .i64 bits]).below hb1
  obtain ⟨c0, c1, c2⟩ : w1.cell? ⟨w.heap.size, 0, none⟩ = some (.int .i64 least) ∧ w1.cell? ⟨w.heap.size, 1, none⟩ = some (.int .i64 most) ∧ w1.cell? ⟨w.heap.size, 2, none⟩ = some (.int .i64 bits) := ⟨hcx.cell 0, hcx.cell 1, hcx.cell 2⟩
  clear hb1 hcx
  go_wp2_with fail
  go_ret2
  exact ⟨w1.heap.size, rfl, Hbw.out.size, Blk.new _ _ _, bmk_ Hbw.out _⟩
theorem New_no (least most bits : Int) (w : World) (hok : ¬ CutsOk least most bits) :
    Calls Try.prog 7 #[.agg #[.int .i64 least, .int .i64 most, .int .i64 bits]] w fun e w' => e = .returned (.tuple #[.pointer none, .int .i64 6]) ∧ Below w.heap.size w w' := by
  have HL := Lib.hid (Legal_any least most bits (w.alloc (.cells #[.int .i64 least, .int .i64 most, .int .i64 bits] 23)))
  go_enter Try.func7, Try.ntmps7
  go_wp2_with fail
  refine HL.out.mono ?_
  rintro e w1 ⟨rfl, hb1⟩
  rw [if_neg hok]
  have Hbw : Hid (Below w.heap.size w w1) := bup ((Below.refl _ _).alloc (Nat.le_refl _) _) hb1
  clear hb1
  go_wp2_with fail
  go_ret2
  exact ⟨rfl, Hbw.out⟩
theorem End_any (X : Nat) (v : Value) (least most bits sum : Int) (n : Nat) (w : World) (h : Blk w X 71 (rollX v least most bits sum n)) :
    Calls Try.prog 10 #[.pointer (some ⟨X, 0, none⟩)] w fun e w' => e = .returned v ∧ Blk w' X 71 (rollX (.slice none 0 0) least most bits 0 0) ∧ Fr (fun k => k = X) w w' := by
  obtain ⟨c0, c1, c2, c3, c4⟩ := h.fiveX
  have c5 : w.cell? ⟨X, 5, none⟩ = some v := h.cell 5
  have f0 := h.frozen 0
  have f1 := h.frozen 1
  have f2 := h.frozen 2
  have f3 := h.frozen 3
  have f4 := h.frozen 4
  have f5 := h.frozen 5
  go_enter Try.func10, Try.ntmps10
  go_wp2_with fail
  go_ret
  refine ⟨rfl, ?_, ?_⟩
  · exact (((((h.set_ 0 _).set_ 1 _).set_ 2 _).set_ 3 _).set_ 4 _).set_ 5 _
  · exact ((((((Fr.refl (fun k => k = X) w).setCell (p := ⟨X, 0, none⟩) (.inl rfl) _).setCell (p := ⟨X, 1, none⟩) (.inl rfl) _).setCell (p := ⟨X, 2, none⟩) (.inl rfl) _).setCell (p := ⟨X, 3, none⟩) (.inl rfl) _).setCell (p := ⟨X, 4, none⟩) (.inl rfl) _).setCell (p := ⟨X, 5, none⟩) (.inl rfl) _
end Go.Proofs.Ytglkahonejblpaa
