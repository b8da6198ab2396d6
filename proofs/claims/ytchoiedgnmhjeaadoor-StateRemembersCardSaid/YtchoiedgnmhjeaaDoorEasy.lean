/-
  The laws StateSlots and StateProps as walks, and the fixed answers. No condition beyond each theorem's own.
-/
import Derived.Test.YtchoiedgnmhjeaaDoorMem
import Derived.Test.YtchoiedgnmhjeaaDoorNext
import Derived.Test.YtchoiedgnmhjeaaDoorProps
import Derived.Test.YtchoiedgnmhjeaaDoorChecked
import Derived.WalkKit
import Derived.WalkSpells
import Derived.WalkLawsBesides
import Derived.Lib.Strings
import Derived.Lib.Slices
import Derived.Lib.Small
import Derived.Lib.Walk
import Derived.Lib.BitFns
import Derived.Lib.Hide
import Derived.Deep.Light
namespace Go.Proofs.YtchoiedgnmhjeaaDoor
open Go.RowKit

theorem eq22 (a b c d : Int) (w : World) : (Op.equalIn 9999 22 (.agg #[.int .i64 a, .int .i64 b, .int .i64 c, .int .i64 d]) (.agg #[.int .i64 a, .int .i64 b, .int .i64 c, .int .i64 d])).run Tryd.prog w = .ok true w := by
  have h3 : ∀ (x : Int) (w : World), (Op.equalIn 9998 3 (.int .i64 x) (.int .i64 x)).run Tryd.prog w = .ok true w := fun x w => by
    rw [run_equalIn_int w 9997 3 .i64 .i64 x x Tryd.underlying3]; simp
  have p0 : ∀ w : World, (part 3 #[.int .i64 a, .int .i64 b, .int .i64 c, .int .i64 d] 0).run Tryd.prog w = .ok (.int .i64 a) w := fun _ => by kernel_rfl
  have p1 : ∀ w : World, (part 3 #[.int .i64 a, .int .i64 b, .int .i64 c, .int .i64 d] 1).run Tryd.prog w = .ok (.int .i64 b) w := fun _ => by kernel_rfl
  have p2 : ∀ w : World, (part 3 #[.int .i64 a, .int .i64 b, .int .i64 c, .int .i64 d] 2).run Tryd.prog w = .ok (.int .i64 c) w := fun _ => by kernel_rfl
  have p3 : ∀ w : World, (part 3 #[.int .i64 a, .int .i64 b, .int .i64 c, .int .i64 d] 3).run Tryd.prog w = .ok (.int .i64 d) w := fun _ => by kernel_rfl
  unfold Op.equalIn
  simp [run_underlying Tryd.underlying22, List.range', h3, p0, p1, p2, p3]
theorem eq22' (a b c d : Int) (w : World) : (Op.equal 22 (.agg #[.int .i64 a, .int .i64 b, .int .i64 c, .int .i64 d]) (.agg #[.int .i64 a, .int .i64 b, .int .i64 c, .int .i64 d])).run Tryd.prog w = .ok true w := by
  unfold Op.equal
  have h3 : ∀ (x : Int) (w : World), (Op.equalIn 9999 3 (.int .i64 x) (.int .i64 x)).run Tryd.prog w = .ok true w := fun x w => by
    rw [run_equalIn_int w 9998 3 .i64 .i64 x x Tryd.underlying3]; simp
  have p0 : ∀ w : World, (part 3 #[.int .i64 a, .int .i64 b, .int .i64 c, .int .i64 d] 0).run Tryd.prog w = .ok (.int .i64 a) w := fun _ => by kernel_rfl
  have p1 : ∀ w : World, (part 3 #[.int .i64 a, .int .i64 b, .int .i64 c, .int .i64 d] 1).run Tryd.prog w = .ok (.int .i64 b) w := fun _ => by kernel_rfl
  have p2 : ∀ w : World, (part 3 #[.int .i64 a, .int .i64 b, .int .i64 c, .int .i64 d] 2).run Tryd.prog w = .ok (.int .i64 c) w := fun _ => by kernel_rfl
  have p3 : ∀ w : World, (part 3 #[.int .i64 a, .int .i64 b, .int .i64 c, .int .i64 d] 3).run Tryd.prog w = .ok (.int .i64 d) w := fun _ => by kernel_rfl
  show Sem.run Tryd.prog (Op.equalIn 10000 22 _ _) w = _
  unfold Op.equalIn
  simp [run_underlying Tryd.underlying22, List.range', h3, p0, p1, p2, p3]
set_option maxHeartbeats 2000000 in
theorem fixed_any (w : World) (hl : Laid w) : Calls Tryd.prog 13 #[] w fun e w' => e = .returned (.bool true) ∧ Below w.heap.size w w' := by
  have hm : ∀ w, Laid w → Calls Tryd.prog 10 #[.agg (stC 0 1 1 1 1), .agg #[.int .i64 2, .int .u8 0, .int .i64 5, .int .i64 9]] w (NPost (.agg (stC 7 9 1 1 1)) 0 w) := fun w hl => Next_match 0 1 1 1 1 0 5 9 (by decide) (by decide) w hl
  have hs : ∀ w, Calls Tryd.prog 18 #[.int .i64 13] w fun e w' => e = .returned (.tuple #[.int .i64 7, .int .i64 0]) ∧ w = w' := fun w => by
    have := Slot_yes 13 (by decide) (by decide) w
    rw [show slotUpto 13 64 = 7 by decide +kernel] at this
    exact this
  have hp : ∀ w, Calls Tryd.prog 22 #[.agg #[.int .i64 3, .int .i64 0, .int .i64 2]] w fun e w' => e = .returned (.tuple #[.int .i64 93, .int .i64 0]) ∧ Below w.heap.size w w' := fun w => PropsByte_yes 3 0 2 (by decide) w
  have he := eq22
  go_enter Tryd.func13, Tryd.ntmps13
  go_wp2_with (first
    | (go_at_call 14; refine (New_any w).mono ?_; rintro e w1 ⟨rfl, hb1⟩; unfold stV)
    | (go_at_call 10; refine (hm w1 (hl.below hb1)).mono ?_; rintro e w2 ⟨rfl, hb2⟩; have hB2 := hb1.trans (hb2.mono hb1.size); clear hb1 hb2)
    | (go_at_call 18; refine (hs _).mono ?_; rintro e w' ⟨rfl, rfl⟩)
    | (go_at_call 22; refine (hp _).mono ?_; rintro e w3 ⟨rfl, hb3⟩; have hk := (Blk.new w2 26 (stC 7 9 1 1 1)).same (hb3.block _ (by simp)); have c0 := hk.cell 0; have c1 := hk.cell 1; have c2 := hk.cell 2; have c3 := hk.cell 3; have c4 := hk.cell 4; simp at c0 c1 c2 c3 c4))
  go_ret
  exact ⟨rfl, (hB2.alloc hB2.size _).trans (hb3.mono (by have := hB2.size; simp; omega))⟩
def slotV (d : Int) : Int := if 1 ≤ d ∧ d ≤ 4294967295 then (slotUpto d.toNat 64 : Int) else 0
def slotE (d : Int) : Int := if 1 ≤ d ∧ d ≤ 4294967295 then 0 else 7
theorem Slot_any (d : Int) (w : World) : Calls Tryd.prog 18 #[.int .i64 d] w fun e w' => e = .returned (.tuple #[.int .i64 (slotV d), .int .i64 (slotE d)]) ∧ w = w' := by
  unfold slotV slotE
  by_cases h : 1 ≤ d ∧ d ≤ 4294967295
  · rw [if_pos h, if_pos h]
    obtain ⟨k, rfl⟩ : ∃ k : Nat, d = k := ⟨d.toNat, by omega⟩
    exact Slot_yes k (by omega) (by omega) w
  · rw [if_neg h, if_neg h]
    exact Slot_no d h w
theorem SlotR_any (d : Int) (w : World) : Calls Tryd.prog 19 #[.int .i64 d] w fun e w' => e = .returned (.tuple #[.int .i64 (slotV d), .int .i64 (slotE d)]) ∧ w = w' := by
  unfold slotV slotE
  by_cases h : 1 ≤ d ∧ d ≤ 4294967295
  · rw [if_pos h, if_pos h]
    obtain ⟨k, rfl⟩ : ∃ k : Nat, d = k := ⟨d.toNat, by omega⟩
    exact SlotR_yes k (by omega) (by omega) w
  · rw [if_neg h, if_neg h]
    exact SlotR_no d h w
def rangeV (s : Int) : Int := if 0 ≤ s ∧ s < 64 then (leastN s.toNat : Int) else 0
def rangeB (s : Int) : Int := if 0 ≤ s ∧ s < 64 then (bitsN s.toNat : Int) else 0
def rangeE (s : Int) : Int := if 0 ≤ s ∧ s < 64 then 0 else 7
theorem Range_any (s : Int) (w : World) : Calls Tryd.prog 20 #[.int .i64 s] w fun e w' => e = .returned (.tuple #[.int .i64 (rangeV s), .int .i64 (rangeB s), .int .i64 (rangeE s)]) ∧ w = w' := by
  unfold rangeV rangeB rangeE
  by_cases h : 0 ≤ s ∧ s < 64
  · rw [if_pos h, if_pos h, if_pos h]
    obtain ⟨k, rfl⟩ : ∃ k : Nat, s = k := ⟨s.toNat, by omega⟩
    exact Range_yes k (by omega) w
  · rw [if_neg h, if_neg h, if_neg h]
    exact Range_no s h w
theorem RangeR_any (s : Int) (w : World) : Calls Tryd.prog 21 #[.int .i64 s] w fun e w' => e = .returned (.tuple #[.int .i64 (rangeV s), .int .i64 (rangeB s), .int .i64 (rangeE s)]) ∧ w = w' := by
  unfold rangeV rangeB rangeE
  by_cases h : 0 ≤ s ∧ s < 64
  · rw [if_pos h, if_pos h, if_pos h]
    obtain ⟨k, rfl⟩ : ∃ k : Nat, s = k := ⟨s.toNat, by omega⟩
    exact RangeR_yes k (by omega) w
  · rw [if_neg h, if_neg h, if_neg h]
    exact RangeR_no s h w
theorem slots_law (dist slot : Int) (w : World) (hl : Laid w) : Calls Tryd.prog 6 #[.int .i64 dist, .int .i64 slot] w fun e w' => e = .returned (.bool true) ∧ Below w.heap.size w w' := by
  go_enter Tryd.func6, Tryd.ntmps6
  go_wp2_with (first
    | (go_at_call 18; refine (Slot_any _ _).mono ?_; rintro e w' ⟨rfl, rfl⟩)
    | (go_at_call 19; refine (SlotR_any _ _).mono ?_; rintro e w' ⟨rfl, rfl⟩)
    | (go_at_call 20; refine (Range_any _ _).mono ?_; rintro e w' ⟨rfl, rfl⟩)
    | (go_at_call 21; refine (RangeR_any _ _).mono ?_; rintro e w' ⟨rfl, rfl⟩)
    | (go_at_call 13; refine (fixed_any _ hl).mono ?_; rintro e w1 ⟨rfl, hb1⟩))
  go_ret
  exact ⟨rfl, hb1⟩
def propsV (lc lp pb : Int) : Int := if okP lc lp pb then byteOf lc lp pb else 0
def propsE (lc lp pb : Int) : Int := if okP lc lp pb then 0 else 6
theorem PropsByte_any (lc lp pb : Int) (w : World) : Calls Tryd.prog 22 #[.agg #[.int .i64 lc, .int .i64 lp, .int .i64 pb]] w fun e w' => e = .returned (.tuple #[.int .i64 (propsV lc lp pb), .int .i64 (propsE lc lp pb)]) ∧ Below w.heap.size w w' := by
  unfold propsV propsE
  by_cases h : okP lc lp pb
  · rw [if_pos h, if_pos h]; exact PropsByte_yes lc lp pb h w
  · rw [if_neg h, if_neg h]; exact PropsByte_no lc lp pb h w
theorem PropsByteR_any (lc lp pb : Int) (w : World) : Calls Tryd.prog 23 #[.agg #[.int .i64 lc, .int .i64 lp, .int .i64 pb]] w fun e w' => e = .returned (.tuple #[.int .i64 (propsV lc lp pb), .int .i64 (propsE lc lp pb)]) ∧ Below w.heap.size w w' := by
  unfold propsV propsE
  by_cases h : okP lc lp pb
  · rw [if_pos h, if_pos h]; exact PropsByteR_yes lc lp pb h w
  · rw [if_neg h, if_neg h]; exact PropsByteR_no lc lp pb h w
theorem ByteProps_both (b : Int) : ∃ x y z e : Int, (∀ w, Calls Tryd.prog 24 #[.int .i64 b] w fun en w' => en = .returned (.tuple #[.agg #[.int .i64 x, .int .i64 y, .int .i64 z], .int .i64 e]) ∧ Below w.heap.size w w') ∧ (∀ w, Calls Tryd.prog 25 #[.int .i64 b] w fun en w' => en = .returned (.tuple #[.agg #[.int .i64 x, .int .i64 y, .int .i64 z], .int .i64 e]) ∧ Below w.heap.size w w') := by
  by_cases h : 0 ≤ b ∧ b ≤ 255
  · obtain ⟨k, rfl⟩ : ∃ k : Nat, b = k := ⟨b.toNat, by omega⟩
    by_cases ho : okN k
    · refine ⟨_, _, _, _, fun w => ByteProps_ok k (by omega) ho w, fun w => ?_⟩
      refine (BytePropsR_in k (by omega) w).mono ?_
      rintro e w' ⟨rfl, hb⟩
      rw [if_pos ho]
      exact ⟨rfl, hb⟩
    · refine ⟨_, _, _, _, fun w => ByteProps_bad k (by omega) ho w, fun w => ?_⟩
      refine (BytePropsR_in k (by omega) w).mono ?_
      rintro e w' ⟨rfl, hb⟩
      rw [if_neg ho]
      exact ⟨rfl, hb⟩
  · exact ⟨_, _, _, _, fun w => ByteProps_out b h w, fun w => BytePropsR_out b h w⟩
theorem propsB {w w1 w2 w3 w4 : World} {o : Obj} (h1 : Below (w.alloc o).heap.size (w.alloc o) w1) (h2 : Below w1.heap.size w1 w2) (h3 : Below w2.heap.size w2 w3) (o3 o4 : Obj) (h4 : Below (w3.alloc o3).heap.size (w3.alloc o3) w4) : Below w.heap.size w (w4.alloc o4) := by
  have a : Below w.heap.size w w1 := ((Below.refl _ _).alloc (Nat.le_refl _) _).trans (h1.mono (by simp))
  have b := a.trans (h2.mono a.size)
  have c := b.trans (h3.mono b.size)
  have d := (c.alloc c.size o3).trans (h4.mono (by have := c.size; simp; omega))
  exact d.alloc d.size _
set_option maxHeartbeats 2000000 in
theorem props_law (lc lp pb b : Int) (w : World) (hl : Laid w) : Calls Tryd.prog 7 #[.agg #[.int .i64 lc, .int .i64 lp, .int .i64 pb], .int .i64 b] w fun e w' => e = .returned (.bool true) ∧ Below w.heap.size w w' := by
  obtain ⟨x, y, z, e, h24, h25⟩ := ByteProps_both b
  go_enter Tryd.func7, Tryd.ntmps7
  go_wp2_with (first
    | (go_at_call 22; refine (PropsByte_any _ _ _ _).mono ?_; rintro e w1 ⟨rfl, hb1⟩; have hk := (Blk.new w 52 #[.int .i64 lc, .int .i64 lp, .int .i64 pb]).same (hb1.block _ (by simp)); have c0 := hk.cell 0; have c1 := hk.cell 1; have c2 := hk.cell 2; simp at c0 c1 c2)
    | (go_at_call 23; refine (PropsByteR_any _ _ _ _).mono ?_; rintro e w2 ⟨rfl, hb2⟩; clear c0 c1 c2)
    | (go_at_call 24; refine (h24 _).mono ?_; rintro e w3 ⟨rfl, hb3⟩)
    | (go_at_call 25; refine (h25 _).mono ?_; rintro e w4 ⟨rfl, hb4⟩; have hk4 := ((Blk.new w3 52 #[.int .i64 x, .int .i64 y, .int .i64 z]).same (hb4.block _ (by simp))).alloc (.cells #[.int .i64 x, .int .i64 y, .int .i64 z] 52); have c0 := hk4.cell 0; have c1 := hk4.cell 1; have c2 := hk4.cell 2; simp at c0 c1 c2)
    | (go_at_call 13; have hB : Below w.heap.size w (w4.alloc (.cells #[.int .i64 x, .int .i64 y, .int .i64 z] 52)) := propsB hb1 hb2 hb3 _ _ hb4; refine (fixed_any _ (hl.below hB)).mono ?_; rintro e w5 ⟨rfl, hb5⟩))
  go_ret
  exact ⟨rfl, hB.trans (hb5.mono hB.size)⟩
end Go.Proofs.YtchoiedgnmhjeaaDoor
