/-
  The law StateBack as a walk: properties and their byte, there and back. No condition beyond each theorem's own.
-/
import Derived.Test.YtchoiedgnmhjeaaDoorMem
import Derived.Test.YtchoiedgnmhjeaaDoorNext
import Derived.Test.YtchoiedgnmhjeaaDoorEasy
import Derived.Laws.CopyOwn
import Derived.Laws.CopyRow
import Derived.Deep.RegionLaw
import Derived.Deep.RegionHeld3
import Derived.Deep.DeepCutAuto
import Derived.Deep.QuietTactic
import Derived.BigQuiet
import Derived.BigRegion
import Derived.Test.YtchoiedgnmhjeaaDoorProps
import Derived.Test.YtchoiedgnmhjeaaDoorChecked
import Derived.WalkKit
import Derived.WalkSpells
import Derived.WalkLawsBesides
import Derived.Lib.Strings
import Derived.Lib.Slices
import Derived.Lib.Small
import Derived.Lib.Walk
import Derived.Lib.BitFns
import Derived.Lib.Hide
import Derived.Deep.Light
namespace Go.Proofs.YtchoiedgnmhjeaaDoor
open Go.RowKit

theorem bup' {w w1 w2 : World} (h : Below w.heap.size w w1) (k : Below w1.heap.size w1 w2) : Below w.heap.size w w2 := h.trans (k.mono h.size)
theorem bmk' {w w1 : World} (h : Below w.heap.size w w1) (o : Obj) : Below w.heap.size w (w1.alloc o) := h.alloc h.size _
theorem eq52t (a b c a' b' c' : Int) (w : World) : (Op.equalIn 10000 52 (.agg #[.int .i64 a, .int .i64 b, .int .i64 c]) (.agg #[.int .i64 a', .int .i64 b', .int .i64 c'])).run Tryd.prog w = .ok (decide (a = a' ∧ b = b' ∧ c = c')) w := by
  rw [run_equalIn_struct w 9999 52 _ _ (by kernel_rfl) (by kernel_rfl)]
  have hf : (Tryd.prog.fieldsOf 52).toList = [⟨"LC", 3, 0, false, "", "", 0⟩, ⟨"LP", 3, 1, false, "", "", 8⟩, ⟨"PB", 3, 2, false, "", "", 16⟩] := by kernel_rfl
  rw [hf]
  have h3 : ∀ (x y : Int) (w : World), (Op.equalIn 9999 3 (.int .i64 x) (.int .i64 y)).run Tryd.prog w = .ok (x == y) w := fun x y w => by
    rw [run_equalIn_int w 9998 3 .i64 .i64 x y Tryd.underlying3]
  have p0 : ∀ (a b c : Int) (w : World), (part 3 #[.int .i64 a, .int .i64 b, .int .i64 c] 0).run Tryd.prog w = .ok (.int .i64 a) w := fun _ _ _ _ => by kernel_rfl
  have p1 : ∀ (a b c : Int) (w : World), (part 3 #[.int .i64 a, .int .i64 b, .int .i64 c] 1).run Tryd.prog w = .ok (.int .i64 b) w := fun _ _ _ _ => by kernel_rfl
  have p2 : ∀ (a b c : Int) (w : World), (part 3 #[.int .i64 a, .int .i64 b, .int .i64 c] 2).run Tryd.prog w = .ok (.int .i64 c) w := fun _ _ _ _ => by kernel_rfl
  by_cases e0 : a = a' <;> by_cases e1 : b = b' <;> by_cases e2 : c = c' <;> simp [Op.eqFields, h3, p0, p1, p2, e0, e1, e2]
theorem byteOf_inj {a b c a' b' c' : Int} (h : okP a b c) (h' : okP a' b' c') (e : byteOf a b c = byteOf a' b' c') : a = a' ∧ b = b' ∧ c = c' := by
  unfold okP at h h'; unfold byteOf at e; omega
theorem byteOf_back {a b c : Int} (h : okP a b c) : ∃ k : Nat, byteOf a b c = (k : Int) ∧ k ≤ 224 ∧ okN k ∧ (k : Int) % 9 = a ∧ (k : Int) / 9 % 5 = b ∧ (k : Int) / 45 = c := by
  refine ⟨(byteOf a b c).toNat, ?_⟩
  unfold okP at h; unfold byteOf okN
  omega
set_option maxHeartbeats 4000000 in
theorem back_no (lc lp pb lc2 lp2 pb2 : Int) (h : ¬ okP lc lp pb) (w : World) (hl : Laid w) : Calls Tryd.prog 9 #[.agg #[.int .i64 lc, .int .i64 lp, .int .i64 pb], .agg #[.int .i64 lc2, .int .i64 lp2, .int .i64 pb2]] w fun e w' => e = .returned (.bool true) ∧ Below w.heap.size w w' := by
  have hcp := PropsByte_no lc lp pb h
  have hcq := PropsByte_any lc2 lp2 pb2
  have he : ∀ (a b c a' b' c' : Int) (w : World), (Op.equalIn 10000 52 (.agg #[.int .i64 a, .int .i64 b, .int .i64 c]) (.agg #[.int .i64 a', .int .i64 b', .int .i64 c'])).run Tryd.prog w = .ok (decide (a = a' ∧ b = b' ∧ c = c')) w := eq52t
  obtain ⟨w0, hw0⟩ : ∃ w0, ((w.alloc (.cells #[.int .i64 lc, .int .i64 lp, .int .i64 pb] 52)).alloc (.cells #[.int .i64 lc2, .int .i64 lp2, .int .i64 pb2] 52)) = w0 := ⟨_, rfl⟩
  have hB0 : Below w.heap.size w w0 := hw0 ▸ bmk' (bmk' (Below.refl _ _) _) _
  have bP : Blk w0 w.heap.size 52 #[.int .i64 lc, .int .i64 lp, .int .i64 pb] := hw0 ▸ (Blk.new _ _ _).alloc _
  have bQ : Blk w0 (w.heap.size + 1) 52 #[.int .i64 lc2, .int .i64 lp2, .int .i64 pb2] := by
    have := Blk.new (w.alloc (.cells #[.int .i64 lc, .int .i64 lp, .int .i64 pb] 52)) 52 #[.int .i64 lc2, .int .i64 lp2, .int .i64 pb2]
    rw [hw0] at this
    simpa using this
  have p0 := bP.cell 0; have p1 := bP.cell 1; have p2 := bP.cell 2
  have q0 := bQ.cell 0; have q1 := bQ.cell 1; have q2 := bQ.cell 2
  simp at p0 p1 p2 q0 q1 q2
  go_enter Tryd.func9, Tryd.ntmps9
  go_wp2_with (first
    | (go_at_call 22; (first | rw [hw0] | skip); with_reducible refine (hcp w0).mono ?_; rintro e w1 ⟨rfl, hb1⟩; clear p0 p1 p2 q0 q1 q2 hw0; have hB1 := bup' hB0 hb1; have cP := bP.same (hb1.block _ bP.lt); have cQ := bQ.same (hb1.block _ bQ.lt); have p0 := cP.cell 0; have p1 := cP.cell 1; have p2 := cP.cell 2; have q0 := cQ.cell 0; have q1 := cQ.cell 1; have q2 := cQ.cell 2; simp at p0 p1 p2 q0 q1 q2)
    | (go_at_call 22; with_reducible refine (hcq w1).mono ?_; rintro e w2 ⟨rfl, hb2⟩; clear p0 p1 p2 q0 q1 q2; have hB2 := bup' hB1 hb2; have dP := cP.same (hb2.block _ cP.lt); have dQ := cQ.same (hb2.block _ cQ.lt); have p0 := dP.cell 0; have p1 := dP.cell 1; have p2 := dP.cell 2; have q0 := dQ.cell 0; have q1 := dQ.cell 1; have q2 := dQ.cell 2; simp at p0 p1 p2 q0 q1 q2)
    | (go_at_call 13; refine (fixed_any _ (hl.below hB2)).mono ?_; rintro e w4 ⟨rfl, hb4⟩))
  go_ret
  exact ⟨rfl, bup' hB2 hb4⟩
set_option maxHeartbeats 4000000 in
theorem back_one (lc lp pb lc2 lp2 pb2 : Int) (h : okP lc lp pb) (h2 : ¬ okP lc2 lp2 pb2) (w : World) (hl : Laid w) : Calls Tryd.prog 9 #[.agg #[.int .i64 lc, .int .i64 lp, .int .i64 pb], .agg #[.int .i64 lc2, .int .i64 lp2, .int .i64 pb2]] w fun e w' => e = .returned (.bool true) ∧ Below w.heap.size w w' := by
  obtain ⟨k, e1, e2, e3, e4, e5, e6⟩ := byteOf_back h
  have hcp := PropsByte_yes lc lp pb h
  have hcq := PropsByte_no lc2 lp2 pb2 h2
  have hcb := ByteProps_ok k (by omega) e3
  unfold P3 at hcb
  rw [e1] at hcp
  rw [e4, e5, e6] at hcb
  have k1 : ¬ ((k : Int) < 0) := by omega
  have k2 : ¬ ((224 : Int) < (k : Int)) := by omega
  clear e1 e2 e3 e4 e5 e6
  have he : ∀ (a b c a' b' c' : Int) (w : World), (Op.equalIn 10000 52 (.agg #[.int .i64 a, .int .i64 b, .int .i64 c]) (.agg #[.int .i64 a', .int .i64 b', .int .i64 c'])).run Tryd.prog w = .ok (decide (a = a' ∧ b = b' ∧ c = c')) w := eq52t
  obtain ⟨w0, hw0⟩ : ∃ w0, ((w.alloc (.cells #[.int .i64 lc, .int .i64 lp, .int .i64 pb] 52)).alloc (.cells #[.int .i64 lc2, .int .i64 lp2, .int .i64 pb2] 52)) = w0 := ⟨_, rfl⟩
  have hB0 : Below w.heap.size w w0 := hw0 ▸ bmk' (bmk' (Below.refl _ _) _) _
  have bP : Blk w0 w.heap.size 52 #[.int .i64 lc, .int .i64 lp, .int .i64 pb] := hw0 ▸ (Blk.new _ _ _).alloc _
  have bQ : Blk w0 (w.heap.size + 1) 52 #[.int .i64 lc2, .int .i64 lp2, .int .i64 pb2] := by
    have := Blk.new (w.alloc (.cells #[.int .i64 lc, .int .i64 lp, .int .i64 pb] 52)) 52 #[.int .i64 lc2, .int .i64 lp2, .int .i64 pb2]
    rw [hw0] at this
    simpa using this
  have p0 := bP.cell 0; have p1 := bP.cell 1; have p2 := bP.cell 2
  have q0 := bQ.cell 0; have q1 := bQ.cell 1; have q2 := bQ.cell 2
  simp at p0 p1 p2 q0 q1 q2
  go_enter Tryd.func9, Tryd.ntmps9
  go_wp2_with (first
    | (go_at_call 22; (first | rw [hw0] | skip); with_reducible refine (hcp w0).mono ?_; rintro e w1 ⟨rfl, hb1⟩; clear p0 p1 p2 q0 q1 q2 hw0; have hB1 := bup' hB0 hb1; have cP := bP.same (hb1.block _ bP.lt); have cQ := bQ.same (hb1.block _ bQ.lt); have p0 := cP.cell 0; have p1 := cP.cell 1; have p2 := cP.cell 2; have q0 := cQ.cell 0; have q1 := cQ.cell 1; have q2 := cQ.cell 2; simp at p0 p1 p2 q0 q1 q2)
    | (go_at_call 22; with_reducible refine (hcq w1).mono ?_; rintro e w2 ⟨rfl, hb2⟩; clear p0 p1 p2 q0 q1 q2; have hB2 := bup' hB1 hb2; have dP := cP.same (hb2.block _ cP.lt); have dQ := cQ.same (hb2.block _ cQ.lt); have p0 := dP.cell 0; have p1 := dP.cell 1; have p2 := dP.cell 2; have q0 := dQ.cell 0; have q1 := dQ.cell 1; have q2 := dQ.cell 2; simp at p0 p1 p2 q0 q1 q2)
    | (go_at_call 24; refine (hcb w2).mono ?_; rintro e w3 ⟨rfl, hb3⟩; clear p0 p1 p2 q0 q1 q2; have hB3 := bmk' (bup' hB2 hb3) (.cells #[.int .i64 lc, .int .i64 lp, .int .i64 pb] 52); have eP := (dP.same (hb3.block _ dP.lt)).alloc (.cells #[.int .i64 lc, .int .i64 lp, .int .i64 pb] 52); have eQ := (dQ.same (hb3.block _ dQ.lt)).alloc (.cells #[.int .i64 lc, .int .i64 lp, .int .i64 pb] 52); have p0 := eP.cell 0; have p1 := eP.cell 1; have p2 := eP.cell 2; have q0 := eQ.cell 0; have q1 := eQ.cell 1; have q2 := eQ.cell 2; simp at p0 p1 p2 q0 q1 q2)
    | (go_at_call 13; refine (fixed_any _ (hl.below hB3)).mono ?_; rintro e w4 ⟨rfl, hb4⟩))
  go_ret
  exact ⟨rfl, bup' hB3 hb4⟩
set_option maxHeartbeats 4000000 in
theorem back_two (lc lp pb lc2 lp2 pb2 : Int) (h : okP lc lp pb) (h2 : okP lc2 lp2 pb2) (w : World) (hl : Laid w) : Calls Tryd.prog 9 #[.agg #[.int .i64 lc, .int .i64 lp, .int .i64 pb], .agg #[.int .i64 lc2, .int .i64 lp2, .int .i64 pb2]] w fun e w' => e = .returned (.bool true) ∧ Below w.heap.size w w' := by
  obtain ⟨k, e1, e2, e3, e4, e5, e6⟩ := byteOf_back h
  have hcp := PropsByte_yes lc lp pb h
  have hcq := PropsByte_yes lc2 lp2 pb2 h2
  have hcb := ByteProps_ok k (by omega) e3
  unfold P3 at hcb
  have key : (byteOf lc2 lp2 pb2 = (k : Int) ∧ lc = lc2 ∧ lp = lp2 ∧ pb = pb2) ∨ (∃ B : Int, byteOf lc2 lp2 pb2 = B ∧ ((k : Int) == B) = false ∧ decide (lc = lc2 ∧ lp = lp2 ∧ pb = pb2) = false) := by
    by_cases e : byteOf lc2 lp2 pb2 = (k : Int)
    · exact .inl ⟨e, byteOf_inj h h2 (e1.trans e.symm)⟩
    · refine .inr ⟨_, rfl, by simpa using fun hh => e hh.symm, decide_eq_false ?_⟩
      rintro ⟨rfl, rfl, rfl⟩
      exact e e1
  rw [e1] at hcp
  rw [e4, e5, e6] at hcb
  have k1 : ¬ ((k : Int) < 0) := by omega
  have k2 : ¬ ((224 : Int) < (k : Int)) := by omega
  clear e1 e2 e3 e4 e5 e6 h h2
  rcases key with ⟨hk, rfl, rfl, rfl⟩ | ⟨B, hB, hne, hd⟩
  · rw [hk] at hcq
    clear hk
    have he : ∀ (a b c a' b' c' : Int) (w : World), (Op.equalIn 10000 52 (.agg #[.int .i64 a, .int .i64 b, .int .i64 c]) (.agg #[.int .i64 a', .int .i64 b', .int .i64 c'])).run Tryd.prog w = .ok (decide (a = a' ∧ b = b' ∧ c = c')) w := eq52t
    obtain ⟨w0, hw0⟩ : ∃ w0, ((w.alloc (.cells #[.int .i64 lc, .int .i64 lp, .int .i64 pb] 52)).alloc (.cells #[.int .i64 lc, .int .i64 lp, .int .i64 pb] 52)) = w0 := ⟨_, rfl⟩
    have hB0 : Below w.heap.size w w0 := hw0 ▸ bmk' (bmk' (Below.refl _ _) _) _
    have bP : Blk w0 w.heap.size 52 #[.int .i64 lc, .int .i64 lp, .int .i64 pb] := hw0 ▸ (Blk.new _ _ _).alloc _
    have bQ : Blk w0 (w.heap.size + 1) 52 #[.int .i64 lc, .int .i64 lp, .int .i64 pb] := by
      have := Blk.new (w.alloc (.cells #[.int .i64 lc, .int .i64 lp, .int .i64 pb] 52)) 52 #[.int .i64 lc, .int .i64 lp, .int .i64 pb]
      rw [hw0] at this
      simpa using this
    have p0 := bP.cell 0; have p1 := bP.cell 1; have p2 := bP.cell 2
    have q0 := bQ.cell 0; have q1 := bQ.cell 1; have q2 := bQ.cell 2
    simp at p0 p1 p2 q0 q1 q2
    go_enter Tryd.func9, Tryd.ntmps9
    go_wp2_with (first
      | (go_at_call 22; (first | rw [hw0] | skip); with_reducible refine (hcp w0).mono ?_; rintro e w1 ⟨rfl, hb1⟩; clear p0 p1 p2 q0 q1 q2 hw0; have hB1 := bup' hB0 hb1; have cP := bP.same (hb1.block _ bP.lt); have cQ := bQ.same (hb1.block _ bQ.lt); have p0 := cP.cell 0; have p1 := cP.cell 1; have p2 := cP.cell 2; have q0 := cQ.cell 0; have q1 := cQ.cell 1; have q2 := cQ.cell 2; simp at p0 p1 p2 q0 q1 q2)
      | (go_at_call 22; with_reducible refine (hcq w1).mono ?_; rintro e w2 ⟨rfl, hb2⟩; clear p0 p1 p2 q0 q1 q2; have hB2 := bup' hB1 hb2; have dP := cP.same (hb2.block _ cP.lt); have dQ := cQ.same (hb2.block _ cQ.lt); have p0 := dP.cell 0; have p1 := dP.cell 1; have p2 := dP.cell 2; have q0 := dQ.cell 0; have q1 := dQ.cell 1; have q2 := dQ.cell 2; simp at p0 p1 p2 q0 q1 q2)
      | (go_at_call 24; refine (hcb w2).mono ?_; rintro e w3 ⟨rfl, hb3⟩; clear p0 p1 p2 q0 q1 q2; have hB3 := bmk' (bup' hB2 hb3) (.cells #[.int .i64 lc, .int .i64 lp, .int .i64 pb] 52); have eP := (dP.same (hb3.block _ dP.lt)).alloc (.cells #[.int .i64 lc, .int .i64 lp, .int .i64 pb] 52); have eQ := (dQ.same (hb3.block _ dQ.lt)).alloc (.cells #[.int .i64 lc, .int .i64 lp, .int .i64 pb] 52); have p0 := eP.cell 0; have p1 := eP.cell 1; have p2 := eP.cell 2; have q0 := eQ.cell 0; have q1 := eQ.cell 1; have q2 := eQ.cell 2; simp at p0 p1 p2 q0 q1 q2)
      | (go_at_call 13; refine (fixed_any _ (hl.below hB3)).mono ?_; rintro e w4 ⟨rfl, hb4⟩))
    go_ret
    exact ⟨rfl, bup' hB3 hb4⟩
  · rw [hB] at hcq
    clear hB
    have hne' : ¬ ((k : Int) = B) := by simpa using hne
    have he : ∀ (a b c a' b' c' : Int) (w : World), (Op.equalIn 10000 52 (.agg #[.int .i64 a, .int .i64 b, .int .i64 c]) (.agg #[.int .i64 a', .int .i64 b', .int .i64 c'])).run Tryd.prog w = .ok (decide (a = a' ∧ b = b' ∧ c = c')) w := eq52t
    obtain ⟨w0, hw0⟩ : ∃ w0, ((w.alloc (.cells #[.int .i64 lc, .int .i64 lp, .int .i64 pb] 52)).alloc (.cells #[.int .i64 lc2, .int .i64 lp2, .int .i64 pb2] 52)) = w0 := ⟨_, rfl⟩
    have hB0 : Below w.heap.size w w0 := hw0 ▸ bmk' (bmk' (Below.refl _ _) _) _
    have bP : Blk w0 w.heap.size 52 #[.int .i64 lc, .int .i64 lp, .int .i64 pb] := hw0 ▸ (Blk.new _ _ _).alloc _
    have bQ : Blk w0 (w.heap.size + 1) 52 #[.int .i64 lc2, .int .i64 lp2, .int .i64 pb2] := by
      have := Blk.new (w.alloc (.cells #[.int .i64 lc, .int .i64 lp, .int .i64 pb] 52)) 52 #[.int .i64 lc2, .int .i64 lp2, .int .i64 pb2]
      rw [hw0] at this
      simpa using this
    have p0 := bP.cell 0; have p1 := bP.cell 1; have p2 := bP.cell 2
    have q0 := bQ.cell 0; have q1 := bQ.cell 1; have q2 := bQ.cell 2
    simp at p0 p1 p2 q0 q1 q2
    go_enter Tryd.func9, Tryd.ntmps9
    go_wp2_with (first
      | (go_at_call 22; (first | rw [hw0] | skip); with_reducible refine (hcp w0).mono ?_; rintro e w1 ⟨rfl, hb1⟩; clear p0 p1 p2 q0 q1 q2 hw0; have hB1 := bup' hB0 hb1; have cP := bP.same (hb1.block _ bP.lt); have cQ := bQ.same (hb1.block _ bQ.lt); have p0 := cP.cell 0; have p1 := cP.cell 1; have p2 := cP.cell 2; have q0 := cQ.cell 0; have q1 := cQ.cell 1; have q2 := cQ.cell 2; simp at p0 p1 p2 q0 q1 q2)
      | (go_at_call 22; with_reducible refine (hcq w1).mono ?_; rintro e w2 ⟨rfl, hb2⟩; clear p0 p1 p2 q0 q1 q2; have hB2 := bup' hB1 hb2; have dP := cP.same (hb2.block _ cP.lt); have dQ := cQ.same (hb2.block _ cQ.lt); have p0 := dP.cell 0; have p1 := dP.cell 1; have p2 := dP.cell 2; have q0 := dQ.cell 0; have q1 := dQ.cell 1; have q2 := dQ.cell 2; simp at p0 p1 p2 q0 q1 q2)
      | (go_at_call 24; refine (hcb w2).mono ?_; rintro e w3 ⟨rfl, hb3⟩; clear p0 p1 p2 q0 q1 q2; have hB3 := bmk' (bup' hB2 hb3) (.cells #[.int .i64 lc, .int .i64 lp, .int .i64 pb] 52); have eP := (dP.same (hb3.block _ dP.lt)).alloc (.cells #[.int .i64 lc, .int .i64 lp, .int .i64 pb] 52); have eQ := (dQ.same (hb3.block _ dQ.lt)).alloc (.cells #[.int .i64 lc, .int .i64 lp, .int .i64 pb] 52); have p0 := eP.cell 0; have p1 := eP.cell 1; have p2 := eP.cell 2; have q0 := eQ.cell 0; have q1 := eQ.cell 1; have q2 := eQ.cell 2; simp at p0 p1 p2 q0 q1 q2)
      | (go_at_call 13; refine (fixed_any _ (hl.below hB3)).mono ?_; rintro e w4 ⟨rfl, hb4⟩))
    go_ret
    exact ⟨rfl, bup' hB3 hb4⟩
theorem back_law (lc lp pb lc2 lp2 pb2 : Int) (w : World) (hl : Laid w) : Calls Tryd.prog 9 #[.agg #[.int .i64 lc, .int .i64 lp, .int .i64 pb], .agg #[.int .i64 lc2, .int .i64 lp2, .int .i64 pb2]] w fun e w' => e = .returned (.bool true) ∧ Below w.heap.size w w' := by
  by_cases h : okP lc lp pb
  · by_cases h2 : okP lc2 lp2 pb2
    · exact back_two _ _ _ _ _ _ h h2 w hl
    · exact back_one _ _ _ _ _ _ h h2 w hl
  · exact back_no _ _ _ _ _ _ h w hl
end Go.Proofs.YtchoiedgnmhjeaaDoor
