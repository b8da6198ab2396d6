/-
  Walk of known: what the document fixes holds. No condition.
-/
import Derived.Test.YtllhmgnhnbnbiaaFiAll
import Derived.Laws.StructEq
import Derived.Lib.SlBytesConst
namespace Go.Proofs.Ytllhmgnhnbnbiaa
open Go.RowKit Go.Shelf
attribute [local go_sem] Oper.semAt_some
set_option maxRecDepth 100000

theorem eqM (a b c d : Int) (w : World) : (Op.equalIn 10000 30 (.agg #[.int .i64 a, .int .i64 b]) (.agg #[.int .i64 c, .int .i64 d])).run Try.prog w = .ok (decide (a = c ∧ b = d)) w := by
  rw [run_equalIn_struct w 9999 30 _ _ (by kernel_rfl) (by kernel_rfl)]
  have hf : (Try.prog.fieldsOf 30).toList = [⟨"Len", 3, 0, false, "", "", 0⟩, ⟨"Dist", 3, 1, false, "", "", 8⟩] := by kernel_rfl
  rw [hf]
  have h3 : ∀ (x y : Int), (Op.equalIn 9999 3 (.int .i64 x) (.int .i64 y)).run Try.prog w = .ok (x == y) w := fun x y => run_equalIn_int w 9998 3 .i64 .i64 x y Try.underlying3
  have p0 : ∀ x y : Int, (part 3 #[.int .i64 x, .int .i64 y] 0).run Try.prog w = .ok (.int .i64 x) w := fun x y => by simp [part, isAgg, run_underlying Try.underlying3]
  have p1 : ∀ x y : Int, (part 3 #[.int .i64 x, .int .i64 y] 1).run Try.prog w = .ok (.int .i64 y) w := fun x y => by simp [part, isAgg, run_underlying Try.underlying3]
  by_cases e0 : a = c <;> by_cases e1 : b = d <;> simp [Op.eqFields, h3, p0, p1, e0, e1]
def kdat : List UInt8 := [97, 98, 99, 97, 98, 99, 97, 98, 99, 100]
theorem k273 : bestL (mats kdat 4096 3 273) = (6, 3) := by decide +kernel
theorem k4 : bestL (mats kdat 4096 3 4) = (4, 3) := by decide +kernel
def kcs : Array Value := #[.int .u8 97, .int .u8 98, .int .u8 99, .int .u8 97, .int .u8 98, .int .u8 99, .int .u8 97, .int .u8 98, .int .u8 99, .int .u8 100]
theorem kin (w : World) : In (w.alloc (.cells kcs 5 (10, 11))) (some ⟨w.heap.size, 0, none⟩) 10 kdat := by
  have hh : (w.alloc (.cells kcs 5 (10, 11))).heap[w.heap.size]? = some (.cells kcs 5 (10, 11)) := heap_alloc_new w _
  refine ⟨⟨rfl, fun _ => ⟨_, rfl, fun j u hu => ?_⟩⟩, fun _ ad had => ?_, by omega⟩
  · have h1 := cell_of_row _ w.heap.size j kcs 5 (10, 11) hh
    have h2 : (⟨w.heap.size, 0, none⟩ : Addr).add j = ⟨w.heap.size, j, none⟩ := by
      unfold Addr.add
      split
      · rename_i h; rw [h]
      · simp
    rw [h2, h1]
    have h3 : kcs.toList = bys kdat := rfl
    rw [← h3] at hu
    simpa using hu
  · cases had
    simp
/-- Skip that goes on: the finder behind it -/
theorem Skip_go (p : FP) (pos n : Nat) (w : World) (h : Fi p pos w) (hn : pos + n ≤ p.l.length) (hl : p.l.length ≤ 1073741824) : Calls Try.prog 11 #[.pointer (some ⟨p.fb, 0, none⟩), .int .i64 n] w fun en w' => en = .returned (.int .i64 0) ∧ Fi p (pos + n) w' ∧ Fr (fun g => g = p.fb) w w' := by
  refine (Skip_yes p pos n w h hn hl).mono ?_
  rintro e w' ⟨h1, k, rfl⟩
  have h2 : Fi p pos (w.drewN k) := h.keep (fun g _ _ => rfl) (Nat.le_refl _)
  exact ⟨h1, h2.pos, ((Fr.refl (fun g => g = p.fb) w).drewN k).setCell (p := ⟨p.fb, 2, none⟩) (.inl rfl) _⟩
set_option maxHeartbeats 4000000 in
theorem known_any (w : World) : Calls Try.prog 12 #[] w fun e w' => e = .returned (.bool true) ∧ Below w.heap.size w w' := by
  have HN := Lib.hid (New_ok (some ⟨w.heap.size, 0, none⟩) 10 10 kdat 4096 _ (kin w) (fun h => by cases h) (Nat.le_refl _) (by omega) (by omega))
  have hsn := seq_nil
  have hq := eqM
  have hcv := Lib.run_convert_bytes_const (P := Try.prog) w 22 5 kcs 10 10 Try.underlying22 Try.underlying5
  have hbk : Below w.heap.size w (w.alloc (.cells kcs 5 (10, 11))) := (Below.refl _ _).alloc (Nat.le_refl _) _
  have HBk := Lib.hid hbk
  clear hbk
  unfold kcs at hcv HN HBk
  simp only [List.size_toArray, List.length_cons, List.length_nil, Nat.reduceAdd] at hcv
  go_enter Try.func12, Try.ntmps12
  go_wp2_with fail
  refine HN.out.mono ?_
  rintro e w1 ⟨p, rfl, hl, hdc, hL, hT, hF, hb1⟩
  have Hl := Lib.hid hl
  have Hdc := Lib.hid hdc
  have HF := Lib.hid hF
  have Hb1 := Lib.hid hb1
  have HfL : Hid (w.heap.size ≤ p.fb) := by have h1 := hF.fs.1; rw [hL] at h1; simp at h1; show w.heap.size ≤ p.fb; omega
  clear hl hdc hL hT hF hb1 HN
  go_wp2_with fail
  refine (num_any 0 _).mono ?_
  rintro e w2 ⟨rfl, rfl⟩
  go_wp2_with fail
  refine (Skip_go p 0 3 _ HF.out (by rw [Hl.out]; decide) (by rw [Hl.out]; decide)).mono ?_
  rintro e w3 ⟨rfl, hF3, hr3⟩
  have HF3 := Lib.hid hF3
  have HB3 : Hid (Below w.heap.size w w3) := ((HBk.out.trans (Hb1.out.mono (by simp))).trans (hr3.below (bup HBk.out Hb1.out).size (fun k e => by have := HfL.out; omega)))
  clear hF3 hr3
  go_wp2_with fail
  refine (num_any 0 _).mono ?_
  rintro e w4 ⟨rfl, rfl⟩
  go_wp2_with fail
  refine (Matches_any p.fb 273 _).mono ?_
  rintro e w5 ⟨rfl, rfl⟩
  have hb5 : Below w4.heap.size w4 ((w4.alloc (.cells #[.pointer (some ⟨p.fb, 0, none⟩)] 23)).alloc (.cells #[.int .i64 273] 3)) := ((Below.refl _ _).alloc (Nat.le_refl _) _).alloc (by simp) _
  have HB5 := Lib.hid (bup HB3.out hb5)
  have HF5 := Lib.hid (HF3.out.below hb5)
  clear hb5
  go_wp2_with fail
  refine (Best_any p 3 273 _ HF5.out (by rw [Hl.out]; decide) (by rw [Hl.out]; decide) (by rw [Hdc.out]; decide)).mono ?_
  rintro e w6 ⟨rfl, hb6⟩
  rw [Hl.out, Hdc.out, k273]
  have HB6 := Lib.hid (bup HB5.out hb6)
  have HF6 := Lib.hid (HF5.out.below hb6)
  clear hb6
  unfold mV
  go_wp2_with fail
  refine (Best_any p 3 4 _ HF6.out (by rw [Hl.out]; decide) (by rw [Hl.out]; decide) (by rw [Hdc.out]; decide)).mono ?_
  rintro e w7 ⟨rfl, hb7⟩
  rw [Hl.out, Hdc.out, k4]
  have HB7 := Lib.hid (bup HB6.out hb7)
  clear hb7
  unfold mV
  go_wp2_with fail
  go_ret
  exact ⟨rfl, HB7.out⟩
end Go.Proofs.Ytllhmgnhnbnbiaa
