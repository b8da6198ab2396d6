/-
  Cuts that are not legal: the document's Cut and Pieces, the iterator of Pieces. Conditions: the boxes lie in memory.
-/
import Derived.Test.YtglkahonejblpaaPcsI
namespace Go.Proofs.Ytglkahonejblpaa
open Go.RowKit Go.Shelf

theorem Legal_bad (least most bits : Int) (w : World) (h : ¬ CutsOk least most bits) : Calls Try.prog 25 #[.agg #[.int .i64 least, .int .i64 most, .int .i64 bits]] w fun e w' => e = .returned (.int .i64 6) ∧ Below w.heap.size w w' := by
  have := Legal_any least most bits w
  rw [if_neg h] at this
  exact this
theorem RCut_no (A : Option Addr) (m c : Nat) (least most bits : Int) (w : World) (h : ¬ CutsOk least most bits) :
    Calls Try.prog 24 #[.slice A m c, .agg #[.int .i64 least, .int .i64 most, .int .i64 bits]] w fun e w' => e = .returned (.tuple #[.slice none 0 0, .int .i64 6]) ∧ Below w.heap.size w w' := by
  have HL := Lib.hid (RLegal_any least most bits (w.alloc (.cells #[.int .i64 least, .int .i64 most, .int .i64 bits] 23)))
  rw [if_neg h] at HL
  go_enter Try.func24, Try.ntmps24
  go_wp2_with fail
  refine HL.out.mono ?_
  rintro e w1 ⟨rfl, hb1⟩
  have Hb : Hid (Below w.heap.size w w1) := bup ((Below.refl _ _).alloc (Nat.le_refl _) _) hb1
  clear hb1 HL
  go_wp2_with fail
  go_ret2
  exact ⟨rfl, Hb.out⟩
theorem RPieces_no (A : Option Addr) (m c : Nat) (least most bits : Int) (w : World) (h : ¬ CutsOk least most bits) :
    Calls Try.prog 29 #[.slice A m c, .agg #[.int .i64 least, .int .i64 most, .int .i64 bits]] w fun e w' => e = .returned (.slice none 0 0) ∧ Below w.heap.size w w' := by
  have HL := Lib.hid (RCut_no A m c least most bits (w.alloc (.cells #[.int .i64 least, .int .i64 most, .int .i64 bits] 23)) h)
  go_enter Try.func29, Try.ntmps29
  go_wp2_with fail
  refine HL.out.mono ?_
  rintro e w1 ⟨rfl, hb1⟩
  have Hb : Hid (Below w.heap.size w w1) := bup ((Below.refl _ _).alloc (Nat.le_refl _) _) hb1
  clear hb1 HL
  go_wp2_with fail
  go_loopw [7, 9] (fun s7 s9 wr => s7 = .slice none 0 0 ∧ s9 = .int .i64 0 ∧ w1 = wr) (fun _ _ _ => 0)
  case atStart => exact ⟨rfl, rfl, rfl⟩
  case round =>
    obtain ⟨rfl, rfl, rfl⟩ := hrel
    go_wp2_with fail
    go_ret
    exact ⟨rfl, Hb.out⟩
theorem pieces1_no (n : Nat) (hn : 3 ≤ n) (lp cb ob : Nat) (least most bits : Int) (hok : ¬ CutsOk least most bits) (J : World → Prop) (W0 : World)
    (hC : Blk W0 cb 23 #[.int .i64 least, .int .i64 most, .int .i64 bits]) (h0 : ∀ W, Below W0.heap.size W0 W → J W) :
    CallsIn Fence.wide n Try.prog 34 #[.func (.yield lp) #[] #[], .pointer (some ⟨cb, 0, none⟩), .pointer (some ⟨ob, 0, none⟩)] W0 fun e W' => (∃ v, e = .returned v) ∧ J W' := by
  obtain ⟨W1, hW1⟩ : ∃ W1, W0.alloc (.cells #[.func (.yield lp) #[] #[]] 80) = W1 := ⟨_, rfl⟩
  have hb1 : Below W0.heap.size W0 W1 := by rw [← hW1]; exact (Below.refl _ _).alloc (Nat.le_refl _) _
  have hC1 := hC.below hb1
  obtain ⟨c0, c1, c2⟩ := hC1.three
  have hcW := hC1.lt
  have HL := Lib.hid (Legal_bad least most bits W1 hok)
  have Hb1 := Lib.hid hb1
  have H0 := Lib.hid h0
  have h1n : 1 ≤ n := by omega
  clear hC hC1 hb1 h0 hok
  refine callsIn_of_wp_marks Try.func34 rfl trivial ?_ rfl
  simp only [Try.ntmps34, List.size_toArray, List.length_cons, List.length_nil, Nat.reduceAdd, Nat.reduceSub, Array.replicate_succ, Array.replicate_zero, List.push_toArray, List.append_toArray, List.nil_append, List.cons_append]
  gi_wp2
  refine ⟨trivial, ?_⟩
  refine (callsIn_wide.2 HL.out).mono ?_
  rintro e w2 ⟨rfl, hb2⟩
  have HJ : Hid (J w2) := H0.out w2 (bup Hb1.out hb2)
  clear hb2
  gi_wp2
  exact ⟨.tuple #[], by simp [results, Try.results34, go_sem], ⟨_, rfl⟩, HJ.out⟩
end Go.Proofs.Ytglkahonejblpaa
