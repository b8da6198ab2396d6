/-
  Walks of Legal, slices.Clone, piece and Pieces. Conditions: the bytes lie in memory.
-/
import Derived.Test.YtglkahonejblpaaEndsL
import Derived.Test.YtglkahonejblpaaPage
import Derived.Lib.SliceRun
namespace Go.Proofs.Ytglkahonejblpaa
open Go.RowKit Go.Shelf

theorem Legal_ok (least most bits : Int) (w : World) (h : CutsOk least most bits) : Calls Try.prog 25 #[.agg #[.int .i64 least, .int .i64 most, .int .i64 bits]] w fun e w' => e = .returned (.int .i64 0) ∧ w' = w.alloc (.cells #[.int .i64 least, .int .i64 most, .int .i64 bits] 23) := by
  obtain ⟨h1, h2, h3, h4, h5⟩ := h
  go_enter Try.func25, Try.ntmps25
  go_wp2
  go_ret
  exact ⟨rfl, rfl⟩
theorem Clone_any (A : Option Addr) (m c : Nat) (l : List UInt8) (w : World) (h : In w A m l) (h0 : m = 0 → A = none ∧ c = 0 ∨ ∃ a, A = some a) :
    Calls Try.prog 33 #[.slice A m c] w fun e w' => ∃ O oc, e = .returned (.slice O m oc) ∧ w'.ownsRow w.heap.size 5 1 (.slice O m oc) m (bys l) ∧ Below w.heap.size w w' := by
  have H := Lib.hid h
  obtain ⟨b, hb⟩ : ∃ b : Bool, A.isNone = b := ⟨_, rfl⟩
  cases A with
  | none =>
    have hm : m = 0 := by
      rcases Nat.eq_zero_or_pos m with h1 | h1
      · exact h1
      · obtain ⟨_, e, _⟩ := h.1.2 h1; cases e
    subst hm
    have hl : l = [] := List.eq_nil_of_length_eq_zero h.len
    subst hl
    have hc : c = 0 := by
      rcases h0 rfl with ⟨_, h⟩ | ⟨_, h⟩
      · exact h
      · cases h
    subst hc
    have hq : ∀ w : World, (binOp .eql 32 (.slice none 0 0) (.slice none 0 0)).run Try.prog w = .ok (.bool true) w := fun w => Lib.run_eql_slice_nil w 32 5 none 0 0 0 0 Try.underlying32
    go_enter Try.func33, Try.ntmps33
    go_wp2_with fail
    go_ret
    exact ⟨none, 0, rfl, World.ownsRow_nil _ _ _ _, Below.refl _ _⟩
  | some a =>
    clear h h0 hb
    have hq : ∀ w : World, (binOp .eql 32 (.slice (some a) m c) (.slice none 0 0)).run Try.prog w = .ok (.bool false) w := fun w => Lib.run_eql_slice_nil w 32 5 (some a) m c 0 0 Try.underlying32
    go_enter Try.func33, Try.ntmps33
    go_wp2_with (at_builtin; refine wpList_fresh rfl (.tmp 5) (.tmp 6) rfl w.heap.size rfl rfl (some a) m c l rfl H.out ?_; intro a1 c1 w1 hF; have H1 := Lib.hid hF; clear hF)
    go_ret
    exact ⟨a1, c1, rfl, H1.out.1, H1.out.2⟩
theorem piece_any (A : Option Addr) (m c : Nat) (l : List UInt8) (w : World) (h : In w A m l) (hm : m ≤ 1099511627776) :
    Calls Try.prog 35 #[.slice A m c] w fun e w' => ∃ O oc, e = .returned (.slice O m oc) ∧ w'.ownsRow w.heap.size 5 1 (.slice O m oc) m (bys l) ∧ Below w.heap.size w w' := by
  obtain ⟨i0, hi0, hz0, hz1, hz2⟩ := info_parts infou8
  have H := Lib.hid h
  clear h
  go_enter Try.func35, Try.ntmps35
  go_wp2_with (first | (at_make; refine wpList_make_own w rfl (.const (.int .i64 0)) (.tmp 4) 32 rfl w.heap.size 5 i0 _ 1 Try.underlying32 hi0 hz0 hz1 .i64 .i64 (m : Int) m rfl rfl rfl (by rw [hz2]; omega) (by unfold maxLen; omega) (Nat.le_refl _) ?_; intro w1 hown1 hg1; have H1 := Lib.hid hown1; have Hg1 := Lib.hid hg1; have HI1 := Lib.hid (H.out.fr (S := fun _ => False) ((Fr.refl _ w).grown hg1 (fun g hg => by cases hg)) (fun _ _ _ e => e)); clear hown1 hg1) | (at_builtin; refine wpList_append_rd (w := w1) rfl (.tmp 5) (.tmp 6) 32 rfl w.heap.size 5 i0 _ 1 1 Try.underlying32 hi0 hz0 hz1 hz2 rfl (by decide) (.slice (some ⟨w.heap.size, 0, none⟩) 0 m) 0 [] rfl H1.out A m c (bys l) rfl HI1.out.1 (bys_one _) (by simp only [maxLen]; omega) (by omega) Hg1.out.size ?_; intro O oc w2 hown2 hg2 hat2; have H2 := Lib.hid hown2; have Hg2 := Lib.hid hg2; clear hown2 hg2 hat2))
  go_ret
  have h2 := H2.out
  simp only [Nat.zero_add, List.nil_append] at h2
  refine ⟨O, oc, by simp, h2, ?_⟩
  exact (((Fr.refl (fun _ => False) w).grown Hg1.out (fun g hg => by cases hg)).grown Hg2.out (fun g hg => .inr (own_lt H1.out hg).1)).below (Nat.le_refl _) (fun _ e => e.elim)
theorem Pieces_any (A : Option Addr) (m c : Nat) (l : List UInt8) (least most bits : Int) (w : World) (h : In w A m l) (h0 : m = 0 → A = none ∧ c = 0 ∨ ∃ a, A = some a) :
    Calls Try.prog 28 #[.slice A m c, .agg #[.int .i64 least, .int .i64 most, .int .i64 bits]] w fun e w' => ∃ (cb ob : Nat) (O : Option Addr) (oc : Nat), e = .returned (.func (.func 34) #[] #[.pointer (some ⟨cb, 0, none⟩), .pointer (some ⟨ob, 0, none⟩)]) ∧
      Blk w' cb 23 #[.int .i64 least, .int .i64 most, .int .i64 bits] ∧ Blk w' ob 32 #[.slice O m oc] ∧ w'.ownsRow w.heap.size 5 1 (.slice O m oc) m (bys l) ∧ w.heap.size ≤ cb ∧ w.heap.size ≤ ob ∧ Below w.heap.size w w' := by
  have H := Lib.hid (fun o => Clone_any A m c l (w.alloc o) (h.below ((Below.refl _ _).alloc (Nat.le_refl _) o)) h0)
  clear h h0
  go_enter Try.func28, Try.ntmps28
  go_wp2_with fail
  have hC := Blk.new w 23 #[.int .i64 least, .int .i64 most, .int .i64 bits]
  refine (H.out _).mono ?_
  rintro e w1 ⟨O, oc, rfl, hO, hb1⟩
  have hC1 := hC.below hb1
  have hO1 := hO.alloc (.cells #[.slice O m oc] 32)
  have hbw : Below w.heap.size w w1 := bup ((Below.refl _ _).alloc (Nat.le_refl _) _) hb1
  have HC1 := Lib.hid (hC1.alloc (.cells #[.slice O m oc] 32))
  have HO1 := Lib.hid hO1
  have HB := Lib.hid hbw
  clear hC hC1 hO hO1 hb1 hbw
  go_wp2_with fail
  go_ret
  exact ⟨w.heap.size, w1.heap.size, O, oc, rfl, HC1.out, Blk.new _ _ _, own_mono HO1.out (by simp), Nat.le_refl _, HB.out.size, bmk_ HB.out _⟩
end Go.Proofs.Ytglkahonejblpaa
