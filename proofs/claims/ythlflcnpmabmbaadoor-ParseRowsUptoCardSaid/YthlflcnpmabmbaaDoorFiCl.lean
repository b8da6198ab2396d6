/-
  slices.Clone of bytes. Conditions: the bytes lie in memory.
-/
import Derived.Test.YthlflcnpmabmbaaDoorFiRng
import Derived.Lib.SliceRun
import Derived.Lib.Hide
namespace Go.Proofs.YthlflcnpmabmbaaDoor
open Go.RowKit
attribute [local go_sem] Oper.semAt_some
set_option maxRecDepth 100000
theorem Clone_any (A : Option Addr) (m c : Nat) (l : List UInt8) (w : World) (h : In w A m l) (h0 : m = 0 → A = none ∧ c = 0 ∨ ∃ a, A = some a) :
    Calls Tryd.prog 55 #[.slice A m c] w fun e w' => ∃ O oc, e = .returned (.slice O m oc) ∧ w'.ownsRow w.heap.size 5 1 (.slice O m oc) m (bys l) ∧ Below w.heap.size w w' := by
  have H := Lib.hid h
  obtain ⟨b, hb⟩ : ∃ b : Bool, A.isNone = b := ⟨_, rfl⟩
  cases A with
  | none =>
    have hm : m = 0 := by
      rcases Nat.eq_zero_or_pos m with h1 | h1
      · exact h1
      · obtain ⟨_, e, _⟩ := h.1.2 h1; cases e
    subst hm
    have hl : l = [] := List.eq_nil_of_length_eq_zero h.len
    subst hl
    have hc : c = 0 := by
      rcases h0 rfl with ⟨_, h⟩ | ⟨_, h⟩
      · exact h
      · cases h
    subst hc
    have hq : ∀ w : World, (binOp .eql 34 (.slice none 0 0) (.slice none 0 0)).run Tryd.prog w = .ok (.bool true) w := fun w => Lib.run_eql_slice_nil w 34 5 none 0 0 0 0 Tryd.underlying34
    go_enter Tryd.func55, Tryd.ntmps55
    go_wp2_with fail
    go_ret
    exact ⟨none, 0, rfl, World.ownsRow_nil _ _ _ _, Below.refl _ _⟩
  | some a =>
    clear h h0 hb
    have hq : ∀ w : World, (binOp .eql 34 (.slice (some a) m c) (.slice none 0 0)).run Tryd.prog w = .ok (.bool false) w := fun w => Lib.run_eql_slice_nil w 34 5 (some a) m c 0 0 Tryd.underlying34
    go_enter Tryd.func55, Tryd.ntmps55
    go_wp2_with (at_builtin; refine wpList_fresh rfl (.tmp 5) (.tmp 6) rfl w.heap.size rfl rfl (some a) m c l rfl H.out ?_; intro a1 c1 w1 hF; have H1 := Lib.hid hF; clear hF)
    go_ret
    exact ⟨a1, c1, rfl, H1.out.1, H1.out.2⟩
end Go.Proofs.YthlflcnpmabmbaaDoor
