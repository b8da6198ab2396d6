/-
  The closed statement Names: each constant of api has the number that the document says. No condition.
-/
import Derived.Test.YtcjpehfkphgmoaaRows
import Derived.Test.YtcjpehfkphgmoaaChecked
import Derived.Test.YtcjpehfkphgmoaaMem
import Derived.WalkKit
import Derived.WalkSpells
import Derived.WalkLawsBesides
import Derived.Deep.QuietTactic
import Derived.BigQuiet
import Derived.ProofKit
import Derived.OpenShut
import Derived.ChangeOld
import Derived.SizedLaws
import Derived.ChangeSame
namespace Go.Proofs.Ytcjpehfkphgmoaa.names
open Go.ChangeShapes Go.WideShapes Go.ChangeAt Go.RowKit

def iarr (l : List Int) : Array Value := (l.map (Value.int .i64)).toArray
theorem iarr_get (l : List Int) (i : Nat) (h : i < l.length) : ∃ x, (iarr l)[i]? = some (.int .i64 x) := ⟨l[i], by simp [iarr, h]⟩
theorem alike_any (a b : Nat) (l : List Int) (n : Nat) (w : World) (hn : l.length = n) (hle : n ≤ 1000) (ha : Blk w a 3 (iarr l)) (hb : Blk w b 3 (iarr l)) :
    Calls Try.prog 6 #[.slice (some ⟨a, 0, none⟩) n n, .slice (some ⟨b, 0, none⟩) n n] w fun e w' => e = .returned (.bool true) ∧ ∃ k, w' = w.drewN k := by
  have Hn := Lib.hid hn
  clear hn
  go_enter Try.func6, Try.ntmps6
  go_wp2_with fail
  go_loopw [5] (fun s5 wr => ∃ i k : Nat, s5 = .int .i64 (i : Int) ∧ i ≤ n ∧ wr = w.drewN k) (fun s5 _ => n - (intOf s5).toNat)
  case atStart => exact ⟨0, 0, rfl, Nat.zero_le _, rfl⟩
  case round =>
    obtain ⟨i, k, rfl, hi, rfl⟩ := hrel
    by_cases hin : i < n
    · have hin' : (i : Int) < (n : Int) := by omega
      obtain ⟨x, hx⟩ := iarr_get l i (by rw [Hn.out]; exact hin)
      have q0 : (w.drewN k).cell? ⟨a, i, none⟩ = some (.int .i64 x) := (ha.drewN k).cell_ i hx
      have q1 : (w.drewN k).cell? ⟨b, i, none⟩ = some (.int .i64 x) := (hb.drewN k).cell_ i hx
      clear hx
      obtain ⟨wq, hwq⟩ : ∃ wq, w.drewN k = wq := ⟨_, rfl⟩
      rw [hwq] at q0 q1 ⊢
      have Hwq := Lib.hid hwq
      clear hwq
      go_wp2_with fail
      go_quiet (fail)
      go_wp2_with fail
      go_roundw
      case rel => exact ⟨i + 1, k + nq, by go_num, by omega, by rw [← Hwq.out, World.drewN_drewN]⟩
      case measure => simp [intOf]; omega
    · obtain rfl : i = n := by omega
      go_wp2_with fail
      go_ret
      exact ⟨rfl, k, rfl⟩
def errs : List Int := [0, 1, 2, 3, 4, 5, 6, 7, 8, 9, 10]
def nums : List Int := [2147483648, 2147483648, 4096, 67108864, 4294967295, 256, 9223372036854775807, 2097152, 65536, 65536, 65536, 2, 273, 32, 4, 12, 16, 4096, 255, 65536, 0, 1, 4, 10, 3, 33, 1, 2, 3, 4, 0, 1, 2, 3, 4, 5, 6, 0, 1, 2, 0, 1, 2, 1, 2, 3]
def errsA : Array Value := #[.int .i64 0, .int .i64 1, .int .i64 2, .int .i64 3, .int .i64 4, .int .i64 5, .int .i64 6, .int .i64 7, .int .i64 8, .int .i64 9, .int .i64 10]
def numsA : Array Value := #[.int .i64 2147483648, .int .i64 2147483648, .int .i64 4096, .int .i64 67108864, .int .i64 4294967295, .int .i64 256, .int .i64 9223372036854775807, .int .i64 2097152, .int .i64 65536, .int .i64 65536, .int .i64 65536, .int .i64 2, .int .i64 273, .int .i64 32, .int .i64 4, .int .i64 12, .int .i64 16, .int .i64 4096, .int .i64 255, .int .i64 65536, .int .i64 0, .int .i64 1, .int .i64 4, .int .i64 10, .int .i64 3, .int .i64 33, .int .i64 1, .int .i64 2, .int .i64 3, .int .i64 4, .int .i64 0, .int .i64 1, .int .i64 2, .int .i64 3, .int .i64 4, .int .i64 5, .int .i64 6, .int .i64 0, .int .i64 1, .int .i64 2, .int .i64 0, .int .i64 1, .int .i64 2, .int .i64 1, .int .i64 2, .int .i64 3]
theorem errsA_eq : errsA = iarr errs := by kernel_rfl
theorem numsA_eq : numsA = iarr nums := by kernel_rfl
theorem errors_any (w : World) : Calls Try.prog 4 #[] w fun e w' => e = .returned (.tuple #[.slice (some ⟨w.heap.size, 0, none⟩) 11 11, .slice (some ⟨w.heap.size + 1, 0, none⟩) 11 11]) ∧
    w' = (w.alloc (.cells errsA 3)).alloc (.cells errsA 3) := by
  go_enter Try.func4, Try.ntmps4
  go_wp2
  go_ret2
  exact ⟨rfl, rfl⟩
set_option maxHeartbeats 4000000 in
theorem numbers_any (w : World) : Calls Try.prog 5 #[] w fun e w' => e = .returned (.tuple #[.slice (some ⟨w.heap.size, 0, none⟩) 46 46, .slice (some ⟨w.heap.size + 1, 0, none⟩) 46 46]) ∧
    w' = (w.alloc (.cells numsA 3)).alloc (.cells numsA 3) := by
  go_enter Try.func5, Try.ntmps5
  go_wp2
  go_ret2
  exact ⟨rfl, rfl⟩
theorem law (w : World) : Calls Try.prog 3 #[] w fun e w' => e = .returned (.bool true) ∧ Below w.heap.size w w' := by
  go_enter Try.func3, Try.ntmps3
  go_wp2_with fail
  refine (errors_any w).mono ?_
  rintro e w1 ⟨rfl, hw1⟩
  rw [errsA_eq] at hw1
  have hb1 : Below w.heap.size w w1 := hw1 ▸ ((Below.refl _ w).alloc (Nat.le_refl _) _).alloc (by simp) _
  have ha0 : Blk w1 w.heap.size 3 (iarr errs) := hw1 ▸ (Blk.new w _ _).alloc _
  have ha1 : Blk w1 (w.heap.size + 1) 3 (iarr errs) := by
    have := Blk.new (w.alloc (.cells (iarr errs) 3)) 3 (iarr errs)
    rw [← hw1] at this
    simpa using this
  have hz1 : w1.heap.size = w.heap.size + 2 := by rw [hw1]; simp
  have Hz1 := Lib.hid hz1
  clear hw1 hz1
  go_wp2_with fail
  refine (numbers_any w1).mono ?_
  rintro e w2 ⟨rfl, hw2⟩
  rw [numsA_eq] at hw2
  have hb2 : Below w1.heap.size w1 w2 := hw2 ▸ ((Below.refl _ w1).alloc (Nat.le_refl _) _).alloc (by simp) _
  have hc0 : Blk w2 w1.heap.size 3 (iarr nums) := hw2 ▸ (Blk.new w1 _ _).alloc _
  have hc1 : Blk w2 (w1.heap.size + 1) 3 (iarr nums) := by
    have := Blk.new (w1.alloc (.cells (iarr nums) 3)) 3 (iarr nums)
    rw [← hw2] at this
    simpa using this
  clear hw2
  go_wp2_with fail
  refine (alike_any w.heap.size (w.heap.size + 1) errs 11 w2 rfl (by omega) (ha0.below hb2) (ha1.below hb2)).mono ?_
  rintro e w3 ⟨rfl, k, rfl⟩
  go_wp2_with fail
  refine (alike_any w1.heap.size (w1.heap.size + 1) nums 46 (w2.drewN k) rfl (by omega) (hc0.drewN k) (hc1.drewN k)).mono ?_
  rintro e w3 ⟨rfl, k2, rfl⟩
  go_wp2
  go_ret
  exact ⟨rfl, below_drewN (hb1.trans (hb2.mono hb1.size)) _⟩
theorem own_ : ownKnob Try.prog.godebug = none := by kernel_rfl
theorem laidOut_ : laidOutB Try.prog = true := by kernel_rfl
set_option maxRecDepth 100000 in
theorem lifted (os : Os) (started : os.Started) (H : Type) (enc : TypeId × Value → H) :
    ReturnsInHanded {} Try.checked os 3 .any (Rows.namesSpec.pre6 enc Try.prog Try.f3 Rows.namesRow.domain false) (Rows.namesSpec.post enc Try.prog Try.f3 false true false false) := by
  refine returnsInHanded_of_change_sized (C := Try.checked) own_ started (by kernel_rfl) Try.func3
    (ChangeSpec.witness6 (enc := enc) (C := Try.checked) false ⟨#[], #[], []⟩ 8 (by kernel_rfl) (by kernel_rfl) (by kernel_rfl) (by kernel_rfl)) ?_
  intro W base args ds gs before _ hW _ _ _
  have hW' := hW
  obtain ⟨p, q, hA0, hV, rfl, hfz, hnd⟩ := hW
  have hA : DataW.TrodAll enc Try.prog W 0 (fun _ => true) true Try.f3.params.toList args.toList ds p := hA0
  rw [Try.params3] at hA
  obtain ⟨rfl, rfl⟩ := trodVars_none hV
  obtain ⟨rfl, rfl, rfl⟩ : args = #[] ∧ ds = [] ∧ p = [] := by
    obtain ⟨args⟩ := args
    cases args <;> cases ds <;> simp_all [DataW.TrodAll]
  clear hA0
  simp only [List.append_nil] at hW'
  refine (law W).mono fun e W' ⟨he, bel⟩ => ?_
  subst he
  exact ⟨_, rfl, _, _, _, [], _, [], hW', trodAll_mk1 (shut_bool Try.underlying4 _), trodAll_mk0, rfl, bel.frame _, fun h => by cases h⟩
theorem proved : Rows.NamesSaid :=
  OpenClaim.holds_of_wide 3 Try.f3 rfl rfl rfl rfl rfl rfl rfl ⟨rfl, rfl, rfl, rfl, rfl⟩ rfl rfl rfl rfl rfl (by kernel_rfl) Try.func3 (by kernel_rfl)
    (of_decide_eq_true (by kernel_rfl)) (by unfold Func.isWrapper; first | (rw [if_pos (by decide +kernel)]; kernel_rfl) | (rw [if_neg (by decide +kernel)]; exact ⟨rfl, rfl⟩))
    (fun os started H enc _ => lifted os started H enc)
#print axioms proved
end Go.Proofs.Ytcjpehfkphgmoaa.names
