
/-
  Walks of a window's methods that only read, and New: what they answer, by the bytes that came. Conditions: the window's struct and ring as Win says.
-/
import Derived.Test.YtcfaocbdhfmhbaaChecked
import Derived.Test.YtcfaocbdhfmhbaaRing
import Derived.WalkKit
import Derived.WalkSpells
import Derived.WalkLawsBesides
import Derived.Deep.QuietTactic
import Derived.BigQuiet
import Derived.BigRegion
import Derived.Deep.LoopGhost
import Derived.Deep.RegionLaw
import Derived.Deep.RegionHeld3
import Derived.Deep.DeepCutAuto
namespace Go.Proofs.Ytcfaocbdhfmhbaa
open Go.RowKit

/-- a window: its struct at block b, its ring at r (none: no ring yet), of that size; all: the bytes that came -/
def Win (w : World) (B b : Nat) (r : Option Nat) (size : Nat) (all : List UInt8) : Prop :=
  ∃ (v : Value) (xs : List UInt8) (i : Nat), Blk w b 59 #[.int .i64 (size : Int), v, .int .i64 (i : Int), .int .i64 (all.length : Int)] ∧ w.ownsRow B 5 1 v xs.length (bys xs) ∧ v.ownBlock = r ∧ Ring size (lastN size all) xs i ∧ 1 ≤ size ∧ size ≤ 4294967295 ∧ B ≤ b
/-- how many bytes it holds -/
def full (size : Nat) (all : List UInt8) : Nat := min all.length size
section
variable {w w' : World} {B b size : Nat} {r : Option Nat} {all : List UInt8}
theorem Win.keep (h : Win w B b r size all) (hb : w'.heap[b]? = w.heap[b]?) (hr : ∀ g, r = some g → w'.heap[g]? = w.heap[g]?) : Win w' B b r size all := by
  obtain ⟨v, xs, i, h1, h2, h3, h4⟩ := h
  exact ⟨v, xs, i, h1.same hb, own_same h2 (fun g hg => hr g (h3 ▸ hg)), h3, h4⟩
theorem Win.lt (h : Win w B b r size all) : b < w.heap.size ∧ ∀ g, r = some g → B ≤ g ∧ g < w.heap.size := by
  obtain ⟨v, xs, i, h1, h2, h3, _⟩ := h
  exact ⟨h1.lt, fun g hg => own_lt h2 (h3.trans hg)⟩
theorem Win.base (h : Win w B b r size all) : B ≤ b := by
  obtain ⟨v, xs, i, _, _, _, _, _, _, h⟩ := h; exact h
theorem Win.bt (h : Win w B b r size all) : BT w b 59 ∧ ∀ g, r = some g → BT w g 5 := by
  obtain ⟨v, xs, i, h1, h2, h3, _⟩ := h
  exact ⟨⟨_, h1⟩, fun g hg => own_bt h2 (h3.trans hg)⟩
theorem Win.below (h : Win w B b r size all) (hb : Below w.heap.size w w') : Win w' B b r size all :=
  h.keep (hb.block b h.lt.1) fun g hg => hb.block g (h.lt.2 g hg).2
theorem Win.fr {S : Nat → Prop} (h : Win w B b r size all) (hf : Fr S w w') (h1 : ¬ S b) (h2 : ∀ g, r = some g → ¬ S g) : Win w' B b r size all :=
  h.keep (hf.block b h.lt.1 h1) fun g hg => hf.block g (h.lt.2 g hg).2 (h2 g hg)
theorem Win.mono {C : Nat} (h : Win w B b r size all) (hC : C ≤ B) : Win w C b r size all := by
  obtain ⟨v, xs, i, h1, h2, h3, h4, h5, h6, h7⟩ := h
  exact ⟨v, xs, i, h1, own_mono h2 hC, h3, h4, h5, h6, Nat.le_trans hC h7⟩
theorem Win.ring_ne (h : Win w B b r size all) : r ≠ some b := fun e => (h.bt.2 b e).ne h.bt.1 (by decide) rfl
end
theorem ring_full {size : Nat} {all xs : List UInt8} {i : Nat} (h : Ring size (lastN size all) xs i) : xs.length = full size all := by
  rw [← h.len, lastN_length]; rfl
theorem full_le {size : Nat} {all : List UInt8} : full size all ≤ size := Nat.min_le_right _ _
theorem full_len {size : Nat} {all : List UInt8} : full size all ≤ all.length := Nat.min_le_left _ _

theorem Size_any (B b size : Nat) (r : Option Nat) (all : List UInt8) (w : World) (h : Win w B b r size all) :
    Calls Try.prog 12 #[.pointer (some ⟨b, 0, none⟩)] w fun e w' => e = .returned (.int .i64 (size : Int)) ∧ w = w' := by
  obtain ⟨v, xs, i, hb, _⟩ := h
  obtain ⟨c0, _, _, _⟩ := hb.four
  go_enter Try.func12, Try.ntmps12
  go_wp2
  go_ret
  exact ⟨rfl, rfl⟩
theorem Pos_any (B b size : Nat) (r : Option Nat) (all : List UInt8) (w : World) (h : Win w B b r size all) :
    Calls Try.prog 11 #[.pointer (some ⟨b, 0, none⟩)] w fun e w' => e = .returned (.int .i64 (all.length : Int)) ∧ w = w' := by
  obtain ⟨v, xs, i, hb, _⟩ := h
  obtain ⟨_, _, _, c3⟩ := hb.four
  go_enter Try.func11, Try.ntmps11
  go_wp2
  go_ret
  exact ⟨rfl, rfl⟩
theorem Full_any (B b size : Nat) (r : Option Nat) (all : List UInt8) (w : World) (h : Win w B b r size all) :
    Calls Try.prog 16 #[.pointer (some ⟨b, 0, none⟩)] w fun e w' => e = .returned (.int .i64 (full size all : Int)) ∧ w = w' := by
  obtain ⟨v, xs, i, hb, hown, _, hr, _⟩ := h
  obtain ⟨a, c, rfl⟩ := own_slice hown
  obtain ⟨_, c1, _, _⟩ := hb.four
  rw [← ring_full hr]
  go_enter Try.func16, Try.ntmps16
  go_wp2
  go_ret
  exact ⟨rfl, rfl⟩
theorem in_yes (B b size : Nat) (r : Option Nat) (all : List UInt8) (d : Int) (w : World) (h : Win w B b r size all) (h1 : 1 ≤ d) (h2 : d ≤ full size all) :
    Calls Try.prog 23 #[.pointer (some ⟨b, 0, none⟩), .int .i64 d] w fun e w' => e = .returned (.bool true) ∧ w = w' := by
  obtain ⟨v, xs, i, hb, hown, _, hr, _⟩ := h
  obtain ⟨a, c, rfl⟩ := own_slice hown
  obtain ⟨_, c1, _, _⟩ := hb.four
  rw [← ring_full hr] at h2
  go_enter Try.func23, Try.ntmps23
  go_wp2
  go_ret
  exact ⟨rfl, rfl⟩
theorem in_no (B b size : Nat) (r : Option Nat) (all : List UInt8) (d : Int) (w : World) (h : Win w B b r size all) (hd : ¬ (1 ≤ d ∧ d ≤ full size all)) :
    Calls Try.prog 23 #[.pointer (some ⟨b, 0, none⟩), .int .i64 d] w fun e w' => e = .returned (.bool false) ∧ w = w' := by
  obtain ⟨v, xs, i, hb, hown, _, hr, _⟩ := h
  obtain ⟨a, c, rfl⟩ := own_slice hown
  obtain ⟨_, c1, _, _⟩ := hb.four
  rw [← ring_full hr] at hd
  by_cases h1 : 1 ≤ d
  · have h2 : ¬ d ≤ (xs.length : Int) := fun h => hd ⟨h1, h⟩
    go_enter Try.func23, Try.ntmps23
    go_wp2
    go_ret
    exact ⟨rfl, rfl⟩
  · go_enter Try.func23, Try.ntmps23
    go_wp2
    go_ret
    exact ⟨rfl, rfl⟩
theorem back_any (B b size : Nat) (r : Option Nat) (all : List UInt8) (d : Nat) (c : UInt8) (w : World) (h : Win w B b r size all) (h1 : 1 ≤ d) (h2 : d ≤ full size all) (hc : all[all.length - d]? = some c) :
    Calls Try.prog 24 #[.pointer (some ⟨b, 0, none⟩), .int .i64 (d : Int)] w fun e w' => e = .returned (.int .u8 (c.toNat : Int)) ∧ w = w' := by
  obtain ⟨v, xs, i, hb, hown, _, hr, hs1, hs2, _⟩ := h
  rw [← ring_full hr] at h2
  obtain ⟨g, cap, rfl, _, _⟩ := hown.form (by omega)
  obtain ⟨_, c1, c2, _⟩ := hb.four
  have hback := hr.back h1 h2
  rw [lastN_getElem? h1 (by rw [hr.len]; exact h2), hc] at hback
  have hi := hr.2.1
  have hxs := hr.1
  by_cases hid : i < d
  · rw [if_pos hid] at hback
    obtain ⟨j, hj⟩ : ∃ j : Nat, j = i + xs.length - d := ⟨_, rfl⟩
    rw [← hj] at hback
    have e0 := hown.cellAt j (by omega)
    rw [bys_get hback] at e0
    have x1 : (i : Int) - (d : Int) + (xs.length : Int) = (j : Int) := by omega
    have x2 : (j : Int) < (xs.length : Int) := by omega
    have x3 : (i : Int) - (d : Int) < 0 := by omega
    clear hj
    go_enter Try.func24, Try.ntmps24
    go_wp2
    go_ret
    exact ⟨rfl, rfl⟩
  · rw [if_neg hid] at hback
    obtain ⟨j, hj⟩ : ∃ j : Nat, j = i - d := ⟨_, rfl⟩
    rw [← hj] at hback
    have e0 := hown.cellAt j (by omega)
    rw [bys_get hback] at e0
    have x1 : (i : Int) - (d : Int) = (j : Int) := by omega
    have x2 : (j : Int) < (xs.length : Int) := by omega
    clear hj
    go_enter Try.func24, Try.ntmps24
    go_wp2
    go_ret
    exact ⟨rfl, rfl⟩
theorem Last_yes (B b size : Nat) (r : Option Nat) (all : List UInt8) (d : Nat) (c : UInt8) (w : World) (h : Win w B b r size all) (h1 : 1 ≤ d) (h2 : d ≤ full size all) (hc : all[all.length - d]? = some c) :
    Calls Try.prog 15 #[.pointer (some ⟨b, 0, none⟩), .int .i64 (d : Int)] w fun e w' => e = .returned (.tuple #[.int .u8 (c.toNat : Int), .int .i64 0]) ∧ w = w' := by
  go_enter Try.func15, Try.ntmps15
  go_wp2_with fail
  refine (in_yes B b size r all d w h (by omega) (by omega)).mono ?_
  rintro e w' ⟨rfl, rfl⟩
  go_wp2_with fail
  refine (back_any B b size r all d c w h h1 h2 hc).mono ?_
  rintro e w' ⟨rfl, rfl⟩
  go_wp2_with fail
  go_ret2
  exact ⟨rfl, rfl⟩
theorem Last_no (B b size : Nat) (r : Option Nat) (all : List UInt8) (d : Int) (w : World) (h : Win w B b r size all) (hd : ¬ (1 ≤ d ∧ d ≤ full size all)) :
    Calls Try.prog 15 #[.pointer (some ⟨b, 0, none⟩), .int .i64 d] w fun e w' => e = .returned (.tuple #[.int .u8 0, .int .i64 7]) ∧ w = w' := by
  go_enter Try.func15, Try.ntmps15
  go_wp2_with fail
  refine (in_no B b size r all d w h hd).mono ?_
  rintro e w' ⟨rfl, rfl⟩
  go_wp2_with fail
  go_ret2
  exact ⟨rfl, rfl⟩
theorem New_yes (size : Nat) (w : World) (h1 : 1 ≤ size) (h2 : size ≤ 4294967295) :
    Calls Try.prog 17 #[.int .i64 (size : Int)] w fun e w' => e = .returned (.tuple #[.pointer (some ⟨w.heap.size, 0, none⟩), .int .i64 0]) ∧ Win w' w.heap.size w.heap.size none size [] ∧ Below w.heap.size w w' ∧ w'.heap.size = w.heap.size + 1 := by
  have x1 : (1 : Int) ≤ (size : Int) := by omega
  have x2 : (size : Int) ≤ 4294967295 := by omega
  go_enter Try.func17, Try.ntmps17
  go_wp2
  go_ret2
  exact ⟨rfl, ⟨_, [], 0, Blk.new _ _ _, World.ownsRow_nil _ _ _ _, rfl, (by rw [lastN_all (l := []) (Nat.zero_le _)]; exact Ring.nil _), h1, h2, Nat.le_refl _⟩, (Below.refl _ _).alloc (Nat.le_refl _) _, by simp⟩
theorem New_no (size : Int) (w : World) (h : ¬ (1 ≤ size ∧ size ≤ 4294967295)) :
    Calls Try.prog 17 #[.int .i64 size] w fun e w' => e = .returned (.tuple #[.pointer none, .int .i64 7]) ∧ w = w' := by
  by_cases h1 : 1 ≤ size
  · have h2 : ¬ size ≤ 4294967295 := fun h3 => h ⟨h1, h3⟩
    clear h
    go_enter Try.func17, Try.ntmps17
    go_wp2
    go_ret2
    exact ⟨rfl, rfl⟩
  · clear h
    go_enter Try.func17, Try.ntmps17
    go_wp2
    go_ret2
    exact ⟨rfl, rfl⟩
end Go.Proofs.Ytcfaocbdhfmhbaa
