
/-
  Walks of the document's Clear and Fork. Conditions: the window as WinR says; numbers that can be counted.
-/
import Derived.Test.YtcfaocbdhfmhbaaRCopy
namespace Go.Proofs.Ytcfaocbdhfmhbaa
open Go.RowKit

theorem bup {w w1 w2 : World} (h : Below w.heap.size w w1) (k : Below w1.heap.size w1 w2) : Below w.heap.size w w2 := h.trans (k.mono h.size)
theorem bmk_ {w w1 : World} (h : Below w.heap.size w w1) (o : Obj) : Below w.heap.size w (w1.alloc o) := h.alloc h.size _
theorem RClear_any (B b size : Nat) (r : Option Nat) (all : List UInt8) (w : World) (h : WinR w B b r size all) :
    Calls Try.prog 30 #[.pointer (some ⟨b, 0, none⟩)] w fun e w' => e = .returned (.tuple #[]) ∧ WinR w' B b none size [] ∧ Fr (fun k => k = b) w w' := by
  obtain ⟨VA, vc, hb, hown, hr, hs1, hs2, hBb⟩ := h
  obtain ⟨c0, c1⟩ := hb.two
  have f1 := hb.frozen 1
  go_enter Try.func30, Try.ntmps30
  go_wp2
  go_end0
  exact ⟨rfl, ⟨none, 0, hb.set_ 1 _, World.ownsRow_nil _ _ _ _, rfl, hs1, hs2, hBb⟩, (Fr.refl _ _).set1 1 _⟩
set_option maxHeartbeats 400000 in
theorem RFork_any (B b size : Nat) (r : Option Nat) (all : List UInt8) (w : World) (h : WinR w B b r size all) (hlen : all.length + 1 < 140737488355328) :
    Calls Try.prog 19 #[.pointer (some ⟨b, 0, none⟩)] w fun e w' => ∃ b' r', e = .returned (.pointer (some ⟨b', 0, none⟩)) ∧ WinR w' w.heap.size b' r' size all ∧ Below w.heap.size w w' := by
  obtain ⟨VA, vc, hb, hown, hr, hs1, hs2, hBb⟩ := h
  obtain ⟨c0, c1⟩ := hb.two
  have blt := hb.lt
  obtain ⟨i0, hi0, hz0, hz1, hz2⟩ := info_parts infou8
  have Hb := Lib.hid hb
  have Hown := Lib.hid hown
  clear hb hown
  go_enter Try.func19, Try.ntmps19
  go_wp2_with (at_builtin; refine wpList_append_rd (w := w) rfl (.tmp 4) (.tmp 8) 22 rfl w.heap.size 5 i0 _ 1 1 Try.underlying22 hi0 hz0 hz1 hz2 rfl (by decide) (.slice none 0 0) 0 [] rfl (World.ownsRow_nil _ _ _ _) VA all.length vc (bys all) rfl (Rd.of_own Hown.out) (bys_one _) (by simp only [maxLen]; omega) (by omega) (Nat.le_refl _) ?_; intro a1 c1' w1 hown1 hg1 hat1; have hb1 := Hb.out.same (hg1.block b Hb.out.lt (by simp [Value.ownBlock])); obtain ⟨d0, d1⟩ := hb1.two)
  go_ret
  simp only [Nat.zero_add, List.nil_append] at hown1
  have hb2 : Below w.heap.size w w1 := (Below.refl _ w).grown hg1 (Nat.le_refl _) (fun g hg => by simp [Value.ownBlock] at hg)
  exact ⟨_, _, rfl, ⟨a1, c1', Blk.new _ _ _, hown1.alloc _, rfl, hs1, hs2, hb2.size⟩, bmk_ hb2 _⟩
end Go.Proofs.Ytcfaocbdhfmhbaa
