
/-
  The document's window (all bytes that came are kept): its struct in memory, and walks of its methods. Conditions: the window as WinR says; numbers that can be counted.
-/
import Derived.Test.YtcfaocbdhfmhbaaExt
import Derived.Test.YtcfaocbdhfmhbaaFresh
import Derived.IntWalk
namespace Go.Proofs.Ytcfaocbdhfmhbaa
open Go.RowKit

/-- the document's window: its struct at block b, its bytes in a row of the call's own, in block r (none: none yet) -/
def WinR (w : World) (B b : Nat) (r : Option Nat) (size : Nat) (all : List UInt8) : Prop :=
  ∃ (A : Option Addr) (c : Nat), Blk w b 61 #[.int .i64 (size : Int), .slice A all.length c] ∧ w.ownsRow B 5 1 (.slice A all.length c) all.length (bys all) ∧ (Value.slice A all.length c).ownBlock = r ∧ 1 ≤ size ∧ size ≤ 4294967295 ∧ B ≤ b
section
variable {w w' : World} {B b size : Nat} {r : Option Nat} {all : List UInt8}
theorem WinR.keep (h : WinR w B b r size all) (hb : w'.heap[b]? = w.heap[b]?) (hr : ∀ g, r = some g → w'.heap[g]? = w.heap[g]?) : WinR w' B b r size all := by
  obtain ⟨A, c, h1, h2, h3, h4⟩ := h
  exact ⟨A, c, h1.same hb, own_same h2 (fun g hg => hr g (h3 ▸ hg)), h3, h4⟩
theorem WinR.lt (h : WinR w B b r size all) : b < w.heap.size ∧ ∀ g, r = some g → B ≤ g ∧ g < w.heap.size := by
  obtain ⟨A, c, h1, h2, h3, _⟩ := h
  exact ⟨h1.lt, fun g hg => own_lt h2 (h3.trans hg)⟩
theorem WinR.base (h : WinR w B b r size all) : B ≤ b := by
  obtain ⟨A, c, _, _, _, _, _, h⟩ := h; exact h
theorem WinR.bt (h : WinR w B b r size all) : BT w b 61 ∧ ∀ g, r = some g → BT w g 5 := by
  obtain ⟨A, c, h1, h2, h3, _⟩ := h
  exact ⟨⟨_, h1⟩, fun g hg => own_bt h2 (h3.trans hg)⟩
theorem WinR.below (h : WinR w B b r size all) (hb : Below w.heap.size w w') : WinR w' B b r size all :=
  h.keep (hb.block b h.lt.1) fun g hg => hb.block g (h.lt.2 g hg).2
theorem WinR.fr {S : Nat → Prop} (h : WinR w B b r size all) (hf : Fr S w w') (h1 : ¬ S b) (h2 : ∀ g, r = some g → ¬ S g) : WinR w' B b r size all :=
  h.keep (hf.block b h.lt.1 h1) fun g hg => hf.block g (h.lt.2 g hg).2 (h2 g hg)
theorem WinR.mono {C : Nat} (h : WinR w B b r size all) (hC : C ≤ B) : WinR w C b r size all := by
  obtain ⟨A, c, h1, h2, h3, h4, h5, h6⟩ := h
  exact ⟨A, c, h1, own_mono h2 hC, h3, h4, h5, Nat.le_trans hC h6⟩
end
theorem RNew_yes (size : Nat) (w : World) (h1 : 1 ≤ size) (h2 : size ≤ 4294967295) :
    Calls Try.prog 18 #[.int .i64 (size : Int)] w fun e w' => e = .returned (.tuple #[.pointer (some ⟨w.heap.size, 0, none⟩), .int .i64 0]) ∧ WinR w' w.heap.size w.heap.size none size [] ∧ Below w.heap.size w w' ∧ w'.heap.size = w.heap.size + 1 := by
  have x1 : (1 : Int) ≤ (size : Int) := by omega
  have x2 : (size : Int) ≤ 4294967295 := by omega
  go_enter Try.func18, Try.ntmps18
  go_wp2
  go_ret2
  exact ⟨rfl, ⟨none, 0, Blk.new _ _ _, World.ownsRow_nil _ _ _ _, rfl, h1, h2, Nat.le_refl _⟩, (Below.refl _ _).alloc (Nat.le_refl _) _, by simp⟩
theorem RNew_no (size : Int) (w : World) (h : ¬ (1 ≤ size ∧ size ≤ 4294967295)) :
    Calls Try.prog 18 #[.int .i64 size] w fun e w' => e = .returned (.tuple #[.pointer none, .int .i64 7]) ∧ w = w' := by
  by_cases h1 : 1 ≤ size
  · have h2 : ¬ size ≤ 4294967295 := fun h3 => h ⟨h1, h3⟩
    clear h
    go_enter Try.func18, Try.ntmps18
    go_wp2
    go_ret2
    exact ⟨rfl, rfl⟩
  · clear h
    go_enter Try.func18, Try.ntmps18
    go_wp2
    go_ret2
    exact ⟨rfl, rfl⟩
/-- bytes that are handed in: they lie in w, in a block that is none of the document's window's -/
def SrcR (w : World) (b : Nat) (r : Option Nat) (A : Option Addr) (m c : Nat) (ys : List UInt8) : Prop :=
  Rd w 1 A m (bys ys) ∧ m ≤ c
def RPutPost (B b size : Nat) (r : Option Nat) (all : List UInt8) (w : World) (e : Ending) (w' : World) : Prop :=
  e = .returned (.tuple #[]) ∧ ∃ r', WinR w' B b r' size all ∧ Fr (fun k => k = b ∨ some k = r) w w' ∧ ∀ g, r' = some g → r = some g ∨ w.heap.size ≤ g
/-- one more store into the struct, behind an append -/
theorem WinR.put {w w1 : World} {B b size n c' L : Nat} {r : Option Nat} {all ys : List UInt8} {A A' : Option Addr} {c : Nat} (hL : all.length = L) (hb : Blk w b 61 #[.int .i64 (size : Int), .slice A L c]) (hown : w.ownsRow B 5 1 (.slice A L c) L (bys all)) (hr : (Value.slice A L c).ownBlock = r)
    (hs1 : 1 ≤ size) (hs2 : size ≤ 4294967295) (hB : B ≤ b) (hn : n = L + ys.length)
    (h1 : w1.ownsRow B 5 1 (.slice A' n c') n (bys all ++ bys ys)) (hg : w.grownBy w1 (Value.slice A L c).ownBlock) (hat : (Value.slice A' n c').ownBlock = (Value.slice A L c).ownBlock ∨ (Value.slice A' n c').ownBlock = some w.heap.size) :
    ∃ r', WinR (w1.setCell ⟨b, 1, none⟩ (.slice A' n c')) B b r' size (all ++ ys) ∧ Fr (fun k => k = b ∨ some k = r) w (w1.setCell ⟨b, 1, none⟩ (.slice A' n c')) ∧ ∀ g, r' = some g → r = some g ∨ w.heap.size ≤ g := by
  subst hL
  obtain rfl : n = (all ++ ys).length := by rw [hn, List.length_append]
  rw [← bys_append] at h1
  have hne : some b ≠ (Value.slice A all.length c).ownBlock := own_ne hown hb (by decide)
  have hb1 : Blk w1 b 61 #[.int .i64 (size : Int), .slice A all.length c] := hb.same (hg.block b hb.lt hne)
  have hne1 : some b ≠ (Value.slice A' (all ++ ys).length c').ownBlock := own_ne h1 hb1 (by decide)
  refine ⟨_, ⟨A', c', hb1.set_ 1 _, own_far h1 (p := ⟨b, 1, none⟩) hne1 _, rfl, hs1, hs2, hB⟩, ?_, ?_⟩
  · refine Fr.setCell ((Fr.refl _ w).grown hg (fun g hgg => .inl (.inr (by rw [← hr, hgg])))) (p := ⟨b, 1, none⟩) (.inl (.inl rfl)) _
  · intro g hgg
    rcases hat with h | h
    · left; rw [← hr, ← h]; exact hgg
    · right; rw [h] at hgg; injection hgg with hgg; omega
set_option maxHeartbeats 1000000 in
theorem RPut_any (B b size : Nat) (r : Option Nat) (all : List UInt8) (A : Option Addr) (m c : Nat) (ys : List UInt8) (w : World) (h : WinR w B b r size all) (hs : Rd w 1 A m (bys ys)) (hlen : all.length + m < 140737488355328) :
    Calls Try.prog 25 #[.pointer (some ⟨b, 0, none⟩), .slice A m c] w (RPutPost B b size r (all ++ ys) w) := by
  obtain ⟨VA, vc, hb, hown, hr, hs1, hs2, hBb⟩ := h
  obtain ⟨i0, hi0, hz0, hz1, hz2⟩ := info_parts infou8
  obtain ⟨c0, c1⟩ := hb.two
  have hblt := hb.lt
  have Hb := Lib.hid hb
  have Hown := Lib.hid hown
  have Hs := Lib.hid hs
  have hm : ys.length = m := by have := hs.1; rw [bys_length] at this; omega
  have Hm := Lib.hid hm
  clear hb hown hs hm
  go_enter Try.func25, Try.ntmps25
  go_wp2_with (at_builtin; refine wpList_append_rd (w := w) rfl (.tmp 8) (.tmp 9) 22 rfl B 5 i0 _ 1 1 Try.underlying22 hi0 hz0 hz1 hz2 rfl (by decide) (.slice VA all.length vc) all.length (bys all) rfl Hown.out A m c (bys ys) rfl Hs.out (bys_one _) (by simp only [maxLen]; omega) (by omega) (by omega) ?_; intro a1 c1' w1 hown1 hg1 hat1; have hb1 := Hb.out.same (hg1.block b Hb.out.lt (own_ne Hown.out Hb.out (by decide))); obtain ⟨d0, d1⟩ := hb1.two; have f1 := hb1.frozen 1)
  go_end0
  exact ⟨rfl, WinR.put rfl Hb.out Hown.out hr hs1 hs2 hBb (by rw [Hm.out]) hown1 hg1 hat1⟩
theorem RFull_any (B b size : Nat) (r : Option Nat) (all : List UInt8) (w : World) (h : WinR w B b r size all) :
    Calls Try.prog 29 #[.pointer (some ⟨b, 0, none⟩)] w fun e w' => e = .returned (.int .i64 (full size all : Int)) ∧ ∃ m, w' = w.drewN m := by
  obtain ⟨VA, vc, hb, hown, hr, hs1, hs2, hBb⟩ := h
  obtain ⟨c0, c1⟩ := hb.two
  by_cases hlt : all.length < size
  · have hf : full size all = all.length := by unfold full; omega
    rw [hf]
    have hlt' : (all.length : Int) < (size : Int) := by omega
    go_enter Try.func29, Try.ntmps29
    go_wp2_with fail
    go_quiet (fail)
    go_wp2_with fail
    go_ret
    exact ⟨rfl, nq, rfl⟩
  · have hf : full size all = size := by unfold full; omega
    rw [hf]
    have hlt' : ¬ (all.length : Int) < (size : Int) := by omega
    go_enter Try.func29, Try.ntmps29
    go_wp2_with fail
    go_quiet (fail)
    go_wp2_with fail
    go_ret
    exact ⟨rfl, nq, rfl⟩
theorem RHas_yes (B b size : Nat) (r : Option Nat) (all : List UInt8) (d : Int) (w : World) (h : WinR w B b r size all) (h1 : 1 ≤ d) (h2 : d ≤ full size all) :
    Calls Try.prog 33 #[.pointer (some ⟨b, 0, none⟩), .int .i64 d] w fun e w' => e = .returned (.bool true) ∧ ∃ m, w' = w.drewN m := by
  have h0 : 0 < d := by omega
  obtain ⟨F, hF⟩ : ∃ F, full size all = F := ⟨_, rfl⟩
  have hc := RFull_any B b size r all w h
  rw [hF] at hc h2
  clear hF
  go_enter Try.func33, Try.ntmps33
  go_wp2_with fail
  refine hc.mono ?_
  rintro e w1 ⟨rfl, m, rfl⟩
  go_wp2_with fail
  go_ret
  exact ⟨rfl, m, rfl⟩
theorem RHas_no (B b size : Nat) (r : Option Nat) (all : List UInt8) (d : Int) (w : World) (h : WinR w B b r size all) (hd : ¬ (1 ≤ d ∧ d ≤ full size all)) :
    Calls Try.prog 33 #[.pointer (some ⟨b, 0, none⟩), .int .i64 d] w fun e w' => e = .returned (.bool false) ∧ ∃ m, w' = w.drewN m := by
  obtain ⟨F, hF⟩ : ∃ F, full size all = F := ⟨_, rfl⟩
  have hc := RFull_any B b size r all w h
  rw [hF] at hc hd
  clear hF
  by_cases h0 : 0 < d
  · have h2 : ¬ d ≤ (F : Int) := fun h => hd ⟨by omega, h⟩
    have h2' : decide (d ≤ (F : Int)) = false := decide_eq_false h2
    clear hd
    go_enter Try.func33, Try.ntmps33
    go_wp2_with fail
    refine hc.mono ?_
    rintro e w1 ⟨rfl, m, rfl⟩
    go_wp2_with fail
    go_ret
    exact ⟨rfl, m, rfl⟩
  · clear hd
    go_enter Try.func33, Try.ntmps33
    go_wp2_with fail
    go_ret
    exact ⟨rfl, 0, rfl⟩
theorem WinR.drewN {w : World} {B b size : Nat} {r : Option Nat} {all : List UInt8} (h : WinR w B b r size all) (n : Nat) : WinR (w.drewN n) B b r size all := h.keep rfl (fun _ _ => rfl)
theorem RLast_yes (B b size : Nat) (r : Option Nat) (all : List UInt8) (d : Nat) (c : UInt8) (w : World) (h : WinR w B b r size all) (h1 : 1 ≤ d) (h2 : d ≤ full size all) (hlen : all.length < 140737488355328) (hc : all[all.length - d]? = some c) :
    Calls Try.prog 28 #[.pointer (some ⟨b, 0, none⟩), .int .i64 (d : Int)] w fun e w' => e = .returned (.tuple #[.int .u8 (c.toNat : Int), .int .i64 0]) ∧ ∃ m, w' = w.drewN m := by
  have hq := RHas_yes B b size r all d w h (by omega) (by omega)
  have hfl := full_len (size := size) (all := all)
  have Hw := Lib.hid h
  clear h
  go_enter Try.func28, Try.ntmps28
  go_wp2_with fail
  refine hq.mono ?_
  rintro e w1 ⟨rfl, m, rfl⟩
  obtain ⟨VA, vc, hb, hown, hr, hs1, hs2, hBb⟩ := Hw.out
  obtain ⟨c0, c1⟩ := hb.two
  obtain ⟨g, cap, hv, _, _⟩ := hown.form (by omega)
  injection hv with hA
  subst hA
  obtain ⟨k, hk⟩ : ∃ k, all.length - d = k := ⟨_, rfl⟩
  rw [hk] at hc
  have e0 := hown.cellAt k (by omega)
  rw [bys_get hc] at e0
  obtain ⟨L, hL⟩ : ∃ L, all.length = L := ⟨_, rfl⟩
  rw [hL] at c1 hk hlen
  have hsub : IntKind.i64.wrap ((L : Int) - (d : Int)) = (k : Int) := by rw [IntWalk.i64_in _ (by omega)]; omega
  have hkL : k < L := by omega
  have hkL' : (k : Int) < (L : Int) := by omega
  clear hk hb hown hr hc h2 hfl hL
  go_wp2_with fail
  go_quiet (fail)
  go_wp2_with fail
  go_ret2
  exact ⟨rfl, m + nq, World.drewN_drewN _ _ _⟩
theorem RLast_no (B b size : Nat) (r : Option Nat) (all : List UInt8) (d : Int) (w : World) (h : WinR w B b r size all) (hd : ¬ (1 ≤ d ∧ d ≤ full size all)) :
    Calls Try.prog 28 #[.pointer (some ⟨b, 0, none⟩), .int .i64 d] w fun e w' => e = .returned (.tuple #[.int .u8 0, .int .i64 7]) ∧ ∃ m, w' = w.drewN m := by
  go_enter Try.func28, Try.ntmps28
  go_wp2_with fail
  refine (RHas_no B b size r all d w h hd).mono ?_
  rintro e w1 ⟨rfl, m, rfl⟩
  go_wp2_with fail
  go_ret2
  exact ⟨rfl, m, rfl⟩
end Go.Proofs.Ytcfaocbdhfmhbaa
