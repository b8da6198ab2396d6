
/-
  Walks of Clear, Fork and Copy: what they answer and what the windows hold behind them. Conditions: the window as Win says; numbers that can be counted.
-/
import Derived.Test.YtcfaocbdhfmhbaaPut
namespace Go.Proofs.Ytcfaocbdhfmhbaa
open Go.RowKit

theorem Fr.set1 {a w : World} {b : Nat} (h : Fr (fun k => k = b) a w) (i : Nat) (u : Value) : Fr (fun k => k = b) a (w.setCell ⟨b, i, none⟩ u) := h.setCell (.inl rfl) u
theorem below_set {B g : Nat} {a w : World} (h : Below B a w) (hg : B ≤ g) (i : Nat) (u : Value) : Below B a (w.setCell ⟨g, i, none⟩ u) := h.setCell (p := ⟨g, i, none⟩) hg u
def ClearPost (B b size : Nat) (w : World) (e : Ending) (w' : World) : Prop :=
  e = .returned (.tuple #[]) ∧ Win w' B b none size [] ∧ Fr (fun k => k = b) w w'
theorem Clear_any (B b size : Nat) (r : Option Nat) (all : List UInt8) (w : World) (h : Win w B b r size all) :
    Calls Try.prog 14 #[.pointer (some ⟨b, 0, none⟩)] w (ClearPost B b size w) := by
  obtain ⟨v, xs, i, hb, hown, hv, hr, hs1, hs2, hBb⟩ := h
  obtain ⟨c0, c1, c2, c3⟩ := hb.four
  have f0 := hb.frozen 0
  have f1 := hb.frozen 1
  have f2 := hb.frozen 2
  have f3 := hb.frozen 3
  go_enter Try.func14, Try.ntmps14
  go_wp2
  go_end0
  refine ⟨rfl, ⟨.slice none 0 0, [], 0, ?_, World.ownsRow_nil _ _ _ _, rfl, (by rw [lastN_all (l := []) (Nat.zero_le _)]; exact Ring.nil _), hs1, hs2, hBb⟩, ?_⟩
  · have := (((hb.set_ 0 (.int .i64 (size : Int))).set_ 1 (.slice none 0 0)).set_ 2 (.int .i64 0)).set_ 3 (.int .i64 0)
    exact this
  · exact ((((Fr.refl _ _).set1 0 _).set1 1 _).set1 2 _).set1 3 _

def ForkPost (size : Nat) (all : List UInt8) (w : World) (e : Ending) (w' : World) : Prop :=
  ∃ r', e = .returned (.pointer (some ⟨w.heap.size, 0, none⟩)) ∧ Win w' w.heap.size w.heap.size r' size all ∧ Below w.heap.size w w'
set_option maxHeartbeats 400000 in
theorem Fork_any (B b size : Nat) (r : Option Nat) (all : List UInt8) (w : World) (h : Win w B b r size all) :
    Calls Try.prog 10 #[.pointer (some ⟨b, 0, none⟩)] w (ForkPost size all w) := by
  obtain ⟨v, xs, i, hb, hown, hv, hr, hs1, hs2, hBb⟩ := h
  obtain ⟨va, vc, rfl⟩ := own_slice hown
  obtain ⟨c0, c1, c2, c3⟩ := hb.four
  have hxs := hr.1
  have blt := hb.lt
  obtain ⟨i0, hi0, hz0, hz1, hz2⟩ := info_parts infou8
  go_enter Try.func10, Try.ntmps10
  have hB0 := Lib.hid ((Blk.new w 59 #[.int .i64 (size : Int), .slice va xs.length vc, .int .i64 (i : Int), .int .i64 (all.length : Int)]).alloc (.cells #[] 5))
  have hO1 := (World.ownsRow_made (base := w.heap.size) (e := 5) (size := 1) (w.alloc (.cells #[.int .i64 (size : Int), .slice va xs.length vc, .int .i64 (i : Int), .int .i64 (all.length : Int)] 59)) #[] 0 (by simp) (by unfold maxLen; omega) rfl)
  simp only [World.size_alloc] at hO1
  have hO0 := Lib.hid hO1
  have hR0 := Lib.hid (Rd.of_own ((hown.alloc (.cells #[.int .i64 (size : Int), .slice va xs.length vc, .int .i64 (i : Int), .int .i64 (all.length : Int)] 59)).alloc (.cells #[] 5)))
  clear hb hown hO1
  go_wp2_with (at_builtin; refine wpList_append_rd rfl (.tmp 7) (.tmp 11) 22 rfl w.heap.size 5 i0 _ 1 1 Try.underlying22 hi0 hz0 hz1 hz2 rfl (by decide) (.slice (some ⟨w.heap.size + 1, 0, none⟩) 0 0) 0 [] rfl hO0.out _ _ _ (bys xs) rfl hR0.out (bys_one _) (by simp only [maxLen]; omega) (by omega) (by simp; omega) ?_; intro a1 c1 w1 hown1 hg1 hat1; have hb1 : Blk w1 w.heap.size 59 _ := hB0.out.same (hg1.block _ hB0.out.lt (by simp [Value.ownBlock])); obtain ⟨d0, d1, d2, d3⟩ := hb1.four; have f1 := hb1.frozen 1)
  go_ret
  have hlen : (bys xs).length = xs.length := bys_length _
  refine ⟨_, rfl, ⟨.slice a1 xs.length c1, xs, i, ?_, ?_, rfl, hr, hs1, hs2, Nat.le_refl _⟩, ?_⟩
  · have := hb1.set_ 1 (.slice a1 xs.length c1)
    exact this
  · have h1 := own_far hown1 (own_ne hown1 hb1 (by decide)) (p := ⟨w.heap.size, 1, none⟩) (.slice a1 xs.length c1)
    simp only [Nat.zero_add, List.nil_append] at h1
    exact h1
  · refine below_set ?_ (Nat.le_refl _) _ _
    refine Below.grown ?_ hg1 (by simp; omega) (fun g hg => ?_)
    · exact ((Below.refl _ w).alloc (Nat.le_refl _) _).alloc (by simp) _
    · simp [Value.ownBlock] at hg; omega

/-- n bytes more, each the one that came d before it -/
def ext (d : Nat) : Nat → List UInt8 → List UInt8
  | 0, l => l
  | n + 1, l => let l' := ext d n l; l' ++ [l'.getD (l'.length - d) 0]
theorem ext_length (d n : Nat) (l : List UInt8) : (ext d n l).length = l.length + n := by
  induction n with
  | zero => rfl
  | succ n ih => simp only [ext, List.length_append, ih, List.length_cons, List.length_nil]; omega
theorem ext_drop (d n : Nat) (l : List UInt8) : (ext d (n + 1) l).drop l.length = (ext d n l).drop l.length ++ [(ext d n l).getD ((ext d n l).length - d) 0] := by
  show List.drop _ (ext d n l ++ [_]) = _
  rw [List.drop_append_of_le_length (by rw [ext_length]; omega)]
theorem full_append {size : Nat} {l r : List UInt8} : full size l ≤ full size (l ++ r) := by unfold full; simp; omega
theorem full_ext (d n size : Nat) (l : List UInt8) : full size l ≤ full size (ext d n l) := by unfold full; rw [ext_length]; omega

/-- in the midst of Copy, behind k bytes -/
structure CopyRel (B b size : Nat) (r : Option Nat) (all : List UInt8) (d : Nat) (w : World) (k : Nat) (A : Option Addr) (c : Nat) (r' : Option Nat) (wr : World) : Prop where
  own : wr.ownsRow w.heap.size 5 1 (.slice A k c) k (bys ((ext d k all).drop all.length))
  win : Win wr B b r' size (ext d k all)
  fr : Fr (fun k => k = b ∨ some k = r) w wr
  at_ : ∀ g, r' = some g → r = some g ∨ w.heap.size ≤ g
  ne : ∀ g, r' = some g → (Value.slice A k c).ownBlock ≠ some g
theorem CopyRel.step {B b size : Nat} {r : Option Nat} {all : List UInt8} {d : Nat} {w : World} {k : Nat} {A : Option Addr} {c : Nat} {r' : Option Nat} {wr : World} (h : CopyRel B b size r all d w k A c r' wr)
    (o : Obj) {w1 : World} {r1 : Option Nat} (hw : Win w1 B b r1 size (ext d (k + 1) all)) (hf : Fr (fun k => k = b ∨ some k = r') (wr.alloc o) w1) (ha : ∀ g, r1 = some g → r' = some g ∨ (wr.alloc o).heap.size ≤ g)
    (o' : Obj) {w2 : World} {A2 : Option Addr} {c2 : Nat} (hown : w2.ownsRow w.heap.size 5 1 (.slice A2 (k + 1) c2) (k + 1) (bys ((ext d (k + 1) all).drop all.length)))
    (hg : (w1.alloc o').grownBy w2 (Value.slice A k c).ownBlock) (hat : (Value.slice A2 (k + 1) c2).ownBlock = (Value.slice A k c).ownBlock ∨ (Value.slice A2 (k + 1) c2).ownBlock = some (w1.alloc o').heap.size) :
    CopyRel B b size r all d w (k + 1) A2 c2 r1 w2 := by
  have hb := h.win.lt.1
  have hown0 : ∀ g, (Value.slice A k c).ownBlock = some g → w.heap.size ≤ g ∧ g < wr.heap.size := fun g hg => own_lt h.own hg
  have hbo : some b ≠ (Value.slice A k c).ownBlock := fun e => (own_bt h.own e.symm).ne h.win.bt.1 (by decide) rfl
  have h1 : ∀ g, r1 = some g → some g ≠ (Value.slice A k c).ownBlock := fun g hg e => by
    rcases ha g hg with h2 | h2
    · exact h.ne g h2 e.symm
    · have := (hown0 g e.symm).2
      simp at h2; omega
  have hs := hf.size
  have hs2 := hg.size
  simp only [World.size_alloc] at hs hs2
  refine ⟨hown, ?_, ?_, ?_, ?_⟩
  · refine hw.keep ((hg.block b (by simp; have := hw.lt.1; omega) hbo).trans (Below.heap_alloc _ _ _ hw.lt.1)) fun g hgg => ?_
    have := (hw.lt.2 g hgg).2
    exact (hg.block g (by simp; omega) (h1 g hgg)).trans (Below.heap_alloc _ _ _ this)
  · refine Fr.grown (Fr.alloc ((h.fr.alloc o).trans' hf ?_) o') hg ?_
    · intro i hi hx
      rcases hx with hx | hx
      · exact .inl hx
      · rcases h.at_ i hx.symm with h2 | h2
        · exact .inr h2.symm
        · omega
    · intro g hgg
      exact .inr (hown0 g hgg).1
  · intro g hgg
    rcases ha g hgg with h2 | h2
    · exact h.at_ g h2
    · have := h.fr.size
      simp at h2
      exact .inr (by omega)
  · intro g hgg
    rcases hat with h2 | h2
    · rw [h2]; exact fun e => h1 g hgg e.symm
    · rw [h2]
      intro e
      have := (hw.lt.2 g hgg).2
      cases e
      simp at this
      omega

def CopyPost (B b size : Nat) (r : Option Nat) (all : List UInt8) (d n : Nat) (w : World) (e : Ending) (w' : World) : Prop :=
  ∃ A c r', e = .returned (.tuple #[.slice A n c, .int .i64 0]) ∧ CopyRel B b size r all d w n A c r' w'
theorem Copy_no (B b size : Nat) (r : Option Nat) (all : List UInt8) (d n : Int) (w : World) (h : Win w B b r size all) (hd : ¬ (1 ≤ d ∧ d ≤ full size all ∧ 0 ≤ n ∧ n ≤ 273)) :
    Calls Try.prog 9 #[.pointer (some ⟨b, 0, none⟩), .int .i64 d, .int .i64 n] w fun e w' => e = .returned (.tuple #[.slice none 0 0, .int .i64 7]) ∧ w = w' := by
  by_cases h1 : 1 ≤ d ∧ d ≤ full size all
  · have hn : n < 0 ∨ 0 ≤ n ∧ 273 < n := by omega
    clear hd
    rcases hn with hn | ⟨hn0, hn⟩
    · go_enter Try.func9, Try.ntmps9
      go_wp2_with fail
      refine (in_yes B b size r all d w h h1.1 h1.2).mono ?_
      rintro e w' ⟨rfl, rfl⟩
      go_wp2_with fail
      go_ret2
      exact ⟨rfl, rfl⟩
    · have hn' : ¬ n < 0 := by omega
      go_enter Try.func9, Try.ntmps9
      go_wp2_with fail
      refine (in_yes B b size r all d w h h1.1 h1.2).mono ?_
      rintro e w' ⟨rfl, rfl⟩
      go_wp2_with fail
      go_ret2
      exact ⟨rfl, rfl⟩
  · clear hd
    go_enter Try.func9, Try.ntmps9
    go_wp2_with fail
    refine (in_no B b size r all d w h h1).mono ?_
    rintro e w' ⟨rfl, rfl⟩
    go_wp2_with fail
    go_ret2
    exact ⟨rfl, rfl⟩

set_option maxHeartbeats 1000000 in
theorem Copy_yes (B b size : Nat) (r : Option Nat) (all : List UInt8) (d n : Nat) (w : World) (h : Win w B b r size all) (h1 : 1 ≤ d) (h2 : d ≤ full size all) (hn : n ≤ 273) (hlen : all.length < 4611686018427380000) :
    Calls Try.prog 9 #[.pointer (some ⟨b, 0, none⟩), .int .i64 (d : Int), .int .i64 (n : Int)] w (CopyPost B b size r all d n w) := by
  obtain ⟨i0, hi0, hz0, hz1, hz2⟩ := info_parts infou8
  have hn1 : ¬ (n : Int) < 0 := by omega
  have hn2 : (n : Int) ≤ 273 := by omega
  have hBw : B ≤ w.heap.size := by have := h.base; have := h.lt.1; omega
  go_enter Try.func9, Try.ntmps9
  go_wp2_with fail
  refine (in_yes B b size r all d w h (by omega) (by omega)).mono ?_
  rintro e w' ⟨rfl, rfl⟩
  go_wp2_with (at_make; refine wpList_make_own w rfl (.const (.int .i64 0)) (.tmp 22) 22 rfl w.heap.size 5 i0 _ 1 Try.underlying22 hi0 hz0 hz1 .i64 .i64 (n : Int) n rfl rfl rfl (by rw [hz2]; omega) (by unfold maxLen; omega) (Nat.le_refl _) ?_; intro w1 hown1 hg1)
  have hR0 : CopyRel B b size r all d w 0 (some ⟨w.heap.size, 0, none⟩) n r w1 := by
    refine ⟨?_, ?_, ?_, ?_, ?_⟩
    · have e : (ext d 0 all).drop all.length = [] := List.drop_length
      rw [e]; exact hown1
    · exact h.keep (hg1.block b h.lt.1 (by simp)) fun g hg => hg1.block g (h.lt.2 g hg).2 (by simp)
    · exact (Fr.refl _ w).grown hg1 (fun g hg => by cases hg)
    · exact fun g hg => .inl hg
    · intro g hg e
      have := (h.lt.2 g hg).2
      simp [Value.ownBlock] at e
      omega
  have H := Lib.hid hR0
  clear hR0 hown1 hg1
  go_loopw [8, 25] (fun s8 s25 wr => ∃ (k : Nat) (A : Option Addr) (c : Nat) (r' : Option Nat), s25 = .int .i64 k ∧ k ≤ n ∧ s8 = .slice A k c ∧ Hid (CopyRel B b size r all d w k A c r' wr)) (fun _ s25 _ => n - (intOf s25).toNat)
  case atStart => exact ⟨0, _, _, _, rfl, Nat.zero_le _, rfl, H⟩
  case round =>
    clear H
    obtain ⟨k, A, c, r', rfl, hk, rfl, H⟩ := hrel
    by_cases hlt : k < n
    · have hlt' : (k : Int) < (n : Int) := by omega
      have hwr := H.out.win
      have hl := ext_length d k all
      have hfl := full_ext d k size all
      have hfd : full size all ≤ all.length := full_len
      obtain ⟨x, hx⟩ : ∃ x, (ext d k all).getD ((ext d k all).length - d) 0 = x := ⟨_, rfl⟩
      have hx' : (ext d k all)[(ext d k all).length - d]? = some x := by
        rw [← hx, List.getD_eq_getElem?_getD, List.getElem?_eq_getElem (by omega)]; rfl
      have hnext : ext d (k + 1) all = ext d k all ++ [x] := by show ext d k all ++ [_] = _; rw [hx]
      have hl2 : (ext d k all).length + 1 < 4611686018427387904 := by omega
      have h3 : d ≤ full size (ext d k all) := by omega
      have Hx := Lib.hid hx
      have Hnext := Lib.hid hnext
      clear hx hnext hl hfl
      go_wp2_with fail
      refine (back_any B b size r' (ext d k all) d x wr hwr h1 h3 hx').mono ?_
      rintro e w' ⟨rfl, rfl⟩
      go_wp2_with fail
      have hS : Src (wr.alloc (.cells #[.int .u8 (x.toNat : Int)] 5)) b r' (some ⟨wr.heap.size, 0, none⟩) 1 1 [x] := by
        refine ⟨⟨rfl, fun _ => ⟨_, rfl, World.news_of_block (heap_alloc_new wr _)⟩⟩, Nat.le_refl _, ?_⟩
        intro ad had
        cases had
        refine ⟨by simp, ?_, ?_⟩
        · have := hwr.lt.1; simp; omega
        · intro e
          have := (hwr.lt.2 _ e).2
          simp at this
      refine (Put_any B b size r' (ext d k all) _ 1 1 [x] _ (hwr.below ((Below.refl _ _).alloc (Nat.le_refl _) _)) hS hl2).mono ?_
      rintro e w2 ⟨rfl, r2, hW2, hF2, hA2⟩
      rw [← Hnext.out] at hW2
      have hown0 := H.out.own
      have hown2 : w2.ownsRow w.heap.size 5 1 (.slice A k c) k (bys ((ext d k all).drop all.length)) :=
        own_same (hown0.alloc (.cells #[.int .u8 (x.toNat : Int)] 5)) fun g hg => hF2.block g (by have := (own_lt hown0 hg).2; simp; omega) (by
          rintro (e | e)
          · exact (own_bt hown0 hg).ne hwr.bt.1 (by decide) e
          · exact H.out.ne g e.symm hg)
      have hHs : w.heap.size ≤ w2.heap.size := by have := H.out.fr.size; have := hF2.size; simp at this; omega
      have hwo := Lib.hid hown2
      have HW2 := Lib.hid hW2
      have HF2 := Lib.hid hF2
      have HA2 := Lib.hid hA2
      clear hW2 hF2 hA2 hown0 hown2 hwr hx' hS
      go_wp2_with (at_builtin; refine wpList_append_rd (w := w2.alloc (.cells #[.int .u8 (x.toNat : Int)] 5)) rfl (.tmp 34) (.tmp 36) 22 rfl w.heap.size 5 i0 _ 1 1 Try.underlying22 hi0 hz0 hz1 hz2 rfl (by decide) (.slice A k c) k (bys ((ext d k all).drop all.length)) rfl (hwo.out.alloc _) (some ⟨w2.heap.size, 0, none⟩) 1 1 (bys [x]) rfl ⟨rfl, fun _ => ⟨_, rfl, World.news_of_block (heap_alloc_new w2 _)⟩⟩ (bys_one _) (by simp only [maxLen]; omega) (by omega) (by simp; omega) ?_; intro a3 c3 w3 hown3 hg3 hat3)
      go_roundw
      case rel =>
        refine ⟨k + 1, a3, c3, r2, by go_num, by omega, rfl, ?_⟩
        refine H.out.step _ HW2.out HF2.out HA2.out _ ?_ hg3 hat3
        rw [ext_drop, Hx.out, bys_append]
        exact hown3
      case measure => simp [intOf]; omega
    · obtain rfl : k = n := by omega
      go_wp2_with fail
      go_ret2
      exact ⟨_, _, _, rfl, H.out⟩
end Go.Proofs.Ytcfaocbdhfmhbaa
