
/-
  The window: Clear, Fork, Copy; a fresh copy put into it. Conditions: as each theorem says.
-/
import Derived.Test.YthlflcnpmabmbaaDoorWiA
import Derived.Test.YthlflcnpmabmbaaDoorCdBase
import Derived.Test.YthlflcnpmabmbaaDoorStr
namespace Go.Proofs.YthlflcnpmabmbaaDoor.win
open Go.RowKit
set_option maxRecDepth 100000

theorem _root_.Go.Proofs.YthlflcnpmabmbaaDoor.Fr.set1 {a w : World} {b : Nat} (h : Fr (fun k => k = b) a w) (i : Nat) (u : Value) : Fr (fun k => k = b) a (w.setCell ⟨b, i, none⟩ u) := h.setCell (.inl rfl) u
theorem below_set {B g : Nat} {a w : World} (h : Below B a w) (hg : B ≤ g) (i : Nat) (u : Value) : Below B a (w.setCell ⟨g, i, none⟩ u) := h.setCell (p := ⟨g, i, none⟩) hg u
def ClearPost (B b size : Nat) (w : World) (e : Ending) (w' : World) : Prop :=
  e = .returned (.tuple #[]) ∧ Win w' B b none size [] ∧ Fr (fun k => k = b) w w'
def ForkPost (size : Nat) (all : List UInt8) (w : World) (e : Ending) (w' : World) : Prop :=
  ∃ r', e = .returned (.pointer (some ⟨w.heap.size, 0, none⟩)) ∧ Win w' w.heap.size w.heap.size r' size all ∧ Below w.heap.size w w'
/-- n bytes more, each the one that came d before it -/
def ext (d : Nat) : Nat → List UInt8 → List UInt8
  | 0, l => l
  | n + 1, l => let l' := ext d n l; l' ++ [l'.getD (l'.length - d) 0]
theorem ext_length (d n : Nat) (l : List UInt8) : (ext d n l).length = l.length + n := by
  induction n with
  | zero => rfl
  | succ n ih => simp only [ext, List.length_append, ih, List.length_cons, List.length_nil]; omega
theorem ext_drop (d n : Nat) (l : List UInt8) : (ext d (n + 1) l).drop l.length = (ext d n l).drop l.length ++ [(ext d n l).getD ((ext d n l).length - d) 0] := by
  show List.drop _ (ext d n l ++ [_]) = _
  rw [List.drop_append_of_le_length (by rw [ext_length]; omega)]
theorem full_append {size : Nat} {l r : List UInt8} : full size l ≤ full size (l ++ r) := by unfold full; simp; omega
theorem full_ext (d n size : Nat) (l : List UInt8) : full size l ≤ full size (ext d n l) := by unfold full; rw [ext_length]; omega

/-- in the midst of Copy, behind k bytes -/
structure CopyRel (B b size : Nat) (r : Option Nat) (all : List UInt8) (d : Nat) (w : World) (k : Nat) (A : Option Addr) (c : Nat) (r' : Option Nat) (wr : World) : Prop where
  own : wr.ownsRow w.heap.size 5 1 (.slice A k c) k (bys ((ext d k all).drop all.length))
  win : Win wr B b r' size (ext d k all)
  fr : Fr (fun k => k = b ∨ some k = r) w wr
  at_ : ∀ g, r' = some g → r = some g ∨ w.heap.size ≤ g
  ne : ∀ g, r' = some g → (Value.slice A k c).ownBlock ≠ some g
theorem CopyRel.step {B b size : Nat} {r : Option Nat} {all : List UInt8} {d : Nat} {w : World} {k : Nat} {A : Option Addr} {c : Nat} {r' : Option Nat} {wr : World} (h : CopyRel B b size r all d w k A c r' wr)
    (o : Obj) {w1 : World} {r1 : Option Nat} (hw : Win w1 B b r1 size (ext d (k + 1) all)) (hf : Fr (fun k => k = b ∨ some k = r') (wr.alloc o) w1) (ha : ∀ g, r1 = some g → r' = some g ∨ (wr.alloc o).heap.size ≤ g)
    (o' : Obj) {w2 : World} {A2 : Option Addr} {c2 : Nat} (hown : w2.ownsRow w.heap.size 5 1 (.slice A2 (k + 1) c2) (k + 1) (bys ((ext d (k + 1) all).drop all.length)))
    (hg : (w1.alloc o').grownBy w2 (Value.slice A k c).ownBlock) (hat : (Value.slice A2 (k + 1) c2).ownBlock = (Value.slice A k c).ownBlock ∨ (Value.slice A2 (k + 1) c2).ownBlock = some (w1.alloc o').heap.size) :
    CopyRel B b size r all d w (k + 1) A2 c2 r1 w2 := by
  have hb := h.win.lt.1
  have hown0 : ∀ g, (Value.slice A k c).ownBlock = some g → w.heap.size ≤ g ∧ g < wr.heap.size := fun g hg => own_lt h.own hg
  have hbo : some b ≠ (Value.slice A k c).ownBlock := fun e => (own_bt h.own e.symm).ne h.win.bt.1 (by decide) rfl
  have h1 : ∀ g, r1 = some g → some g ≠ (Value.slice A k c).ownBlock := fun g hg e => by
    rcases ha g hg with h2 | h2
    · exact h.ne g h2 e.symm
    · have := (hown0 g e.symm).2
      simp at h2; omega
  have hs := hf.size
  have hs2 := hg.size
  simp only [World.size_alloc] at hs hs2
  refine ⟨hown, ?_, ?_, ?_, ?_⟩
  · refine hw.keep ((hg.block b (by simp; have := hw.lt.1; omega) hbo).trans (Below.heap_alloc _ _ _ hw.lt.1)) fun g hgg => ?_
    have := (hw.lt.2 g hgg).2
    exact (hg.block g (by simp; omega) (h1 g hgg)).trans (Below.heap_alloc _ _ _ this)
  · refine Fr.grown (Fr.alloc ((h.fr.alloc o).trans' hf ?_) o') hg ?_
    · intro i hi hx
      rcases hx with hx | hx
      · exact .inl hx
      · rcases h.at_ i hx.symm with h2 | h2
        · exact .inr h2.symm
        · omega
    · intro g hgg
      exact .inr (hown0 g hgg).1
  · intro g hgg
    rcases ha g hgg with h2 | h2
    · exact h.at_ g h2
    · have := h.fr.size
      simp at h2
      exact .inr (by omega)
  · intro g hgg
    rcases hat with h2 | h2
    · rw [h2]; exact fun e => h1 g hgg e.symm
    · rw [h2]
      intro e
      have := (hw.lt.2 g hgg).2
      cases e
      simp at this
      omega

def CopyPost (B b size : Nat) (r : Option Nat) (all : List UInt8) (d n : Nat) (w : World) (e : Ending) (w' : World) : Prop :=
  ∃ A c r', e = .returned (.tuple #[.slice A n c, .int .i64 0]) ∧ CopyRel B b size r all d w n A c r' w'
theorem Copy_no (B b size : Nat) (r : Option Nat) (all : List UInt8) (d n : Int) (w : World) (h : Win w B b r size all) (hd : ¬ (1 ≤ d ∧ d ≤ full size all ∧ 0 ≤ n ∧ n ≤ 273)) :
    Calls Tryd.prog 76 #[.pointer (some ⟨b, 0, none⟩), .int .i64 d, .int .i64 n] w fun e w' => e = .returned (.tuple #[.slice none 0 0, .int .i64 7]) ∧ w = w' := by
  by_cases h1 : 1 ≤ d ∧ d ≤ full size all
  · have hn : n < 0 ∨ 0 ≤ n ∧ 273 < n := by omega
    clear hd
    rcases hn with hn | ⟨hn0, hn⟩
    · go_enter Tryd.func76, Tryd.ntmps76
      go_wp2_with fail
      refine (in_yes B b size r all d w h h1.1 h1.2).mono ?_
      rintro e w' ⟨rfl, rfl⟩
      go_wp2_with fail
      go_ret2
      exact ⟨rfl, rfl⟩
    · have hn' : ¬ n < 0 := by omega
      go_enter Tryd.func76, Tryd.ntmps76
      go_wp2_with fail
      refine (in_yes B b size r all d w h h1.1 h1.2).mono ?_
      rintro e w' ⟨rfl, rfl⟩
      go_wp2_with fail
      go_ret2
      exact ⟨rfl, rfl⟩
  · clear hd
    go_enter Tryd.func76, Tryd.ntmps76
    go_wp2_with fail
    refine (in_no B b size r all d w h h1).mono ?_
    rintro e w' ⟨rfl, rfl⟩
    go_wp2_with fail
    go_ret2
    exact ⟨rfl, rfl⟩

set_option maxHeartbeats 1000000 in
theorem Copy_yes (B b size : Nat) (r : Option Nat) (all : List UInt8) (d n : Nat) (w : World) (h : Win w B b r size all) (h1 : 1 ≤ d) (h2 : d ≤ full size all) (hn : n ≤ 273) (hlen : all.length < 4611686018427380000) :
    Calls Tryd.prog 76 #[.pointer (some ⟨b, 0, none⟩), .int .i64 (d : Int), .int .i64 (n : Int)] w (CopyPost B b size r all d n w) := by
  obtain ⟨i0, hi0, hz0, hz1, hz2⟩ := info_parts infou8
  have hn1 : ¬ (n : Int) < 0 := by omega
  have hn2 : (n : Int) ≤ 273 := by omega
  have hBw : B ≤ w.heap.size := by have := h.base; have := h.lt.1; omega
  go_enter Tryd.func76, Tryd.ntmps76
  go_wp2_with fail
  refine (in_yes B b size r all d w h (by omega) (by omega)).mono ?_
  rintro e w' ⟨rfl, rfl⟩
  go_wp2_with (at_make; refine wpList_make_own w rfl (.const (.int .i64 0)) (.tmp 22) 34 rfl w.heap.size 5 i0 _ 1 Tryd.underlying34 hi0 hz0 hz1 .i64 .i64 (n : Int) n rfl rfl rfl (by rw [hz2]; omega) (by unfold maxLen; omega) (Nat.le_refl _) ?_; intro w1 hown1 hg1)
  have hR0 : CopyRel B b size r all d w 0 (some ⟨w.heap.size, 0, none⟩) n r w1 := by
    refine ⟨?_, ?_, ?_, ?_, ?_⟩
    · have e : (ext d 0 all).drop all.length = [] := List.drop_length
      rw [e]; exact hown1
    · exact h.keep (hg1.block b h.lt.1 (by simp)) fun g hg => hg1.block g (h.lt.2 g hg).2 (by simp)
    · exact (Fr.refl _ w).grown hg1 (fun g hg => by cases hg)
    · exact fun g hg => .inl hg
    · intro g hg e
      have := (h.lt.2 g hg).2
      simp [Value.ownBlock] at e
      omega
  have H := Lib.hid hR0
  clear hR0 hown1 hg1
  go_loopw [8, 25] (fun s8 s25 wr => ∃ (k : Nat) (A : Option Addr) (c : Nat) (r' : Option Nat), s25 = .int .i64 k ∧ k ≤ n ∧ s8 = .slice A k c ∧ Hid (CopyRel B b size r all d w k A c r' wr)) (fun _ s25 _ => n - (intOf s25).toNat)
  case atStart => exact ⟨0, _, _, _, rfl, Nat.zero_le _, rfl, H⟩
  case round =>
    clear H
    obtain ⟨k, A, c, r', rfl, hk, rfl, H⟩ := hrel
    by_cases hlt : k < n
    · have hlt' : (k : Int) < (n : Int) := by omega
      have hwr := H.out.win
      have hl := ext_length d k all
      have hfl := full_ext d k size all
      have hfd : full size all ≤ all.length := full_len
      obtain ⟨x, hx⟩ : ∃ x, (ext d k all).getD ((ext d k all).length - d) 0 = x := ⟨_, rfl⟩
      have hx' : (ext d k all)[(ext d k all).length - d]? = some x := by
        rw [← hx, List.getD_eq_getElem?_getD, List.getElem?_eq_getElem (by omega)]; rfl
      have hnext : ext d (k + 1) all = ext d k all ++ [x] := by show ext d k all ++ [_] = _; rw [hx]
      have hl2 : (ext d k all).length + 1 < 4611686018427387904 := by omega
      have h3 : d ≤ full size (ext d k all) := by omega
      have Hx := Lib.hid hx
      have Hnext := Lib.hid hnext
      clear hx hnext hl hfl
      go_wp2_with fail
      refine (back_any B b size r' (ext d k all) d x wr hwr h1 h3 hx').mono ?_
      rintro e w' ⟨rfl, rfl⟩
      go_wp2_with fail
      have hS : Src (wr.alloc (.cells #[.int .u8 (x.toNat : Int)] 5)) b r' (some ⟨wr.heap.size, 0, none⟩) 1 1 [x] := by
        refine ⟨⟨rfl, fun _ => ⟨_, rfl, World.news_of_block (heap_alloc_new wr _)⟩⟩, Nat.le_refl _, ?_⟩
        intro ad had
        cases had
        refine ⟨by simp, ?_, ?_⟩
        · have := hwr.lt.1; simp; omega
        · intro e
          have := (hwr.lt.2 _ e).2
          simp at this
      refine (Put_any B b size r' (ext d k all) _ 1 1 [x] _ (hwr.below ((Below.refl _ _).alloc (Nat.le_refl _) _)) hS hl2).mono ?_
      rintro e w2 ⟨rfl, r2, hW2, hF2, hA2⟩
      rw [← Hnext.out] at hW2
      have hown0 := H.out.own
      have hown2 : w2.ownsRow w.heap.size 5 1 (.slice A k c) k (bys ((ext d k all).drop all.length)) :=
        own_same (hown0.alloc (.cells #[.int .u8 (x.toNat : Int)] 5)) fun g hg => hF2.block g (by have := (own_lt hown0 hg).2; simp; omega) (by
          rintro (e | e)
          · exact (own_bt hown0 hg).ne hwr.bt.1 (by decide) e
          · exact H.out.ne g e.symm hg)
      have hHs : w.heap.size ≤ w2.heap.size := by have := H.out.fr.size; have := hF2.size; simp at this; omega
      have hwo := Lib.hid hown2
      have HW2 := Lib.hid hW2
      have HF2 := Lib.hid hF2
      have HA2 := Lib.hid hA2
      clear hW2 hF2 hA2 hown0 hown2 hwr hx' hS
      go_wp2_with (at_builtin; refine wpList_append_rd (w := w2.alloc (.cells #[.int .u8 (x.toNat : Int)] 5)) rfl (.tmp 34) (.tmp 36) 34 rfl w.heap.size 5 i0 _ 1 1 Tryd.underlying34 hi0 hz0 hz1 hz2 rfl (by decide) (.slice A k c) k (bys ((ext d k all).drop all.length)) rfl (hwo.out.alloc _) (some ⟨w2.heap.size, 0, none⟩) 1 1 (bys [x]) rfl ⟨rfl, fun _ => ⟨_, rfl, World.news_of_block (heap_alloc_new w2 _)⟩⟩ (bys_one _) (by simp only [maxLen]; omega) (by omega) (by simp; omega) ?_; intro a3 c3 w3 hown3 hg3 hat3)
      go_roundw
      case rel =>
        refine ⟨k + 1, a3, c3, r2, by go_num, by omega, rfl, ?_⟩
        refine H.out.step _ HW2.out HF2.out HA2.out _ ?_ hg3 hat3
        rw [ext_drop, Hx.out, bys_append]
        exact hown3
      case measure => simp [intOf]; omega
    · obtain rfl : k = n := by omega
      go_wp2_with fail
      go_ret2
      exact ⟨_, _, _, rfl, H.out⟩
end Go.Proofs.YthlflcnpmabmbaaDoor.win
namespace Go.Proofs.YthlflcnpmabmbaaDoor.win
open Go.RowKit
set_option maxRecDepth 100000

theorem own_le {w : World} {B : Nat} {e : TypeId} {size n c : Nat} {a : Option Addr} {xs : List Value} (h : w.ownsRow B e size (.slice a n c) n xs) : n ≤ c := by
  rcases h.2 with ⟨hv, h0⟩ | ⟨g', cap', cur, hv, _, _, hn, _⟩
  · injection hv with _ h2 h3; omega
  · injection hv with _ _ h3; omega
theorem own_addr {w : World} {B : Nat} {e : TypeId} {size n c : Nat} {a : Option Addr} {xs : List Value} (h : w.ownsRow B e size (.slice a n c) n xs) {ad : Addr} (ha : a = some ad) : (Value.slice a n c).ownBlock = some ad.block := by
  subst ha; rfl
/-- the source is a row of the call's own, in a block that is neither the window's nor its ring's -/
theorem Src.of_own {w : World} {B b n c : Nat} {r : Option Nat} {a : Option Addr} {ys : List UInt8} (h : w.ownsRow B 5 1 (.slice a n c) n (bys ys)) (hb : BT w b 128) (hr : ∀ g, (Value.slice a n c).ownBlock = some g → r ≠ some g) : Src w b r a n c ys :=
  ⟨Rd.of_own h, own_le h, fun ad had => ⟨(own_lt h (own_addr h had)).2, (own_bt h (own_addr h had)).ne hb (by decide), hr _ (own_addr h had)⟩⟩
/-- bytes that come in: they lie in w -/
def In (w : World) (A : Option Addr) (n : Nat) (l : List UInt8) : Prop := Rd w 1 A n (bys l) ∧ (0 < n → ∀ ad, A = some ad → ad.block < w.heap.size) ∧ n ≤ 140737488351232
theorem In.len {w : World} {A : Option Addr} {n : Nat} {l : List UInt8} (h : In w A n l) : l.length = n := by have := h.1.1; rw [bys_length] at this; omega
theorem Rd.keep0 {w w' : World} {size n : Nat} {A : Option Addr} {xs : List Value} (h : Rd w size A n xs) (hk : 0 < n → ∀ ad, A = some ad → w'.heap[ad.block]? = w.heap[ad.block]?) : Rd w' size A n xs :=
  ⟨h.1, fun hn => by
    obtain ⟨ad, e, hc⟩ := h.2 hn
    refine ⟨ad, e, fun j u hu => (World.cell?_of_block ?_).trans (hc j u hu)⟩
    rw [block_add]
    exact hk hn ad e⟩
theorem In.fr {S : Nat → Prop} {w w' : World} {A : Option Addr} {n : Nat} {l : List UInt8} (h : In w A n l) (hf : Fr S w w') (hS : 0 < n → ∀ ad, A = some ad → ¬ S ad.block) : In w' A n l :=
  ⟨h.1.keep0 fun h0 ad had => hf.block _ (h.2.1 h0 ad had) (hS h0 ad had), fun h0 ad had => Nat.lt_of_lt_of_le (h.2.1 h0 ad had) hf.size, h.2.2⟩
theorem In.below {w w' : World} {A : Option Addr} {n : Nat} {l : List UInt8} (h : In w A n l) (hb : Below w.heap.size w w') : In w' A n l :=
  h.fr (S := fun _ => False) ⟨hb.os, hb.tape, hb.output, hb.size, fun k hk _ => hb.block k hk⟩ fun _ _ _ e => e
theorem In.nil (w : World) : In w none 0 [] := ⟨⟨rfl, fun h => absurd h (by omega)⟩, (fun _ _ h => by cases h), by omega⟩

def msize (size : Int) : Nat := if size < 1 ∨ 2000 < size then 300 else size.toNat
theorem msize_bd (size : Int) : 1 ≤ msize size ∧ msize size ≤ 2000 := by unfold msize; split <;> omega
def MadePost (size : Int) (l : List UInt8) (w : World) (e : Ending) (w' : World) : Prop :=
  ∃ r', e = .returned (.pointer (some ⟨w.heap.size, 0, none⟩)) ∧ Win w' w.heap.size w.heap.size r' (msize size) l ∧ Below w.heap.size w w'
end Go.Proofs.YthlflcnpmabmbaaDoor.win
namespace Go.Proofs.YthlflcnpmabmbaaDoor.win
open Go.RowKit
set_option maxRecDepth 100000

/-- a copy in new memory; all that was there is as it was -/
def Fresh (w w' : World) (a : Option Addr) (n c : Nat) (l : List UInt8) : Prop := w'.ownsRow w.heap.size 5 1 (.slice a n c) n (bys l) ∧ Below w.heap.size w w'
theorem wpList_fresh {ops : Array Oper} {rest : List Oper} {o : Oper} {a : Act} {Q : Exit → Act → World → Prop} (hgd : o.guard = none) (s x : Operand)
    (ho : o.op = .call { callee := .builtin .append, args := #[s, x], argTypes := #[34, 34] }) {w : World} (N : Nat) (hN : N = w.heap.size) (hs : a.eval s = .slice (some ⟨N, 0, none⟩) 0 0)
    (A : Option Addr) (m c : Nat) (l : List UInt8) (hx : a.eval x = .slice A m c) (hr : In w A m l)
    (h : ∀ a' c' w', Fresh w w' a' m c' l → wpList Tryd.prog ops Q rest (a.put o.dst (.slice a' m c')) w') : wpList Tryd.prog ops Q (o :: rest) a (w.alloc (.cells #[] 5)) := by
  obtain ⟨i0, hi0, hz0, hz1, hz2⟩ := info_parts infou8
  have hO := (World.ownsRow_made (base := w.heap.size) (e := 5) (size := 1) w #[] 0 (Nat.le_refl _) (by unfold maxLen; omega) rfl)
  have hr' := hr.below ((Below.refl _ _).alloc (Nat.le_refl _) (.cells #[] 5))
  subst hN
  refine wpList_append_rd hgd s x 34 ho w.heap.size 5 i0 _ 1 1 Tryd.underlying34 hi0 hz0 hz1 hz2 rfl (by decide) _ 0 [] hs hO A m c (bys l) hx hr'.1 (bys_one _) (by have := hr.2.2; simp only [maxLen]; omega) (by have := hr.2.2; omega) (by simp) ?_
  intro a1 c1 w1 hown hg hat
  simp only [Nat.zero_add, List.nil_append] at hown hat ⊢
  refine h a1 c1 w1 ⟨hown, ?_⟩
  refine Below.grown ((Below.refl _ w).alloc (Nat.le_refl _) _) hg (by simp) ?_
  intro k hk
  simp [Value.ownBlock] at hk; omega
theorem Fresh.win {w w' : World} {a : Option Addr} {n c : Nat} {l : List UInt8} (h : Fresh w w' a n c l) {B b size : Nat} {r : Option Nat} {all : List UInt8} (hw : Win w B b r size all) : Win w' B b r size all := hw.below h.2
theorem Fresh.src {w w' : World} {a : Option Addr} {n c : Nat} {l : List UInt8} (h : Fresh w w' a n c l) {B b size : Nat} {r : Option Nat} {all : List UInt8} (hw : Win w B b r size all) : Src w' b r a n c l :=
  Src.of_own h.1 (hw.below h.2).bt.1 fun g hg e => by have := (own_lt h.1 hg).1; have := (hw.lt.2 g e).2; omega
theorem Put_fresh {B b size : Nat} {r : Option Nat} {all : List UInt8} {a : Option Addr} {n c : Nat} {l : List UInt8} {w w' : World} (hw : Win w B b r size all) (h : Fresh w w' a n c l) (hlen : all.length + n < 4611686018427387904) :
    Calls Tryd.prog 58 #[.pointer (some ⟨b, 0, none⟩), .slice a n c] w' (PutPost B b size r (all ++ l) w) := by
  refine (Put_any B b size r all a n c l w' (h.win hw) (h.src hw) hlen).mono ?_
  rintro e w2 ⟨rfl, r2, hW, hF, hA⟩
  refine ⟨rfl, r2, hW, (Fr.of_below h.2).trans hF, fun g hg => ?_⟩
  rcases hA g hg with h1 | h1
  · exact .inl h1
  · exact .inr (Nat.le_trans h.2.size h1)
/-- behind a Put all that lies below the window is as it was -/
theorem PutPost.below {B b size : Nat} {r : Option Nat} {all all0 : List UInt8} {w w' : World} {e : Ending} (h : PutPost B b size r all w e w') (hw : Win w B b r size all0) {C : Nat} (hC : C ≤ B) : Below C w w' := by
  obtain ⟨_, _, _, hF, _⟩ := h
  exact hF.below (by have := hw.base; have := hw.lt.1; omega) fun k hk => by
    rcases hk with rfl | hk
    · have := hw.base; omega
    · have := (hw.lt.2 k hk.symm).1; omega
theorem CopyRel.below {B b size : Nat} {r : Option Nat} {all : List UInt8} {d k c : Nat} {A : Option Addr} {r' : Option Nat} {w wr : World} (h : CopyRel B b size r all d w k A c r' wr) (hw : Win w B b r size all) {C : Nat} (hC : C ≤ B) : Below C w wr :=
  h.fr.below (by have := hw.base; have := hw.lt.1; omega) fun k hk => by
    rcases hk with rfl | hk
    · have := hw.base; omega
    · have := (hw.lt.2 k hk.symm).1; omega
theorem In.cut {w : World} {A : Option Addr} {n c k : Nat} {l : List UInt8} (h : In w A n l) (hk : k ≤ n) (hc : n ≤ c) : In w (if c = k then A else A.map (·.add k)) (n - k) (l.drop k) := by
  refine ⟨?_, fun h0 ad had => ?_, by have := h.2.2; omega⟩
  · have := h.1.cut hk hc
    rw [Nat.mul_one, bys_drop] at this
    exact this
  · split at had
    · exact h.2.1 (by omega) ad had
    · cases A with
      | none => cases had
      | some a =>
        simp only [Option.map_some, Option.some.injEq] at had
        subst had
        rw [block_add]
        exact h.2.1 (by omega) a rfl
theorem In.take {w : World} {A : Option Addr} {n k : Nat} {l : List UInt8} (h : In w A n l) (hk : k ≤ n) : In w A k (l.take k) := by
  refine ⟨?_, fun h0 => h.2.1 (by omega), by have := h.2.2; omega⟩
  have := h.1.take hk
  rw [Nat.mul_one, bys_take] at this
  exact this
theorem Fresh.in_ {w w' : World} {a : Option Addr} {n c : Nat} {l : List UInt8} (h : Fresh w w' a n c l) (hn : n ≤ 140737488351232) : In w' a n l :=
  ⟨Rd.of_own h.1, fun _ ad had => (own_lt h.1 (own_addr h.1 had)).2, hn⟩

/-- integers that come in -/
def ints (l : List Int) : List Value := l.map (Value.int .i64)
theorem ints_length (l : List Int) : (ints l).length = l.length := by simp [ints]
def InI (w : World) (A : Option Addr) (n : Nat) (l : List Int) : Prop :=
  l.length = n ∧ n ≤ 140737488351232 ∧ ∀ i, i < n → ∃ b off k, A = some ⟨b, off, none⟩ ∧ l[i]? = some k ∧ b < w.heap.size ∧ w.cell? ⟨b, off + i, none⟩ = some (.int .i64 k) ∧ -9223372036854775808 ≤ k ∧ k ≤ 9223372036854775807
theorem InI.below {w w' : World} {A : Option Addr} {n : Nat} {l : List Int} (h : InI w A n l) (hb : Below w.heap.size w w') : InI w' A n l :=
  ⟨h.1, h.2.1, fun i hi => by
    obtain ⟨b, off, k, e1, e2, e3, e4, e5⟩ := h.2.2 i hi
    exact ⟨b, off, k, e1, e2, Nat.lt_of_lt_of_le e3 hb.size, (hb.cell (p := ⟨b, off + i, none⟩) e3).trans e4, e5⟩⟩
end Go.Proofs.YthlflcnpmabmbaaDoor.win
namespace Go.Proofs.YthlflcnpmabmbaaDoor.win
open Go.RowKit
set_option maxRecDepth 100000

theorem ext_add (d a m : Nat) (l : List UInt8) : ext d (a + m) l = ext d m (ext d a l) := by
  induction m with
  | zero => rfl
  | succ m ih =>
    show (let l' := ext d (a + m) l; l' ++ [l'.getD (l'.length - d) 0]) = (let l' := ext d m (ext d a l); l' ++ [l'.getD (l'.length - d) 0])
    rw [ih]
theorem ext_get_old (d n : Nat) (l : List UInt8) {i : Nat} (h : i < l.length) : (ext d n l)[i]? = l[i]? := by
  induction n with
  | zero => rfl
  | succ n ih =>
    show (ext d n l ++ [_])[i]? = _
    rw [List.getElem?_append_left (by rw [ext_length]; omega), ih]
theorem ext_get (d n : Nat) (l : List UInt8) (h1 : 1 ≤ d) (h2 : d ≤ l.length) : ∀ i, i < n → (ext d n l)[l.length + i]? = (ext d n l)[l.length + i - d]? := by
  induction n with
  | zero => intro i hi; omega
  | succ n ih =>
    intro i hi
    show (ext d n l ++ [_])[_]? = (ext d n l ++ [_])[_]?
    have hl := ext_length d n l
    by_cases e : i = n
    · subst e
      rw [List.getElem?_append_right (by omega), hl, Nat.sub_self, List.getElem?_append_left (by rw [hl]; omega)]
      have h5 : l.length + i - d < (ext d i l).length := by rw [hl]; omega
      rw [List.getD_eq_getElem?_getD, List.getElem?_eq_getElem h5]
      rfl
    · rw [List.getElem?_append_left (by omega), List.getElem?_append_left (by omega)]
      exact ih i (by omega)
theorem ext_prefix (d n : Nat) (l : List UInt8) : (ext d n l).take l.length = l := by
  induction n with
  | zero => exact List.take_length
  | succ n ih => show (ext d n l ++ [_]).take _ = _; rw [List.take_append_of_le_length (by rw [ext_length]; omega), ih]
theorem rows_two (d a m : Nat) (l : List UInt8) : (ext d (a + m) l).drop l.length = (ext d a l).drop l.length ++ (ext d m (ext d a l)).drop (ext d a l).length := by
  rw [ext_add]
  conv => lhs; rw [← List.take_append_drop (ext d a l).length (ext d m (ext d a l)), ext_prefix]
  rw [List.drop_append_of_le_length (by rw [ext_length]; omega)]
theorem rows_new (d n : Nat) (l : List UInt8) (h1 : 1 ≤ d) (h2 : d ≤ l.length) {i : Nat} (hi : i < n) (hd : i < d) : ((ext d n l).drop l.length)[i]? = l[l.length - d + i]? := by
  rw [List.getElem?_drop, ext_get d n l h1 h2 i hi, ext_get_old _ _ _ (by omega)]
  congr 1; omega
theorem rows_old (d n : Nat) (l : List UInt8) (h1 : 1 ≤ d) (h2 : d ≤ l.length) {i : Nat} (hi : i < n) (hd : ¬ i < d) : ((ext d n l).drop l.length)[i]? = ((ext d n l).drop l.length)[i - d]? := by
  rw [List.getElem?_drop, ext_get d n l h1 h2 i hi, List.getElem?_drop]
  congr 1; omega

theorem ext_split (d n : Nat) (l : List UInt8) : ext d n l = l ++ (ext d n l).drop l.length := by
  conv => lhs; rw [← List.take_append_drop l.length (ext d n l), ext_prefix]
end Go.Proofs.YthlflcnpmabmbaaDoor.win
