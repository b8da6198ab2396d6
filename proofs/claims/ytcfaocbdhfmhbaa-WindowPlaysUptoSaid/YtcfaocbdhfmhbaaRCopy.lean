
/-
  Walk of the document's Copy. Conditions: the window as WinR says; numbers that can be counted.
-/
import Derived.Test.YtcfaocbdhfmhbaaRWin
import Derived.Outline
namespace Go.Proofs.Ytcfaocbdhfmhbaa
open Go.RowKit

structure RCopyRel (B b size : Nat) (r : Option Nat) (all : List UInt8) (d : Nat) (w : World) (k : Nat) (A : Option Addr) (c : Nat) (r' : Option Nat) (wr : World) : Prop where
  own : wr.ownsRow w.heap.size 5 1 (.slice A k c) k (bys ((ext d k all).drop all.length))
  win : WinR wr B b r' size (ext d k all)
  fr : Fr (fun k => k = b ∨ some k = r) w wr
  at_ : ∀ g, r' = some g → r = some g ∨ w.heap.size ≤ g
  ne : ∀ g, r' = some g → (Value.slice A k c).ownBlock ≠ some g
theorem RCopyRel.step {B b size : Nat} {r : Option Nat} {all : List UInt8} {d : Nat} {w : World} {k : Nat} {A : Option Addr} {c : Nat} {r' : Option Nat} {wr : World} (h : RCopyRel B b size r all d w k A c r' wr)
    {w1 : World} {r1 : Option Nat} (hw : WinR w1 B b r1 size (ext d (k + 1) all)) (hf : Fr (fun k => k = b ∨ some k = r') wr w1) (ha : ∀ g, r1 = some g → r' = some g ∨ wr.heap.size ≤ g)
    (o' : Obj) {w2 : World} {A2 : Option Addr} {c2 : Nat} (hown : w2.ownsRow w.heap.size 5 1 (.slice A2 (k + 1) c2) (k + 1) (bys ((ext d (k + 1) all).drop all.length)))
    (hg : (w1.alloc o').grownBy w2 (Value.slice A k c).ownBlock) (hat : (Value.slice A2 (k + 1) c2).ownBlock = (Value.slice A k c).ownBlock ∨ (Value.slice A2 (k + 1) c2).ownBlock = some (w1.alloc o').heap.size) :
    RCopyRel B b size r all d w (k + 1) A2 c2 r1 w2 := by
  have hb := h.win.lt.1
  have hown0 : ∀ g, (Value.slice A k c).ownBlock = some g → w.heap.size ≤ g ∧ g < wr.heap.size := fun g hg => own_lt h.own hg
  have hbo : some b ≠ (Value.slice A k c).ownBlock := fun e => (own_bt h.own e.symm).ne h.win.bt.1 (by decide) rfl
  have h1 : ∀ g, r1 = some g → some g ≠ (Value.slice A k c).ownBlock := fun g hg e => by
    rcases ha g hg with h2 | h2
    · exact h.ne g h2 e.symm
    · have := (hown0 g e.symm).2; omega
  have hs := hf.size
  have hs2 := hg.size
  simp only [World.size_alloc] at hs2
  refine ⟨hown, ?_, ?_, ?_, ?_⟩
  · refine hw.keep ((hg.block b (by simp; have := hw.lt.1; omega) hbo).trans (Below.heap_alloc _ _ _ hw.lt.1)) fun g hgg => ?_
    have := (hw.lt.2 g hgg).2
    exact (hg.block g (by simp; omega) (h1 g hgg)).trans (Below.heap_alloc _ _ _ this)
  · refine Fr.grown (Fr.alloc (h.fr.trans' hf ?_) o') hg ?_
    · intro i hi hx
      rcases hx with hx | hx
      · exact .inl hx
      · rcases h.at_ i hx.symm with h2 | h2
        · exact .inr h2.symm
        · omega
    · intro g hgg
      exact .inr (hown0 g hgg).1
  · intro g hgg
    rcases ha g hgg with h2 | h2
    · exact h.at_ g h2
    · have := h.fr.size
      exact .inr (by omega)
  · intro g hgg
    rcases hat with h2 | h2
    · rw [h2]; exact fun e => h1 g hgg e.symm
    · rw [h2]
      intro e
      have := (hw.lt.2 g hgg).2
      cases e
      simp at this
      omega
def RCopyPost (B b size : Nat) (r : Option Nat) (all : List UInt8) (d n : Nat) (w : World) (e : Ending) (w' : World) : Prop :=
  ∃ A c r', e = .returned (.tuple #[.slice A n c, .int .i64 0]) ∧ RCopyRel B b size r all d w n A c r' w'
theorem RCopy_no (B b size : Nat) (r : Option Nat) (all : List UInt8) (d n : Int) (w : World) (h : WinR w B b r size all) (hd : ¬ (1 ≤ d ∧ d ≤ full size all ∧ 0 ≤ n ∧ n ≤ 273)) :
    Calls Try.prog 26 #[.pointer (some ⟨b, 0, none⟩), .int .i64 d, .int .i64 n] w fun e w' => e = .returned (.tuple #[.slice none 0 0, .int .i64 7]) ∧ ∃ m, w' = w.drewN m := by
  by_cases h1 : 1 ≤ d ∧ d ≤ full size all
  · have hn : n < 0 ∨ 0 ≤ n ∧ 273 < n := by omega
    clear hd
    rcases hn with hn | ⟨hn0, hn⟩
    · go_enter Try.func26, Try.ntmps26
      go_wp2_with fail
      refine (RHas_yes B b size r all d w h h1.1 h1.2).mono ?_
      rintro e w1 ⟨rfl, m, rfl⟩
      go_wp2_with fail
      go_ret2
      exact ⟨rfl, m, rfl⟩
    · have hn' : ¬ n < 0 := by omega
      go_enter Try.func26, Try.ntmps26
      go_wp2_with fail
      refine (RHas_yes B b size r all d w h h1.1 h1.2).mono ?_
      rintro e w1 ⟨rfl, m, rfl⟩
      go_wp2_with fail
      go_ret2
      exact ⟨rfl, m, rfl⟩
  · clear hd
    go_enter Try.func26, Try.ntmps26
    go_wp2_with fail
    refine (RHas_no B b size r all d w h h1).mono ?_
    rintro e w1 ⟨rfl, m, rfl⟩
    go_wp2_with fail
    go_ret2
    exact ⟨rfl, m, rfl⟩
set_option maxHeartbeats 2000000 in
theorem RCopy_yes (B b size : Nat) (r : Option Nat) (all : List UInt8) (d n : Nat) (w : World) (h : WinR w B b r size all) (h1 : 1 ≤ d) (h2 : d ≤ full size all) (hn : n ≤ 273) (hlen : all.length + 274 < 140737488355328) :
    Calls Try.prog 26 #[.pointer (some ⟨b, 0, none⟩), .int .i64 (d : Int), .int .i64 (n : Int)] w (RCopyPost B b size r all d n w) := by
  obtain ⟨i0, hi0, hz0, hz1, hz2⟩ := info_parts infou8
  have hn1 : ¬ (n : Int) < 0 := by omega
  have hn2 : (n : Int) ≤ 273 := by omega
  have hfd : full size all ≤ all.length := full_len
  have hda : d ≤ all.length := by omega
  have Hh := Lib.hid (RHas_yes B b size r all d w h (by omega) (by omega))
  have HR0 : Hid (∀ m, RCopyRel B b size r all d w 0 none 0 r (w.drewN m)) := fun m =>
    ⟨by rw [show (ext d 0 all).drop all.length = [] from List.drop_length]; exact World.ownsRow_nil _ _ _ _, h.drewN m, (Fr.refl _ w).drewN m, fun g hg => .inl hg, fun g _ e => by cases e⟩
  clear h h2 hfd
  go_enter Try.func26, Try.ntmps26
  go_wp2_with fail
  refine Hh.out.mono ?_
  rintro e w0 ⟨rfl, m0, rfl⟩
  have H := Lib.hid (HR0.out m0)
  clear HR0 Hh
  go_wp2_with fail
  go_loopw [8, 9] (fun s8 s9 wr => ∃ (k : Nat) (A : Option Addr) (c : Nat) (r' : Option Nat), s9 = .int .i64 (k : Int) ∧ k ≤ n ∧ s8 = .slice A k c ∧ Hid (RCopyRel B b size r all d w k A c r' wr)) (fun _ s9 _ => n - (intOf s9).toNat)
  case atStart => exact ⟨0, _, _, _, rfl, Nat.zero_le _, rfl, H⟩
  case round =>
    clear H
    obtain ⟨k, A, c, r', rfl, hk, rfl, H⟩ := hrel
    by_cases hlt : k < n
    · have hlt' : (k : Int) < (n : Int) := by omega
      have hl := ext_length d k all
      obtain ⟨x, hx⟩ : ∃ x, (ext d k all).getD ((ext d k all).length - d) 0 = x := ⟨_, rfl⟩
      have hx' : (ext d k all)[(ext d k all).length - d]? = some x := by
        rw [← hx, List.getD_eq_getElem?_getD, List.getElem?_eq_getElem (by omega)]; rfl
      have hnext : ext d (k + 1) all = ext d k all ++ [x] := by show ext d k all ++ [_] = _; rw [hx]
      have hdrop : (ext d (k + 1) all).drop all.length = (ext d k all).drop all.length ++ [x] := by rw [ext_drop, hx]
      obtain ⟨VA, vc, hb, hown, hr, hs1, hs2, hBb⟩ := H.out.win
      obtain ⟨c0, c1⟩ := hb.two
      have hblt := hb.lt
      obtain ⟨g, cap, hv, _, _⟩ := hown.form (by omega)
      injection hv with hA _ hcap
      subst hA
      subst hcap
      obtain ⟨q, hq⟩ : ∃ q, (ext d k all).length - d = q := ⟨_, rfl⟩
      rw [hq] at hx'
      have e0 := hown.cellAt q (by omega)
      rw [bys_get hx'] at e0
      obtain ⟨L, hL⟩ : ∃ L, (ext d k all).length = L := ⟨_, rfl⟩
      have HL := Lib.hid hL
      rw [hL] at c1 hq hl
      have hsub : IntKind.i64.wrap ((L : Int) - (d : Int)) = (q : Int) := by rw [IntWalk.i64_in _ (by omega)]; omega
      have hqL : q < L := by omega
      have hqL' : (q : Int) < (L : Int) := by omega
      have hL47 : L + 1 < 140737488355328 := by omega
      have Hb := Lib.hid hb
      have Hown := Lib.hid hown
      have Hnext := Lib.hid hnext
      have Hdrop := Lib.hid hdrop
      clear hb hown hx hx' hnext hdrop hq hl hL
      go_upto_region 7 with (fail)
      go_quiet (fail)
      clear hsub e0
      obtain ⟨wd, hwd⟩ : ∃ wd, wr.drewN nq = wd := ⟨_, rfl⟩
      have Hb1 : Hid (Blk wd b 61 #[.int .i64 (size : Int), .slice (some ⟨g, 0, none⟩) L vc]) := by rw [← hwd, ← HL.out]; exact Hb.out
      have Hown1 : Hid (wd.ownsRow B 5 1 (.slice (some ⟨g, 0, none⟩) L vc) L (bys (ext d k all))) := by rw [← hwd, ← HL.out]; exact Hown.out
      have Hfd : Hid (Fr (fun q => q = b ∨ some q = r') wr wd) := by rw [← hwd]; exact (Fr.refl _ wr).drewN _
      have HoA : Hid (wd.ownsRow w.heap.size 5 1 (.slice A k c) k (bys ((ext d k all).drop all.length))) := by rw [← hwd]; exact H.out.own
      rw [hwd]
      have hsz : wr.heap.size = wd.heap.size := by rw [← hwd]; rfl
      have hsz0 : w.heap.size ≤ wr.heap.size := H.out.fr.size
      have hBw : B ≤ wd.heap.size := by have := H.out.win.base; omega
      clear hwd Hb Hown c0 c1
      obtain ⟨c0, c1⟩ := Hb1.out.two
      have hblt1 := Hb1.out.lt
      go_upto_region 9 with (at_builtin; refine wpList_append_rd (w := wd.alloc (.cells #[.int .u8 (x.toNat : Int)] 5)) rfl (.tmp 45) (.tmp 47) 22 rfl B 5 i0 _ 1 1 Try.underlying22 hi0 hz0 hz1 hz2 rfl (by decide) (.slice (some ⟨g, 0, none⟩) L vc) L (bys (ext d k all)) rfl (Hown1.out.alloc _) (some ⟨wd.heap.size, 0, none⟩) 1 1 (bys [x]) rfl ⟨rfl, fun _ => ⟨_, rfl, World.news_of_block (heap_alloc_new wd _)⟩⟩ (bys_one _) (by simp only [maxLen]; omega) (by omega) (by simp; omega) ?_; intro a1 c1' w1 hown1 hg1 hat1; have hb1 := (Hb1.out.alloc (.cells #[.int .u8 (x.toNat : Int)] 5)).same (hg1.block b (by simp; omega) (own_ne Hown1.out Hb1.out (by decide))); obtain ⟨d0, d1⟩ := hb1.two; have f1 := hb1.frozen 1)
      have hr2 : (Value.slice (some ⟨g, 0, none⟩) L vc).ownBlock = r' := hr
      have hput := WinR.put (n := L + 1) (r := r') (ys := [x]) (size := size) (all := ext d k all) HL.out (Hb1.out.alloc (.cells #[.int .u8 (x.toNat : Int)] 5)) (Hown1.out.alloc _) hr2 hs1 hs2 hBb rfl hown1 hg1 hat1
      rw [← Hnext.out] at hput
      obtain ⟨r1, hW1, hF1, hA1⟩ := hput
      obtain ⟨w2, hw2⟩ : ∃ w2, w1.setCell ⟨b, 1, none⟩ (.slice a1 (L + 1) c1') = w2 := ⟨_, rfl⟩
      rw [hw2] at hW1 hF1 ⊢
      have HW1 := Lib.hid hW1
      have HF1 : Hid (Fr (fun q => q = b ∨ some q = r') wr w2) := (Hfd.out.alloc _).trans hF1
      have HA1 : Hid (∀ g, r1 = some g → r' = some g ∨ wr.heap.size ≤ g) := fun g hg => by
        rcases hA1 g hg with h | h
        · exact .inl h
        · simp at h; exact .inr (by omega)
      have HoA2 : Hid (w2.ownsRow w.heap.size 5 1 (.slice A k c) k (bys ((ext d k all).drop all.length))) := own_same HoA.out (fun q hq => by
        have hql : q < wr.heap.size := (own_lt H.out.own hq).2
        have h1 := HF1.out.block q hql (by
          rintro (e | e)
          · exact (own_bt H.out.own hq).ne H.out.win.bt.1 (by decide) e
          · exact H.out.ne q e.symm hq)
        have h2 := Hfd.out.block q hql (by
          rintro (e | e)
          · exact (own_bt H.out.own hq).ne H.out.win.bt.1 (by decide) e
          · exact H.out.ne q e.symm hq)
        exact h1.trans h2.symm)
      have hs2' : w.heap.size ≤ w2.heap.size := by have := HF1.out.size; omega
      clear hw2 hW1 hF1 hA1 hown1 hg1 hat1 hb1 d0 d1 f1 c0 c1 Hb1 Hown1 Hfd HoA hsz hr hblt1
      go_wp2_with (at_builtin; refine wpList_append_rd (w := w2.alloc (.cells #[.int .u8 (x.toNat : Int)] 5)) rfl (.tmp 51) (.tmp 53) 22 rfl w.heap.size 5 i0 _ 1 1 Try.underlying22 hi0 hz0 hz1 hz2 rfl (by decide) (.slice A k c) k (bys ((ext d k all).drop all.length)) rfl (HoA2.out.alloc _) (some ⟨w2.heap.size, 0, none⟩) 1 1 (bys [x]) rfl ⟨rfl, fun _ => ⟨_, rfl, World.news_of_block (heap_alloc_new w2 _)⟩⟩ (bys_one _) (by simp only [maxLen]; omega) (by omega) (by simp; omega) ?_; intro a3 c3 w3 hown3 hg3 hat3)
      go_roundw
      case rel =>
        refine ⟨k + 1, a3, c3, r1, by go_num, by omega, rfl, ?_⟩
        refine H.out.step HW1.out HF1.out HA1.out _ ?_ hg3 hat3
        rw [Hdrop.out, bys_append]
        exact hown3
      case measure => simp [intOf]; omega
    · obtain rfl : k = n := by omega
      go_wp2_with fail
      go_ret2
      exact ⟨_, _, _, rfl, H.out⟩
end Go.Proofs.Ytcfaocbdhfmhbaa
