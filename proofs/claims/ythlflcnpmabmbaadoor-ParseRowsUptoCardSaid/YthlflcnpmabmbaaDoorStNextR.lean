/-
  The document's Next, all ways: by the same plain numbers as the program's. No condition beyond each theorem's own.
-/
import Derived.Test.YthlflcnpmabmbaaDoorMem
import Derived.Test.YthlflcnpmabmbaaDoorStNext
import Derived.Test.YthlflcnpmabmbaaDoorStRep
import Derived.Laws.CopyOwn
import Derived.Laws.CopyRow
import Derived.Deep.RegionLaw
import Derived.Deep.RegionHeld3
import Derived.Deep.DeepCutAuto
import Derived.Deep.QuietTactic
import Derived.BigQuiet
import Derived.BigRegion
import Derived.Test.YthlflcnpmabmbaaDoorChecked
import Derived.WalkKit
import Derived.WalkSpells
import Derived.WalkLawsBesides
import Derived.Lib.Strings
import Derived.Lib.Slices
import Derived.Lib.Small
import Derived.Lib.Walk
import Derived.Lib.BitFns
import Derived.Lib.Hide
import Derived.Deep.Light
namespace Go.Proofs.YthlflcnpmabmbaaDoor
open Go.RowKit

set_option maxHeartbeats 2000000 in
theorem NextR_bad (n a b c d k y l x : Int) (h : ¬ rightP n a b c d) (w : World) : Calls Tryd.prog 51 #[stV n a b c d, yV k y l x] w (NPost (stV 0 0 0 0 0) 7 w) := by
  have hc := Right_any n a b c d
  rw [decide_eq_false h] at hc
  have h3 := three_new 48 w n a b c d k y l x
  unfold stV at hc ⊢
  unfold yV
  obtain ⟨w0, hw0⟩ : ∃ w0, (((w.alloc (.cells (stC n a b c d) 48)).alloc (.cells #[.int .i64 k, .int .u8 y, .int .i64 l, .int .i64 x] 24)).alloc (.cells (stC 0 0 0 0 0) 48)) = w0 := ⟨_, rfl⟩
  rw [hw0] at h3
  have hcc := hc w0
  clear hc
  go_enter Tryd.func51, Tryd.ntmps51
  obtain ⟨⟨s0, s1, s2, s3, s4⟩, ⟨y0, y1, y2, y3⟩, ⟨r0, r1, r2, r3, r4⟩, ⟨f0, f1, f2, f3, f4⟩, ⟨g0, g1, g2, g3, g4⟩⟩ := h3.cells
  go_wp2_with (go_at_call 49; first | (rw [hw0]; refine hcc.mono ?_) | refine hcc.mono ?_; rintro e w1 ⟨rfl, hb1⟩; clear s0 s1 s2 s3 s4 y0 y1 y2 y3 r0 r1 r2 r3 r4 f0 f1 f2 f3 f4 g0 g1 g2 g3 g4; have h31 := h3.below hb1; have hB := h31.2.2.2; obtain ⟨⟨s0, s1, s2, s3, s4⟩, ⟨y0, y1, y2, y3⟩, ⟨r0, r1, r2, r3, r4⟩, ⟨f0, f1, f2, f3, f4⟩, ⟨g0, g1, g2, g3, g4⟩⟩ := h31.cells; clear h3 hw0)
  exact bodyPost_ret (v := .tuple #[.agg (stC 0 0 0 0 0), .int .i64 7]) (by simp [results, Tryd.results51, go_sem, *]) rfl ⟨rfl, below5 hB (up2 _) _ _ _ _ _⟩
set_option maxHeartbeats 2000000 in
theorem NextR_unformed (n a b c d k y l x f : Int) (h : rightP n a b c d) (hf : formedN k l x = f) (hf0 : ¬ f = 0) (w : World) : Calls Tryd.prog 51 #[stV n a b c d, yV k y l x] w (NPost (stV 0 0 0 0 0) f w) := by
  have hfm := Formed_any k y l x
  rw [hf] at hfm
  clear hf
  have hc := Right_any n a b c d
  rw [decide_eq_true h] at hc
  have h3 := three_new 48 w n a b c d k y l x
  unfold stV at hc ⊢
  unfold yV at hfm ⊢
  obtain ⟨w0, hw0⟩ : ∃ w0, (((w.alloc (.cells (stC n a b c d) 48)).alloc (.cells #[.int .i64 k, .int .u8 y, .int .i64 l, .int .i64 x] 24)).alloc (.cells (stC 0 0 0 0 0) 48)) = w0 := ⟨_, rfl⟩
  rw [hw0] at h3
  have hcc := hc w0
  clear hc
  go_enter Tryd.func51, Tryd.ntmps51
  obtain ⟨⟨s0, s1, s2, s3, s4⟩, ⟨y0, y1, y2, y3⟩, ⟨r0, r1, r2, r3, r4⟩, ⟨f0, f1, f2, f3, f4⟩, ⟨g0, g1, g2, g3, g4⟩⟩ := h3.cells
  go_wp2_with (first | (go_at_call 49; first | (rw [hw0]; refine hcc.mono ?_) | refine hcc.mono ?_; rintro e w1 ⟨rfl, hb1⟩; clear s0 s1 s2 s3 s4 y0 y1 y2 y3 r0 r1 r2 r3 r4 f0 f1 f2 f3 f4 g0 g1 g2 g3 g4; have h31 := h3.below hb1; have hB := h31.2.2.2; obtain ⟨⟨s0, s1, s2, s3, s4⟩, ⟨y0, y1, y2, y3⟩, ⟨r0, r1, r2, r3, r4⟩, ⟨f0, f1, f2, f3, f4⟩, ⟨g0, g1, g2, g3, g4⟩⟩ := h31.cells; clear h3 hw0) | (go_at_call 37; refine (hfm w1).mono ?_; rintro e w2 ⟨rfl, hb2⟩; clear s0 s1 s2 s3 s4 y0 y1 y2 y3 r0 r1 r2 r3 r4 f0 f1 f2 f3 f4 g0 g1 g2 g3 g4; have h32 := h31.below hb2; have hB2 := h32.2.2.2; obtain ⟨⟨s0, s1, s2, s3, s4⟩, ⟨y0, y1, y2, y3⟩, ⟨r0, r1, r2, r3, r4⟩, ⟨f0, f1, f2, f3, f4⟩, ⟨g0, g1, g2, g3, g4⟩⟩ := h32.cells; clear hfm))
  exact bodyPost_ret (v := .tuple #[.agg (stC 0 0 0 0 0), .int .i64 f]) (by simp [results, Tryd.results51, go_sem, *]) rfl ⟨rfl, below5 hB2 (up2 _) _ _ _ _ _⟩
/-- the four blocks of the document's Next: behind the three the new state's, at z -/
def Four (w : World) (n a b c d k y l x : Int) (z : Nat) (m a' b' c' d' : Int) (wx : World) : Prop :=
  Three 48 w n a b c d k y l x wx ∧ Blk wx z 48 (stC m a' b' c' d') ∧ w.heap.size + 1 + 1 < z
theorem four_of {w wx : World} {n a b c d k y l x : Int} (h : Three 48 w n a b c d k y l x wx) (m a' b' c' d' : Int) : Four w n a b c d k y l x wx.heap.size m a' b' c' d' (wx.alloc (.cells (stC m a' b' c' d') 48)) :=
  ⟨⟨h.1.alloc _, h.2.1.alloc _, h.2.2.1.alloc _, h.2.2.2.alloc h.2.2.2.size _⟩, Blk.new _ _ _, h.2.2.1.lt⟩
theorem Three.drew {t : TypeId} {w wx : World} {n a b c d k y l x : Int} (h : Three t w n a b c d k y l x wx) : Three t w n a b c d k y l x wx.drew := ⟨h.1.drew, h.2.1.drew, h.2.2.1.drew, h.2.2.2.drew⟩
theorem Four.drew {w wx : World} {n a b c d k y l x : Int} {z : Nat} {m a' b' c' d' : Int} (h : Four w n a b c d k y l x z m a' b' c' d' wx) : Four w n a b c d k y l x z m a' b' c' d' wx.drew := ⟨h.1.drew, h.2.1.drew, h.2.2⟩
theorem Four.put {w wx : World} {n a b c d k y l x : Int} {z : Nat} {m a' b' c' d' : Int} (h : Four w n a b c d k y l x z m a' b' c' d' wx) (i : Nat) (v : Int) (m2 a2 b2 c2 d2 : Int) (e : (stC m a' b' c' d').setIfInBounds i (.int .i64 v) = stC m2 a2 b2 c2 d2) :
    Four w n a b c d k y l x z m2 a2 b2 c2 d2 (wx.setCell ⟨z, i, none⟩ (.int .i64 v)) :=
  ⟨⟨h.1.1.far (show w.heap.size ≠ z by have := h.2.2; omega) _, h.1.2.1.far (show w.heap.size + 1 ≠ z by have := h.2.2; omega) _, h.1.2.2.1.far (show w.heap.size + 2 ≠ z by have := h.2.2; omega) _, below1 h.1.2.2.2 (by have := h.2.2; omega) _⟩, e ▸ h.2.1.set_ i _, h.2.2⟩
theorem Four.cells {w wx : World} {n a b c d k y l x : Int} {z : Nat} {m a' b' c' d' : Int} (h : Four w n a b c d k y l x z m a' b' c' d' wx) :
    (wx.cell? ⟨z, 0, none⟩ = some (.int .i64 m) ∧ wx.cell? ⟨z, 1, none⟩ = some (.int .i64 a') ∧ wx.cell? ⟨z, 2, none⟩ = some (.int .i64 b') ∧ wx.cell? ⟨z, 3, none⟩ = some (.int .i64 c') ∧ wx.cell? ⟨z, 4, none⟩ = some (.int .i64 d')) ∧
    (wx.frozen? ⟨z, 0, none⟩ = false ∧ wx.frozen? ⟨z, 1, none⟩ = false ∧ wx.frozen? ⟨z, 2, none⟩ = false ∧ wx.frozen? ⟨z, 3, none⟩ = false ∧ wx.frozen? ⟨z, 4, none⟩ = false) :=
  ⟨⟨h.2.1.cell 0, h.2.1.cell 1, h.2.1.cell 2, h.2.1.cell 3, h.2.1.cell 4⟩, ⟨h.2.1.frozen 0, h.2.1.frozen 1, h.2.1.frozen 2, h.2.1.frozen 3, h.2.1.frozen 4⟩⟩
set_option maxHeartbeats 2000000 in
theorem NextR_plain (n a b c d k y l x : Int) (h : rightP n a b c d) (hf : formedN k l x = 0) (hk : k = 1 ∨ k = 4) (w : World) : Calls Tryd.prog 51 #[stV n a b c d, yV k y l x] w (NPost (stV (movedN n k) a b c d) 0 w) := by
  have hfm := Formed_any k y l x
  rw [hf] at hfm
  clear hf
  have k2 : ¬ k = 2 := by omega
  have k3 : ¬ k = 3 := by omega
  have hmv := moved_any n k h.2.2.2.2.1 h.2.2.2.2.2
  obtain ⟨m, hm⟩ : ∃ m, movedN n k = m := ⟨_, rfl⟩
  rw [hm] at hmv ⊢
  have hc := Right_any n a b c d
  rw [decide_eq_true h] at hc
  have h3 := three_new 48 w n a b c d k y l x
  unfold stV at hc ⊢
  unfold yV at hfm ⊢
  obtain ⟨w0, hw0⟩ : ∃ w0, (((w.alloc (.cells (stC n a b c d) 48)).alloc (.cells #[.int .i64 k, .int .u8 y, .int .i64 l, .int .i64 x] 24)).alloc (.cells (stC 0 0 0 0 0) 48)) = w0 := ⟨_, rfl⟩
  rw [hw0] at h3
  have hcc := hc w0
  clear hc
  go_enter Tryd.func51, Tryd.ntmps51
  obtain ⟨⟨s0, s1, s2, s3, s4⟩, ⟨y0, y1, y2, y3⟩, ⟨r0, r1, r2, r3, r4⟩, ⟨f0, f1, f2, f3, f4⟩, ⟨g0, g1, g2, g3, g4⟩⟩ := h3.cells
  go_upto_region 7 with (first | (go_at_call 49; first | (rw [hw0]; refine hcc.mono ?_) | refine hcc.mono ?_; rintro e w1 ⟨rfl, hb1⟩; clear s0 s1 s2 s3 s4 y0 y1 y2 y3 r0 r1 r2 r3 r4 f0 f1 f2 f3 f4 g0 g1 g2 g3 g4; have h31 := h3.below hb1; have hB := h31.2.2.2; obtain ⟨⟨s0, s1, s2, s3, s4⟩, ⟨y0, y1, y2, y3⟩, ⟨r0, r1, r2, r3, r4⟩, ⟨f0, f1, f2, f3, f4⟩, ⟨g0, g1, g2, g3, g4⟩⟩ := h31.cells; clear h3 hw0) | (go_at_call 37; refine (hfm w1).mono ?_; rintro e w2 ⟨rfl, hb2⟩; clear s0 s1 s2 s3 s4 y0 y1 y2 y3 r0 r1 r2 r3 r4 f0 f1 f2 f3 f4 g0 g1 g2 g3 g4; have h32 := h31.below hb2; have hB2 := h32.2.2.2; obtain ⟨⟨s0, s1, s2, s3, s4⟩, ⟨y0, y1, y2, y3⟩, ⟨r0, r1, r2, r3, r4⟩, ⟨f0, f1, f2, f3, f4⟩, ⟨g0, g1, g2, g3, g4⟩⟩ := h32.cells; clear hfm))
  go_cut [8] (fun s8 wx => ∃ z, s8 = .pointer (some ⟨z, 0, none⟩) ∧ Four w n a b c d k y l x z m a b c d wx)
  case first =>
    go_region_held3 (fun w' => w'.cell? ⟨w.heap.size, 0, none⟩ = some (.int .i64 n) ∧ w'.cell? ⟨w.heap.size, 1, none⟩ = some (.int .i64 a) ∧ w'.cell? ⟨w.heap.size, 2, none⟩ = some (.int .i64 b) ∧ w'.cell? ⟨w.heap.size, 3, none⟩ = some (.int .i64 c) ∧ w'.cell? ⟨w.heap.size, 4, none⟩ = some (.int .i64 d) ∧ w'.cell? ⟨w.heap.size + 1, 0, none⟩ = some (.int .i64 k))
      (first | exact ⟨s0, s1, s2, s3, s4, y0⟩ | go_keep)
      (first | (go_at_call 72; refine (hmv _).mono ?_; rintro e w' ⟨rfl, rfl⟩))
    all_goals
      go_wp2_with fail
      go_meet
      first
        | exact ⟨_, rfl, four_of h32 _ _ _ _ _⟩
        | exact ⟨_, rfl, (four_of h32 _ _ _ _ _).drew⟩
        | exact ⟨_, rfl, four_of h32.drew _ _ _ _ _⟩
        | exact ⟨_, rfl, (four_of h32.drew _ _ _ _ _).drew⟩
  case rest =>
    obtain ⟨z, rfl, h4⟩ := hcut
    clear s0 s1 s2 s3 s4 y0 y1 y2 y3 r0 r1 r2 r3 r4 f0 f1 f2 f3 f4 g0 g1 g2 g3 g4
    clear h32 h31 hB hB2
    have hB2 := h4.1.2.2.2
    obtain ⟨⟨s0, s1, s2, s3, s4⟩, ⟨y0, y1, y2, y3⟩, ⟨r0, r1, r2, r3, r4⟩, ⟨f0, f1, f2, f3, f4⟩, ⟨g0, g1, g2, g3, g4⟩⟩ := h4.1.cells
    obtain ⟨⟨t0, t1, t2, t3, t4⟩, ⟨z0, z1, z2, z3, z4⟩⟩ := h4.cells
    have hzz := h4.2.2
    go_wp2_with fail
    exact bodyPost_ret (v := .tuple #[.agg (stC m a b c d), .int .i64 0]) (by simp [results, Tryd.results51, go_sem, *]) rfl ⟨rfl, below5 hB2 (up2 _) _ _ _ _ _⟩
set_option maxHeartbeats 2000000 in
theorem NextR_match (n a b c d y l x : Int) (h : rightP n a b c d) (hf : formedN 2 l x = 0) (w : World) : Calls Tryd.prog 51 #[stV n a b c d, yV 2 y l x] w (NPost (stV (movedN n 2) x a b c) 0 w) := by
  have hfm := Formed_any 2 y l x
  rw [hf] at hfm
  clear hf
  have hmv := moved_any n 2 h.2.2.2.2.1 h.2.2.2.2.2
  obtain ⟨m, hm⟩ : ∃ m, movedN n 2 = m := ⟨_, rfl⟩
  rw [hm] at hmv ⊢
  have hc := Right_any n a b c d
  rw [decide_eq_true h] at hc
  have h3 := three_new 48 w n a b c d 2 y l x
  unfold stV at hc ⊢
  unfold yV at hfm ⊢
  obtain ⟨w0, hw0⟩ : ∃ w0, (((w.alloc (.cells (stC n a b c d) 48)).alloc (.cells #[.int .i64 2, .int .u8 y, .int .i64 l, .int .i64 x] 24)).alloc (.cells (stC 0 0 0 0 0) 48)) = w0 := ⟨_, rfl⟩
  rw [hw0] at h3
  have hcc := hc w0
  clear hc
  go_enter Tryd.func51, Tryd.ntmps51
  obtain ⟨⟨s0, s1, s2, s3, s4⟩, ⟨y0, y1, y2, y3⟩, ⟨r0, r1, r2, r3, r4⟩, ⟨f0, f1, f2, f3, f4⟩, ⟨g0, g1, g2, g3, g4⟩⟩ := h3.cells
  go_upto_region 7 with (first | (go_at_call 49; first | (rw [hw0]; refine hcc.mono ?_) | refine hcc.mono ?_; rintro e w1 ⟨rfl, hb1⟩; clear s0 s1 s2 s3 s4 y0 y1 y2 y3 r0 r1 r2 r3 r4 f0 f1 f2 f3 f4 g0 g1 g2 g3 g4; have h31 := h3.below hb1; have hB := h31.2.2.2; obtain ⟨⟨s0, s1, s2, s3, s4⟩, ⟨y0, y1, y2, y3⟩, ⟨r0, r1, r2, r3, r4⟩, ⟨f0, f1, f2, f3, f4⟩, ⟨g0, g1, g2, g3, g4⟩⟩ := h31.cells; clear h3 hw0) | (go_at_call 37; refine (hfm w1).mono ?_; rintro e w2 ⟨rfl, hb2⟩; clear s0 s1 s2 s3 s4 y0 y1 y2 y3 r0 r1 r2 r3 r4 f0 f1 f2 f3 f4 g0 g1 g2 g3 g4; have h32 := h31.below hb2; have hB2 := h32.2.2.2; obtain ⟨⟨s0, s1, s2, s3, s4⟩, ⟨y0, y1, y2, y3⟩, ⟨r0, r1, r2, r3, r4⟩, ⟨f0, f1, f2, f3, f4⟩, ⟨g0, g1, g2, g3, g4⟩⟩ := h32.cells; clear hfm))
  go_cut [8] (fun s8 wx => ∃ z, s8 = .pointer (some ⟨z, 0, none⟩) ∧ Four w n a b c d 2 y l x z m a b c d wx)
  case first =>
    go_region_held3 (fun w' => w'.cell? ⟨w.heap.size, 0, none⟩ = some (.int .i64 n) ∧ w'.cell? ⟨w.heap.size, 1, none⟩ = some (.int .i64 a) ∧ w'.cell? ⟨w.heap.size, 2, none⟩ = some (.int .i64 b) ∧ w'.cell? ⟨w.heap.size, 3, none⟩ = some (.int .i64 c) ∧ w'.cell? ⟨w.heap.size, 4, none⟩ = some (.int .i64 d) ∧ w'.cell? ⟨w.heap.size + 1, 0, none⟩ = some (.int .i64 2))
      (first | exact ⟨s0, s1, s2, s3, s4, y0⟩ | go_keep)
      (first | (go_at_call 72; refine (hmv _).mono ?_; rintro e w' ⟨rfl, rfl⟩))
    all_goals
      go_wp2_with fail
      go_meet
      first
        | exact ⟨_, rfl, four_of h32 _ _ _ _ _⟩
        | exact ⟨_, rfl, (four_of h32 _ _ _ _ _).drew⟩
        | exact ⟨_, rfl, four_of h32.drew _ _ _ _ _⟩
        | exact ⟨_, rfl, (four_of h32.drew _ _ _ _ _).drew⟩
  case rest =>
    obtain ⟨z, rfl, h4⟩ := hcut
    clear s0 s1 s2 s3 s4 y0 y1 y2 y3 r0 r1 r2 r3 r4 f0 f1 f2 f3 f4 g0 g1 g2 g3 g4
    clear h32 h31 hB hB2
    have hB2 := h4.1.2.2.2
    obtain ⟨⟨s0, s1, s2, s3, s4⟩, ⟨y0, y1, y2, y3⟩, ⟨r0, r1, r2, r3, r4⟩, ⟨f0, f1, f2, f3, f4⟩, ⟨g0, g1, g2, g3, g4⟩⟩ := h4.1.cells
    obtain ⟨⟨t0, t1, t2, t3, t4⟩, ⟨z0, z1, z2, z3, z4⟩⟩ := h4.cells
    have hzz := h4.2.2
    go_wp2_with fail
    exact bodyPost_ret (v := .tuple #[.agg (stC m x a b c), .int .i64 0]) (by simp [results, Tryd.results51, go_sem, *]) rfl ⟨rfl, below5 (below4 hB2 (by omega) _ _ _ _) (up2 _) _ _ _ _ _⟩
set_option maxHeartbeats 2000000 in
theorem NextR_rep0 (n a b c d y l : Int) (h : rightP n a b c d) (hf : formedN 3 l 0 = 0) (w : World) : Calls Tryd.prog 51 #[stV n a b c d, yV 3 y l 0] w (NPost (stV (movedN n 3) a b c d) 0 w) := by
  have hfm := Formed_any 3 y l 0
  rw [hf] at hfm
  clear hf
  have hmv := moved_any n 3 h.2.2.2.2.1 h.2.2.2.2.2
  obtain ⟨m, hm⟩ : ∃ m, movedN n 3 = m := ⟨_, rfl⟩
  rw [hm] at hmv ⊢
  have hc := Right_any n a b c d
  rw [decide_eq_true h] at hc
  have h3 := three_new 48 w n a b c d 3 y l 0
  unfold stV at hc ⊢
  unfold yV at hfm ⊢
  obtain ⟨w0, hw0⟩ : ∃ w0, (((w.alloc (.cells (stC n a b c d) 48)).alloc (.cells #[.int .i64 3, .int .u8 y, .int .i64 l, .int .i64 0] 24)).alloc (.cells (stC 0 0 0 0 0) 48)) = w0 := ⟨_, rfl⟩
  rw [hw0] at h3
  have hcc := hc w0
  clear hc
  go_enter Tryd.func51, Tryd.ntmps51
  obtain ⟨⟨s0, s1, s2, s3, s4⟩, ⟨y0, y1, y2, y3⟩, ⟨r0, r1, r2, r3, r4⟩, ⟨f0, f1, f2, f3, f4⟩, ⟨g0, g1, g2, g3, g4⟩⟩ := h3.cells
  go_upto_region 7 with (first | (go_at_call 49; first | (rw [hw0]; refine hcc.mono ?_) | refine hcc.mono ?_; rintro e w1 ⟨rfl, hb1⟩; clear s0 s1 s2 s3 s4 y0 y1 y2 y3 r0 r1 r2 r3 r4 f0 f1 f2 f3 f4 g0 g1 g2 g3 g4; have h31 := h3.below hb1; have hB := h31.2.2.2; obtain ⟨⟨s0, s1, s2, s3, s4⟩, ⟨y0, y1, y2, y3⟩, ⟨r0, r1, r2, r3, r4⟩, ⟨f0, f1, f2, f3, f4⟩, ⟨g0, g1, g2, g3, g4⟩⟩ := h31.cells; clear h3 hw0) | (go_at_call 37; refine (hfm w1).mono ?_; rintro e w2 ⟨rfl, hb2⟩; clear s0 s1 s2 s3 s4 y0 y1 y2 y3 r0 r1 r2 r3 r4 f0 f1 f2 f3 f4 g0 g1 g2 g3 g4; have h32 := h31.below hb2; have hB2 := h32.2.2.2; obtain ⟨⟨s0, s1, s2, s3, s4⟩, ⟨y0, y1, y2, y3⟩, ⟨r0, r1, r2, r3, r4⟩, ⟨f0, f1, f2, f3, f4⟩, ⟨g0, g1, g2, g3, g4⟩⟩ := h32.cells; clear hfm))
  go_cut [8] (fun s8 wx => ∃ z, s8 = .pointer (some ⟨z, 0, none⟩) ∧ Four w n a b c d 3 y l 0 z m a b c d wx)
  case first =>
    go_region_held3 (fun w' => w'.cell? ⟨w.heap.size, 0, none⟩ = some (.int .i64 n) ∧ w'.cell? ⟨w.heap.size, 1, none⟩ = some (.int .i64 a) ∧ w'.cell? ⟨w.heap.size, 2, none⟩ = some (.int .i64 b) ∧ w'.cell? ⟨w.heap.size, 3, none⟩ = some (.int .i64 c) ∧ w'.cell? ⟨w.heap.size, 4, none⟩ = some (.int .i64 d) ∧ w'.cell? ⟨w.heap.size + 1, 0, none⟩ = some (.int .i64 3))
      (first | exact ⟨s0, s1, s2, s3, s4, y0⟩ | go_keep)
      (first | (go_at_call 72; refine (hmv _).mono ?_; rintro e w' ⟨rfl, rfl⟩))
    all_goals
      go_wp2_with fail
      go_meet
      first
        | exact ⟨_, rfl, four_of h32 _ _ _ _ _⟩
        | exact ⟨_, rfl, (four_of h32 _ _ _ _ _).drew⟩
        | exact ⟨_, rfl, four_of h32.drew _ _ _ _ _⟩
        | exact ⟨_, rfl, (four_of h32.drew _ _ _ _ _).drew⟩
  case rest =>
    obtain ⟨z, rfl, h4⟩ := hcut
    clear s0 s1 s2 s3 s4 y0 y1 y2 y3 r0 r1 r2 r3 r4 f0 f1 f2 f3 f4 g0 g1 g2 g3 g4
    clear h32 h31 hB hB2
    have hB2 := h4.1.2.2.2
    obtain ⟨⟨s0, s1, s2, s3, s4⟩, ⟨y0, y1, y2, y3⟩, ⟨r0, r1, r2, r3, r4⟩, ⟨f0, f1, f2, f3, f4⟩, ⟨g0, g1, g2, g3, g4⟩⟩ := h4.1.cells
    obtain ⟨⟨t0, t1, t2, t3, t4⟩, ⟨z0, z1, z2, z3, z4⟩⟩ := h4.cells
    have hzz := h4.2.2
    go_wp2_with fail
    go_loopw [9, 10] (fun s9 s10 wx => (s9 = .int .i64 0 ∧ s10 = .int .i64 0 ∧ Four w n a b c d 3 y l 0 z m a b c d wx) ∨ (s9 = .int .i64 0 ∧ s10 = .int .i64 1 ∧ Four w n a b c d 3 y l 0 z m a b c d wx) ∨ (s9 = .int .i64 1 ∧ s10 = .int .i64 2 ∧ Four w n a b c d 3 y l 0 z m a b c d wx) ∨ (s9 = .int .i64 2 ∧ s10 = .int .i64 3 ∧ Four w n a b c d 3 y l 0 z m a b c d wx) ∨ (s9 = .int .i64 3 ∧ s10 = .int .i64 4 ∧ Four w n a b c d 3 y l 0 z m a b c d wx)) (fun _ s10 _ => 4 - (intOf s10).toNat)
    case atStart => exact .inl ⟨rfl, rfl, h4.put 1 a m a b c d rfl⟩
    case round =>
      clear s0 s1 s2 s3 s4 y0 y1 y2 y3 r0 r1 r2 r3 r4 f0 f1 f2 f3 f4 g0 g1 g2 g3 g4 t0 t1 t2 t3 t4 z0 z1 z2 z3 z4
      clear h4 hB2
      rcases hrel with ⟨rfl, rfl, h4⟩ | ⟨rfl, rfl, h4⟩ | ⟨rfl, rfl, h4⟩ | ⟨rfl, rfl, h4⟩ | ⟨rfl, rfl, h4⟩
      · obtain ⟨⟨s0, s1, s2, s3, s4⟩, ⟨y0, y1, y2, y3⟩, ⟨r0, r1, r2, r3, r4⟩, ⟨f0, f1, f2, f3, f4⟩, ⟨g0, g1, g2, g3, g4⟩⟩ := h4.1.cells
        obtain ⟨⟨t0, t1, t2, t3, t4⟩, ⟨z0, z1, z2, z3, z4⟩⟩ := h4.cells
        go_wp2_with fail
        go_roundw
        case rel => exact .inr (.inl ⟨rfl, rfl, h4⟩)
        case measure => simp [intOf]
      · obtain ⟨⟨s0, s1, s2, s3, s4⟩, ⟨y0, y1, y2, y3⟩, ⟨r0, r1, r2, r3, r4⟩, ⟨f0, f1, f2, f3, f4⟩, ⟨g0, g1, g2, g3, g4⟩⟩ := h4.1.cells
        obtain ⟨⟨t0, t1, t2, t3, t4⟩, ⟨z0, z1, z2, z3, z4⟩⟩ := h4.cells
        go_wp2_with fail
        go_roundw
        case rel => exact .inr (.inr (.inl ⟨rfl, rfl, h4.put 2 b m a b c d rfl⟩))
        case measure => simp [intOf]
      · obtain ⟨⟨s0, s1, s2, s3, s4⟩, ⟨y0, y1, y2, y3⟩, ⟨r0, r1, r2, r3, r4⟩, ⟨f0, f1, f2, f3, f4⟩, ⟨g0, g1, g2, g3, g4⟩⟩ := h4.1.cells
        obtain ⟨⟨t0, t1, t2, t3, t4⟩, ⟨z0, z1, z2, z3, z4⟩⟩ := h4.cells
        go_wp2_with fail
        go_roundw
        case rel => exact .inr (.inr (.inr (.inl ⟨rfl, rfl, h4.put 3 c m a b c d rfl⟩)))
        case measure => simp [intOf]
      · obtain ⟨⟨s0, s1, s2, s3, s4⟩, ⟨y0, y1, y2, y3⟩, ⟨r0, r1, r2, r3, r4⟩, ⟨f0, f1, f2, f3, f4⟩, ⟨g0, g1, g2, g3, g4⟩⟩ := h4.1.cells
        obtain ⟨⟨t0, t1, t2, t3, t4⟩, ⟨z0, z1, z2, z3, z4⟩⟩ := h4.cells
        go_wp2_with fail
        go_roundw
        case rel => exact .inr (.inr (.inr (.inr (⟨rfl, rfl, h4.put 4 d m a b c d rfl⟩))))
        case measure => simp [intOf]
      · obtain ⟨⟨s0, s1, s2, s3, s4⟩, ⟨y0, y1, y2, y3⟩, ⟨r0, r1, r2, r3, r4⟩, ⟨f0, f1, f2, f3, f4⟩, ⟨g0, g1, g2, g3, g4⟩⟩ := h4.1.cells
        obtain ⟨⟨t0, t1, t2, t3, t4⟩, ⟨z0, z1, z2, z3, z4⟩⟩ := h4.cells
        have hB2 := h4.1.2.2.2
        go_wp2_with fail
        exact bodyPost_ret (v := .tuple #[.agg (stC m a b c d), .int .i64 0]) (by simp [results, Tryd.results51, go_sem, *]) rfl ⟨rfl, below5 hB2 (up2 _) _ _ _ _ _⟩
set_option maxHeartbeats 2000000 in
theorem NextR_rep1 (n a b c d y l : Int) (h : rightP n a b c d) (hf : formedN 3 l 1 = 0) (w : World) : Calls Tryd.prog 51 #[stV n a b c d, yV 3 y l 1] w (NPost (stV (movedN n 3) b a c d) 0 w) := by
  have hfm := Formed_any 3 y l 1
  rw [hf] at hfm
  clear hf
  have hmv := moved_any n 3 h.2.2.2.2.1 h.2.2.2.2.2
  obtain ⟨m, hm⟩ : ∃ m, movedN n 3 = m := ⟨_, rfl⟩
  rw [hm] at hmv ⊢
  have hc := Right_any n a b c d
  rw [decide_eq_true h] at hc
  have h3 := three_new 48 w n a b c d 3 y l 1
  unfold stV at hc ⊢
  unfold yV at hfm ⊢
  obtain ⟨w0, hw0⟩ : ∃ w0, (((w.alloc (.cells (stC n a b c d) 48)).alloc (.cells #[.int .i64 3, .int .u8 y, .int .i64 l, .int .i64 1] 24)).alloc (.cells (stC 0 0 0 0 0) 48)) = w0 := ⟨_, rfl⟩
  rw [hw0] at h3
  have hcc := hc w0
  clear hc
  go_enter Tryd.func51, Tryd.ntmps51
  obtain ⟨⟨s0, s1, s2, s3, s4⟩, ⟨y0, y1, y2, y3⟩, ⟨r0, r1, r2, r3, r4⟩, ⟨f0, f1, f2, f3, f4⟩, ⟨g0, g1, g2, g3, g4⟩⟩ := h3.cells
  go_upto_region 7 with (first | (go_at_call 49; first | (rw [hw0]; refine hcc.mono ?_) | refine hcc.mono ?_; rintro e w1 ⟨rfl, hb1⟩; clear s0 s1 s2 s3 s4 y0 y1 y2 y3 r0 r1 r2 r3 r4 f0 f1 f2 f3 f4 g0 g1 g2 g3 g4; have h31 := h3.below hb1; have hB := h31.2.2.2; obtain ⟨⟨s0, s1, s2, s3, s4⟩, ⟨y0, y1, y2, y3⟩, ⟨r0, r1, r2, r3, r4⟩, ⟨f0, f1, f2, f3, f4⟩, ⟨g0, g1, g2, g3, g4⟩⟩ := h31.cells; clear h3 hw0) | (go_at_call 37; refine (hfm w1).mono ?_; rintro e w2 ⟨rfl, hb2⟩; clear s0 s1 s2 s3 s4 y0 y1 y2 y3 r0 r1 r2 r3 r4 f0 f1 f2 f3 f4 g0 g1 g2 g3 g4; have h32 := h31.below hb2; have hB2 := h32.2.2.2; obtain ⟨⟨s0, s1, s2, s3, s4⟩, ⟨y0, y1, y2, y3⟩, ⟨r0, r1, r2, r3, r4⟩, ⟨f0, f1, f2, f3, f4⟩, ⟨g0, g1, g2, g3, g4⟩⟩ := h32.cells; clear hfm))
  go_cut [8] (fun s8 wx => ∃ z, s8 = .pointer (some ⟨z, 0, none⟩) ∧ Four w n a b c d 3 y l 1 z m a b c d wx)
  case first =>
    go_region_held3 (fun w' => w'.cell? ⟨w.heap.size, 0, none⟩ = some (.int .i64 n) ∧ w'.cell? ⟨w.heap.size, 1, none⟩ = some (.int .i64 a) ∧ w'.cell? ⟨w.heap.size, 2, none⟩ = some (.int .i64 b) ∧ w'.cell? ⟨w.heap.size, 3, none⟩ = some (.int .i64 c) ∧ w'.cell? ⟨w.heap.size, 4, none⟩ = some (.int .i64 d) ∧ w'.cell? ⟨w.heap.size + 1, 0, none⟩ = some (.int .i64 3))
      (first | exact ⟨s0, s1, s2, s3, s4, y0⟩ | go_keep)
      (first | (go_at_call 72; refine (hmv _).mono ?_; rintro e w' ⟨rfl, rfl⟩))
    all_goals
      go_wp2_with fail
      go_meet
      first
        | exact ⟨_, rfl, four_of h32 _ _ _ _ _⟩
        | exact ⟨_, rfl, (four_of h32 _ _ _ _ _).drew⟩
        | exact ⟨_, rfl, four_of h32.drew _ _ _ _ _⟩
        | exact ⟨_, rfl, (four_of h32.drew _ _ _ _ _).drew⟩
  case rest =>
    obtain ⟨z, rfl, h4⟩ := hcut
    clear s0 s1 s2 s3 s4 y0 y1 y2 y3 r0 r1 r2 r3 r4 f0 f1 f2 f3 f4 g0 g1 g2 g3 g4
    clear h32 h31 hB hB2
    have hB2 := h4.1.2.2.2
    obtain ⟨⟨s0, s1, s2, s3, s4⟩, ⟨y0, y1, y2, y3⟩, ⟨r0, r1, r2, r3, r4⟩, ⟨f0, f1, f2, f3, f4⟩, ⟨g0, g1, g2, g3, g4⟩⟩ := h4.1.cells
    obtain ⟨⟨t0, t1, t2, t3, t4⟩, ⟨z0, z1, z2, z3, z4⟩⟩ := h4.cells
    have hzz := h4.2.2
    go_wp2_with fail
    go_loopw [9, 10] (fun s9 s10 wx => (s9 = .int .i64 0 ∧ s10 = .int .i64 0 ∧ Four w n a b c d 3 y l 1 z m b b c d wx) ∨ (s9 = .int .i64 1 ∧ s10 = .int .i64 1 ∧ Four w n a b c d 3 y l 1 z m b a c d wx) ∨ (s9 = .int .i64 1 ∧ s10 = .int .i64 2 ∧ Four w n a b c d 3 y l 1 z m b a c d wx) ∨ (s9 = .int .i64 2 ∧ s10 = .int .i64 3 ∧ Four w n a b c d 3 y l 1 z m b a c d wx) ∨ (s9 = .int .i64 3 ∧ s10 = .int .i64 4 ∧ Four w n a b c d 3 y l 1 z m b a c d wx)) (fun _ s10 _ => 4 - (intOf s10).toNat)
    case atStart => exact .inl ⟨rfl, rfl, h4.put 1 b m b b c d rfl⟩
    case round =>
      clear s0 s1 s2 s3 s4 y0 y1 y2 y3 r0 r1 r2 r3 r4 f0 f1 f2 f3 f4 g0 g1 g2 g3 g4 t0 t1 t2 t3 t4 z0 z1 z2 z3 z4
      clear h4 hB2
      rcases hrel with ⟨rfl, rfl, h4⟩ | ⟨rfl, rfl, h4⟩ | ⟨rfl, rfl, h4⟩ | ⟨rfl, rfl, h4⟩ | ⟨rfl, rfl, h4⟩
      · obtain ⟨⟨s0, s1, s2, s3, s4⟩, ⟨y0, y1, y2, y3⟩, ⟨r0, r1, r2, r3, r4⟩, ⟨f0, f1, f2, f3, f4⟩, ⟨g0, g1, g2, g3, g4⟩⟩ := h4.1.cells
        obtain ⟨⟨t0, t1, t2, t3, t4⟩, ⟨z0, z1, z2, z3, z4⟩⟩ := h4.cells
        go_wp2_with fail
        go_roundw
        case rel => exact .inr (.inl ⟨rfl, rfl, h4.put 2 a m b a c d rfl⟩)
        case measure => simp [intOf]
      · obtain ⟨⟨s0, s1, s2, s3, s4⟩, ⟨y0, y1, y2, y3⟩, ⟨r0, r1, r2, r3, r4⟩, ⟨f0, f1, f2, f3, f4⟩, ⟨g0, g1, g2, g3, g4⟩⟩ := h4.1.cells
        obtain ⟨⟨t0, t1, t2, t3, t4⟩, ⟨z0, z1, z2, z3, z4⟩⟩ := h4.cells
        go_wp2_with fail
        go_roundw
        case rel => exact .inr (.inr (.inl ⟨rfl, rfl, h4⟩))
        case measure => simp [intOf]
      · obtain ⟨⟨s0, s1, s2, s3, s4⟩, ⟨y0, y1, y2, y3⟩, ⟨r0, r1, r2, r3, r4⟩, ⟨f0, f1, f2, f3, f4⟩, ⟨g0, g1, g2, g3, g4⟩⟩ := h4.1.cells
        obtain ⟨⟨t0, t1, t2, t3, t4⟩, ⟨z0, z1, z2, z3, z4⟩⟩ := h4.cells
        go_wp2_with fail
        go_roundw
        case rel => exact .inr (.inr (.inr (.inl ⟨rfl, rfl, h4.put 3 c m b a c d rfl⟩)))
        case measure => simp [intOf]
      · obtain ⟨⟨s0, s1, s2, s3, s4⟩, ⟨y0, y1, y2, y3⟩, ⟨r0, r1, r2, r3, r4⟩, ⟨f0, f1, f2, f3, f4⟩, ⟨g0, g1, g2, g3, g4⟩⟩ := h4.1.cells
        obtain ⟨⟨t0, t1, t2, t3, t4⟩, ⟨z0, z1, z2, z3, z4⟩⟩ := h4.cells
        go_wp2_with fail
        go_roundw
        case rel => exact .inr (.inr (.inr (.inr (⟨rfl, rfl, h4.put 4 d m b a c d rfl⟩))))
        case measure => simp [intOf]
      · obtain ⟨⟨s0, s1, s2, s3, s4⟩, ⟨y0, y1, y2, y3⟩, ⟨r0, r1, r2, r3, r4⟩, ⟨f0, f1, f2, f3, f4⟩, ⟨g0, g1, g2, g3, g4⟩⟩ := h4.1.cells
        obtain ⟨⟨t0, t1, t2, t3, t4⟩, ⟨z0, z1, z2, z3, z4⟩⟩ := h4.cells
        have hB2 := h4.1.2.2.2
        go_wp2_with fail
        exact bodyPost_ret (v := .tuple #[.agg (stC m b a c d), .int .i64 0]) (by simp [results, Tryd.results51, go_sem, *]) rfl ⟨rfl, below5 hB2 (up2 _) _ _ _ _ _⟩
set_option maxHeartbeats 2000000 in
theorem NextR_rep2 (n a b c d y l : Int) (h : rightP n a b c d) (hf : formedN 3 l 2 = 0) (w : World) : Calls Tryd.prog 51 #[stV n a b c d, yV 3 y l 2] w (NPost (stV (movedN n 3) c a b d) 0 w) := by
  have hfm := Formed_any 3 y l 2
  rw [hf] at hfm
  clear hf
  have hmv := moved_any n 3 h.2.2.2.2.1 h.2.2.2.2.2
  obtain ⟨m, hm⟩ : ∃ m, movedN n 3 = m := ⟨_, rfl⟩
  rw [hm] at hmv ⊢
  have hc := Right_any n a b c d
  rw [decide_eq_true h] at hc
  have h3 := three_new 48 w n a b c d 3 y l 2
  unfold stV at hc ⊢
  unfold yV at hfm ⊢
  obtain ⟨w0, hw0⟩ : ∃ w0, (((w.alloc (.cells (stC n a b c d) 48)).alloc (.cells #[.int .i64 3, .int .u8 y, .int .i64 l, .int .i64 2] 24)).alloc (.cells (stC 0 0 0 0 0) 48)) = w0 := ⟨_, rfl⟩
  rw [hw0] at h3
  have hcc := hc w0
  clear hc
  go_enter Tryd.func51, Tryd.ntmps51
  obtain ⟨⟨s0, s1, s2, s3, s4⟩, ⟨y0, y1, y2, y3⟩, ⟨r0, r1, r2, r3, r4⟩, ⟨f0, f1, f2, f3, f4⟩, ⟨g0, g1, g2, g3, g4⟩⟩ := h3.cells
  go_upto_region 7 with (first | (go_at_call 49; first | (rw [hw0]; refine hcc.mono ?_) | refine hcc.mono ?_; rintro e w1 ⟨rfl, hb1⟩; clear s0 s1 s2 s3 s4 y0 y1 y2 y3 r0 r1 r2 r3 r4 f0 f1 f2 f3 f4 g0 g1 g2 g3 g4; have h31 := h3.below hb1; have hB := h31.2.2.2; obtain ⟨⟨s0, s1, s2, s3, s4⟩, ⟨y0, y1, y2, y3⟩, ⟨r0, r1, r2, r3, r4⟩, ⟨f0, f1, f2, f3, f4⟩, ⟨g0, g1, g2, g3, g4⟩⟩ := h31.cells; clear h3 hw0) | (go_at_call 37; refine (hfm w1).mono ?_; rintro e w2 ⟨rfl, hb2⟩; clear s0 s1 s2 s3 s4 y0 y1 y2 y3 r0 r1 r2 r3 r4 f0 f1 f2 f3 f4 g0 g1 g2 g3 g4; have h32 := h31.below hb2; have hB2 := h32.2.2.2; obtain ⟨⟨s0, s1, s2, s3, s4⟩, ⟨y0, y1, y2, y3⟩, ⟨r0, r1, r2, r3, r4⟩, ⟨f0, f1, f2, f3, f4⟩, ⟨g0, g1, g2, g3, g4⟩⟩ := h32.cells; clear hfm))
  go_cut [8] (fun s8 wx => ∃ z, s8 = .pointer (some ⟨z, 0, none⟩) ∧ Four w n a b c d 3 y l 2 z m a b c d wx)
  case first =>
    go_region_held3 (fun w' => w'.cell? ⟨w.heap.size, 0, none⟩ = some (.int .i64 n) ∧ w'.cell? ⟨w.heap.size, 1, none⟩ = some (.int .i64 a) ∧ w'.cell? ⟨w.heap.size, 2, none⟩ = some (.int .i64 b) ∧ w'.cell? ⟨w.heap.size, 3, none⟩ = some (.int .i64 c) ∧ w'.cell? ⟨w.heap.size, 4, none⟩ = some (.int .i64 d) ∧ w'.cell? ⟨w.heap.size + 1, 0, none⟩ = some (.int .i64 3))
      (first | exact ⟨s0, s1, s2, s3, s4, y0⟩ | go_keep)
      (first | (go_at_call 72; refine (hmv _).mono ?_; rintro e w' ⟨rfl, rfl⟩))
    all_goals
      go_wp2_with fail
      go_meet
      first
        | exact ⟨_, rfl, four_of h32 _ _ _ _ _⟩
        | exact ⟨_, rfl, (four_of h32 _ _ _ _ _).drew⟩
        | exact ⟨_, rfl, four_of h32.drew _ _ _ _ _⟩
        | exact ⟨_, rfl, (four_of h32.drew _ _ _ _ _).drew⟩
  case rest =>
    obtain ⟨z, rfl, h4⟩ := hcut
    clear s0 s1 s2 s3 s4 y0 y1 y2 y3 r0 r1 r2 r3 r4 f0 f1 f2 f3 f4 g0 g1 g2 g3 g4
    clear h32 h31 hB hB2
    have hB2 := h4.1.2.2.2
    obtain ⟨⟨s0, s1, s2, s3, s4⟩, ⟨y0, y1, y2, y3⟩, ⟨r0, r1, r2, r3, r4⟩, ⟨f0, f1, f2, f3, f4⟩, ⟨g0, g1, g2, g3, g4⟩⟩ := h4.1.cells
    obtain ⟨⟨t0, t1, t2, t3, t4⟩, ⟨z0, z1, z2, z3, z4⟩⟩ := h4.cells
    have hzz := h4.2.2
    go_wp2_with fail
    go_loopw [9, 10] (fun s9 s10 wx => (s9 = .int .i64 0 ∧ s10 = .int .i64 0 ∧ Four w n a b c d 3 y l 2 z m c b c d wx) ∨ (s9 = .int .i64 1 ∧ s10 = .int .i64 1 ∧ Four w n a b c d 3 y l 2 z m c a c d wx) ∨ (s9 = .int .i64 2 ∧ s10 = .int .i64 2 ∧ Four w n a b c d 3 y l 2 z m c a b d wx) ∨ (s9 = .int .i64 2 ∧ s10 = .int .i64 3 ∧ Four w n a b c d 3 y l 2 z m c a b d wx) ∨ (s9 = .int .i64 3 ∧ s10 = .int .i64 4 ∧ Four w n a b c d 3 y l 2 z m c a b d wx)) (fun _ s10 _ => 4 - (intOf s10).toNat)
    case atStart => exact .inl ⟨rfl, rfl, h4.put 1 c m c b c d rfl⟩
    case round =>
      clear s0 s1 s2 s3 s4 y0 y1 y2 y3 r0 r1 r2 r3 r4 f0 f1 f2 f3 f4 g0 g1 g2 g3 g4 t0 t1 t2 t3 t4 z0 z1 z2 z3 z4
      clear h4 hB2
      rcases hrel with ⟨rfl, rfl, h4⟩ | ⟨rfl, rfl, h4⟩ | ⟨rfl, rfl, h4⟩ | ⟨rfl, rfl, h4⟩ | ⟨rfl, rfl, h4⟩
      · obtain ⟨⟨s0, s1, s2, s3, s4⟩, ⟨y0, y1, y2, y3⟩, ⟨r0, r1, r2, r3, r4⟩, ⟨f0, f1, f2, f3, f4⟩, ⟨g0, g1, g2, g3, g4⟩⟩ := h4.1.cells
        obtain ⟨⟨t0, t1, t2, t3, t4⟩, ⟨z0, z1, z2, z3, z4⟩⟩ := h4.cells
        go_wp2_with fail
        go_roundw
        case rel => exact .inr (.inl ⟨rfl, rfl, h4.put 2 a m c a c d rfl⟩)
        case measure => simp [intOf]
      · obtain ⟨⟨s0, s1, s2, s3, s4⟩, ⟨y0, y1, y2, y3⟩, ⟨r0, r1, r2, r3, r4⟩, ⟨f0, f1, f2, f3, f4⟩, ⟨g0, g1, g2, g3, g4⟩⟩ := h4.1.cells
        obtain ⟨⟨t0, t1, t2, t3, t4⟩, ⟨z0, z1, z2, z3, z4⟩⟩ := h4.cells
        go_wp2_with fail
        go_roundw
        case rel => exact .inr (.inr (.inl ⟨rfl, rfl, h4.put 3 b m c a b d rfl⟩))
        case measure => simp [intOf]
      · obtain ⟨⟨s0, s1, s2, s3, s4⟩, ⟨y0, y1, y2, y3⟩, ⟨r0, r1, r2, r3, r4⟩, ⟨f0, f1, f2, f3, f4⟩, ⟨g0, g1, g2, g3, g4⟩⟩ := h4.1.cells
        obtain ⟨⟨t0, t1, t2, t3, t4⟩, ⟨z0, z1, z2, z3, z4⟩⟩ := h4.cells
        go_wp2_with fail
        go_roundw
        case rel => exact .inr (.inr (.inr (.inl ⟨rfl, rfl, h4⟩)))
        case measure => simp [intOf]
      · obtain ⟨⟨s0, s1, s2, s3, s4⟩, ⟨y0, y1, y2, y3⟩, ⟨r0, r1, r2, r3, r4⟩, ⟨f0, f1, f2, f3, f4⟩, ⟨g0, g1, g2, g3, g4⟩⟩ := h4.1.cells
        obtain ⟨⟨t0, t1, t2, t3, t4⟩, ⟨z0, z1, z2, z3, z4⟩⟩ := h4.cells
        go_wp2_with fail
        go_roundw
        case rel => exact .inr (.inr (.inr (.inr (⟨rfl, rfl, h4.put 4 d m c a b d rfl⟩))))
        case measure => simp [intOf]
      · obtain ⟨⟨s0, s1, s2, s3, s4⟩, ⟨y0, y1, y2, y3⟩, ⟨r0, r1, r2, r3, r4⟩, ⟨f0, f1, f2, f3, f4⟩, ⟨g0, g1, g2, g3, g4⟩⟩ := h4.1.cells
        obtain ⟨⟨t0, t1, t2, t3, t4⟩, ⟨z0, z1, z2, z3, z4⟩⟩ := h4.cells
        have hB2 := h4.1.2.2.2
        go_wp2_with fail
        exact bodyPost_ret (v := .tuple #[.agg (stC m c a b d), .int .i64 0]) (by simp [results, Tryd.results51, go_sem, *]) rfl ⟨rfl, below5 hB2 (up2 _) _ _ _ _ _⟩
set_option maxHeartbeats 2000000 in
theorem NextR_rep3 (n a b c d y l : Int) (h : rightP n a b c d) (hf : formedN 3 l 3 = 0) (w : World) : Calls Tryd.prog 51 #[stV n a b c d, yV 3 y l 3] w (NPost (stV (movedN n 3) d a b c) 0 w) := by
  have hfm := Formed_any 3 y l 3
  rw [hf] at hfm
  clear hf
  have hmv := moved_any n 3 h.2.2.2.2.1 h.2.2.2.2.2
  obtain ⟨m, hm⟩ : ∃ m, movedN n 3 = m := ⟨_, rfl⟩
  rw [hm] at hmv ⊢
  have hc := Right_any n a b c d
  rw [decide_eq_true h] at hc
  have h3 := three_new 48 w n a b c d 3 y l 3
  unfold stV at hc ⊢
  unfold yV at hfm ⊢
  obtain ⟨w0, hw0⟩ : ∃ w0, (((w.alloc (.cells (stC n a b c d) 48)).alloc (.cells #[.int .i64 3, .int .u8 y, .int .i64 l, .int .i64 3] 24)).alloc (.cells (stC 0 0 0 0 0) 48)) = w0 := ⟨_, rfl⟩
  rw [hw0] at h3
  have hcc := hc w0
  clear hc
  go_enter Tryd.func51, Tryd.ntmps51
  obtain ⟨⟨s0, s1, s2, s3, s4⟩, ⟨y0, y1, y2, y3⟩, ⟨r0, r1, r2, r3, r4⟩, ⟨f0, f1, f2, f3, f4⟩, ⟨g0, g1, g2, g3, g4⟩⟩ := h3.cells
  go_upto_region 7 with (first | (go_at_call 49; first | (rw [hw0]; refine hcc.mono ?_) | refine hcc.mono ?_; rintro e w1 ⟨rfl, hb1⟩; clear s0 s1 s2 s3 s4 y0 y1 y2 y3 r0 r1 r2 r3 r4 f0 f1 f2 f3 f4 g0 g1 g2 g3 g4; have h31 := h3.below hb1; have hB := h31.2.2.2; obtain ⟨⟨s0, s1, s2, s3, s4⟩, ⟨y0, y1, y2, y3⟩, ⟨r0, r1, r2, r3, r4⟩, ⟨f0, f1, f2, f3, f4⟩, ⟨g0, g1, g2, g3, g4⟩⟩ := h31.cells; clear h3 hw0) | (go_at_call 37; refine (hfm w1).mono ?_; rintro e w2 ⟨rfl, hb2⟩; clear s0 s1 s2 s3 s4 y0 y1 y2 y3 r0 r1 r2 r3 r4 f0 f1 f2 f3 f4 g0 g1 g2 g3 g4; have h32 := h31.below hb2; have hB2 := h32.2.2.2; obtain ⟨⟨s0, s1, s2, s3, s4⟩, ⟨y0, y1, y2, y3⟩, ⟨r0, r1, r2, r3, r4⟩, ⟨f0, f1, f2, f3, f4⟩, ⟨g0, g1, g2, g3, g4⟩⟩ := h32.cells; clear hfm))
  go_cut [8] (fun s8 wx => ∃ z, s8 = .pointer (some ⟨z, 0, none⟩) ∧ Four w n a b c d 3 y l 3 z m a b c d wx)
  case first =>
    go_region_held3 (fun w' => w'.cell? ⟨w.heap.size, 0, none⟩ = some (.int .i64 n) ∧ w'.cell? ⟨w.heap.size, 1, none⟩ = some (.int .i64 a) ∧ w'.cell? ⟨w.heap.size, 2, none⟩ = some (.int .i64 b) ∧ w'.cell? ⟨w.heap.size, 3, none⟩ = some (.int .i64 c) ∧ w'.cell? ⟨w.heap.size, 4, none⟩ = some (.int .i64 d) ∧ w'.cell? ⟨w.heap.size + 1, 0, none⟩ = some (.int .i64 3))
      (first | exact ⟨s0, s1, s2, s3, s4, y0⟩ | go_keep)
      (first | (go_at_call 72; refine (hmv _).mono ?_; rintro e w' ⟨rfl, rfl⟩))
    all_goals
      go_wp2_with fail
      go_meet
      first
        | exact ⟨_, rfl, four_of h32 _ _ _ _ _⟩
        | exact ⟨_, rfl, (four_of h32 _ _ _ _ _).drew⟩
        | exact ⟨_, rfl, four_of h32.drew _ _ _ _ _⟩
        | exact ⟨_, rfl, (four_of h32.drew _ _ _ _ _).drew⟩
  case rest =>
    obtain ⟨z, rfl, h4⟩ := hcut
    clear s0 s1 s2 s3 s4 y0 y1 y2 y3 r0 r1 r2 r3 r4 f0 f1 f2 f3 f4 g0 g1 g2 g3 g4
    clear h32 h31 hB hB2
    have hB2 := h4.1.2.2.2
    obtain ⟨⟨s0, s1, s2, s3, s4⟩, ⟨y0, y1, y2, y3⟩, ⟨r0, r1, r2, r3, r4⟩, ⟨f0, f1, f2, f3, f4⟩, ⟨g0, g1, g2, g3, g4⟩⟩ := h4.1.cells
    obtain ⟨⟨t0, t1, t2, t3, t4⟩, ⟨z0, z1, z2, z3, z4⟩⟩ := h4.cells
    have hzz := h4.2.2
    go_wp2_with fail
    go_loopw [9, 10] (fun s9 s10 wx => (s9 = .int .i64 0 ∧ s10 = .int .i64 0 ∧ Four w n a b c d 3 y l 3 z m d b c d wx) ∨ (s9 = .int .i64 1 ∧ s10 = .int .i64 1 ∧ Four w n a b c d 3 y l 3 z m d a c d wx) ∨ (s9 = .int .i64 2 ∧ s10 = .int .i64 2 ∧ Four w n a b c d 3 y l 3 z m d a b d wx) ∨ (s9 = .int .i64 3 ∧ s10 = .int .i64 3 ∧ Four w n a b c d 3 y l 3 z m d a b c wx) ∨ (s9 = .int .i64 3 ∧ s10 = .int .i64 4 ∧ Four w n a b c d 3 y l 3 z m d a b c wx)) (fun _ s10 _ => 4 - (intOf s10).toNat)
    case atStart => exact .inl ⟨rfl, rfl, h4.put 1 d m d b c d rfl⟩
    case round =>
      clear s0 s1 s2 s3 s4 y0 y1 y2 y3 r0 r1 r2 r3 r4 f0 f1 f2 f3 f4 g0 g1 g2 g3 g4 t0 t1 t2 t3 t4 z0 z1 z2 z3 z4
      clear h4 hB2
      rcases hrel with ⟨rfl, rfl, h4⟩ | ⟨rfl, rfl, h4⟩ | ⟨rfl, rfl, h4⟩ | ⟨rfl, rfl, h4⟩ | ⟨rfl, rfl, h4⟩
      · obtain ⟨⟨s0, s1, s2, s3, s4⟩, ⟨y0, y1, y2, y3⟩, ⟨r0, r1, r2, r3, r4⟩, ⟨f0, f1, f2, f3, f4⟩, ⟨g0, g1, g2, g3, g4⟩⟩ := h4.1.cells
        obtain ⟨⟨t0, t1, t2, t3, t4⟩, ⟨z0, z1, z2, z3, z4⟩⟩ := h4.cells
        go_wp2_with fail
        go_roundw
        case rel => exact .inr (.inl ⟨rfl, rfl, h4.put 2 a m d a c d rfl⟩)
        case measure => simp [intOf]
      · obtain ⟨⟨s0, s1, s2, s3, s4⟩, ⟨y0, y1, y2, y3⟩, ⟨r0, r1, r2, r3, r4⟩, ⟨f0, f1, f2, f3, f4⟩, ⟨g0, g1, g2, g3, g4⟩⟩ := h4.1.cells
        obtain ⟨⟨t0, t1, t2, t3, t4⟩, ⟨z0, z1, z2, z3, z4⟩⟩ := h4.cells
        go_wp2_with fail
        go_roundw
        case rel => exact .inr (.inr (.inl ⟨rfl, rfl, h4.put 3 b m d a b d rfl⟩))
        case measure => simp [intOf]
      · obtain ⟨⟨s0, s1, s2, s3, s4⟩, ⟨y0, y1, y2, y3⟩, ⟨r0, r1, r2, r3, r4⟩, ⟨f0, f1, f2, f3, f4⟩, ⟨g0, g1, g2, g3, g4⟩⟩ := h4.1.cells
        obtain ⟨⟨t0, t1, t2, t3, t4⟩, ⟨z0, z1, z2, z3, z4⟩⟩ := h4.cells
        go_wp2_with fail
        go_roundw
        case rel => exact .inr (.inr (.inr (.inl ⟨rfl, rfl, h4.put 4 c m d a b c rfl⟩)))
        case measure => simp [intOf]
      · obtain ⟨⟨s0, s1, s2, s3, s4⟩, ⟨y0, y1, y2, y3⟩, ⟨r0, r1, r2, r3, r4⟩, ⟨f0, f1, f2, f3, f4⟩, ⟨g0, g1, g2, g3, g4⟩⟩ := h4.1.cells
        obtain ⟨⟨t0, t1, t2, t3, t4⟩, ⟨z0, z1, z2, z3, z4⟩⟩ := h4.cells
        go_wp2_with fail
        go_roundw
        case rel => exact .inr (.inr (.inr (.inr (⟨rfl, rfl, h4⟩))))
        case measure => simp [intOf]
      · obtain ⟨⟨s0, s1, s2, s3, s4⟩, ⟨y0, y1, y2, y3⟩, ⟨r0, r1, r2, r3, r4⟩, ⟨f0, f1, f2, f3, f4⟩, ⟨g0, g1, g2, g3, g4⟩⟩ := h4.1.cells
        obtain ⟨⟨t0, t1, t2, t3, t4⟩, ⟨z0, z1, z2, z3, z4⟩⟩ := h4.cells
        have hB2 := h4.1.2.2.2
        go_wp2_with fail
        exact bodyPost_ret (v := .tuple #[.agg (stC m d a b c), .int .i64 0]) (by simp [results, Tryd.results51, go_sem, *]) rfl ⟨rfl, below5 hB2 (up2 _) _ _ _ _ _⟩
end Go.Proofs.YthlflcnpmabmbaaDoor
