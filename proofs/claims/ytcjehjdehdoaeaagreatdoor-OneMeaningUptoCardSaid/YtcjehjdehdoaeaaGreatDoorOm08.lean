/-
  Laws on the way to the claim (StNext StRep StOpen). Conditions: those that each theorem states.
-/
import Derived.Test.YtcjehjdehdoaeaaGreatDoorOm01
import Derived.Test.YtcjehjdehdoaeaaGreatDoorOm07
import Derived.Test.YtcjehjdehdoaeaaGreatDoorChecked
import Derived.WalkKit
import Derived.WalkSpells
import Derived.WalkLawsBesides
import Derived.Lib.Strings
import Derived.Lib.Slices
import Derived.Lib.Small
import Derived.Lib.Walk
import Derived.Lib.BitFns
import Derived.Lib.Hide
import Derived.Deep.Light
import Derived.Laws.CopyOwn
import Derived.Laws.CopyRow
import Derived.Deep.RegionLaw
import Derived.BigRegion
import Derived.ProofKit
import Derived.OpenShut
import Derived.ChangeSame
import Derived.ChangeArms
import Derived.Laws.IdiomArrays
set_option linter.unusedVariables false
set_option linter.unusedSimpArgs false
set_option maxRecDepth 1000000
set_option maxHeartbeats 16000000
namespace Go.Proofs.YtcjehjdehdoaeaaGreatDoor
open Go.RowKit
def repOk (x : Int) : Prop := 0 ≤ x ∧ x ≤ 3
instance (x : Int) : Decidable (repOk x) := by unfold repOk; infer_instance
def formedN (k l x : Int) : Int := if k = 1 then 0 else if k = 4 then 0 else if k = 2 then (if isL l ∧ isD x then 0 else 7) else if k = 3 then (if isL l ∧ repOk x then 0 else 7) else 6
def Laid (w : World) : Prop := 16 + 1 ≤ w.heap.size ∧ ∀ i : Nat, i < 12 → w.cell? ⟨13, i, none⟩ = some (.int .i64 (movedN i 1)) ∧ w.cell? ⟨14, i, none⟩ = some (.int .i64 (movedN i 4)) ∧ w.cell? ⟨15, i, none⟩ = some (.int .i64 (movedN i 2)) ∧ w.cell? ⟨16, i, none⟩ = some (.int .i64 (movedN i 3))
theorem Laid.below {w w' : World} (h : Laid w) (hb : Below w.heap.size w w') : Laid w' := by
 refine ⟨Nat.le_trans h.1 hb.size, fun i hi => ?_⟩
 obtain ⟨h0, h1, h2, h3⟩ := h.2 i hi;have h4 := h.1;exact ⟨(hb.cell (by show 13 < w.heap.size; omega)).trans h0, (hb.cell (by show 14 < w.heap.size; omega)).trans h1, (hb.cell (by show 15 < w.heap.size; omega)).trans h2, (hb.cell (by show 16 < w.heap.size; omega)).trans h3⟩
def Three (t : TypeId) (w : World) (n a b c d k y l x : Int) (wx : World) : Prop :=
 Blk wx w.heap.size t (stC n a b c d) ∧ Blk wx (w.heap.size + 1) 232 #[.int .i64 k, .int .u8 y, .int .i64 l, .int .i64 x] ∧ Blk wx (w.heap.size + 2) t (stC 0 0 0 0 0) ∧ Below w.heap.size w wx
theorem three_new (t : TypeId) (w : World) (n a b c d k y l x : Int) :
 Three t w n a b c d k y l x (((w.alloc (.cells (stC n a b c d) t)).alloc (.cells #[.int .i64 k, .int .u8 y, .int .i64 l, .int .i64 x] 232)).alloc (.cells (stC 0 0 0 0 0) t)) := by
 refine ⟨((Blk.new w t _).alloc _).alloc _, ?_, ?_, (((Below.refl _ _).alloc (Nat.le_refl _) _).alloc (by simp) _).alloc (by simp <;> omega) _⟩
 · have := (Blk.new (w.alloc (.cells (stC n a b c d) t)) 232 #[.int .i64 k, .int .u8 y, .int .i64 l, .int .i64 x]).alloc (.cells (stC 0 0 0 0 0) t);simpa using this
 · have := Blk.new ((w.alloc (.cells (stC n a b c d) t)).alloc (.cells #[.int .i64 k, .int .u8 y, .int .i64 l, .int .i64 x] 232)) t (stC 0 0 0 0 0);simpa using this
theorem Three.below {t : TypeId} {w wx w' : World} {n a b c d k y l x : Int} (h : Three t w n a b c d k y l x wx) (hb : Below wx.heap.size wx w') : Three t w n a b c d k y l x w' :=
 ⟨h.1.same (hb.block _ h.1.lt), h.2.1.same (hb.block _ h.2.1.lt), h.2.2.1.same (hb.block _ h.2.2.1.lt), h.2.2.2.trans (hb.mono h.2.2.2.size)⟩
theorem Three.cells {t : TypeId} {w wx : World} {n a b c d k y l x : Int} (h : Three t w n a b c d k y l x wx) :
 (wx.cell? ⟨w.heap.size, 0, none⟩ = some (.int .i64 n) ∧ wx.cell? ⟨w.heap.size, 1, none⟩ = some (.int .i64 a) ∧ wx.cell? ⟨w.heap.size, 2, none⟩ = some (.int .i64 b) ∧ wx.cell? ⟨w.heap.size, 3, none⟩ = some (.int .i64 c) ∧ wx.cell? ⟨w.heap.size, 4, none⟩ = some (.int .i64 d)) ∧
 (wx.cell? ⟨w.heap.size + 1, 0, none⟩ = some (.int .i64 k) ∧ wx.cell? ⟨w.heap.size + 1, 1, none⟩ = some (.int .u8 y) ∧ wx.cell? ⟨w.heap.size + 1, 2, none⟩ = some (.int .i64 l) ∧ wx.cell? ⟨w.heap.size + 1, 3, none⟩ = some (.int .i64 x)) ∧
 (wx.cell? ⟨w.heap.size + 1 + 1, 0, none⟩ = some (.int .i64 0) ∧ wx.cell? ⟨w.heap.size + 1 + 1, 1, none⟩ = some (.int .i64 0) ∧ wx.cell? ⟨w.heap.size + 1 + 1, 2, none⟩ = some (.int .i64 0) ∧ wx.cell? ⟨w.heap.size + 1 + 1, 3, none⟩ = some (.int .i64 0) ∧ wx.cell? ⟨w.heap.size + 1 + 1, 4, none⟩ = some (.int .i64 0)) ∧
 (wx.frozen? ⟨w.heap.size, 0, none⟩ = false ∧ wx.frozen? ⟨w.heap.size, 1, none⟩ = false ∧ wx.frozen? ⟨w.heap.size, 2, none⟩ = false ∧ wx.frozen? ⟨w.heap.size, 3, none⟩ = false ∧ wx.frozen? ⟨w.heap.size, 4, none⟩ = false) ∧
 (wx.frozen? ⟨w.heap.size + 1 + 1, 0, none⟩ = false ∧ wx.frozen? ⟨w.heap.size + 1 + 1, 1, none⟩ = false ∧ wx.frozen? ⟨w.heap.size + 1 + 1, 2, none⟩ = false ∧ wx.frozen? ⟨w.heap.size + 1 + 1, 3, none⟩ = false ∧ wx.frozen? ⟨w.heap.size + 1 + 1, 4, none⟩ = false) :=
 ⟨⟨h.1.cell 0, h.1.cell 1, h.1.cell 2, h.1.cell 3, h.1.cell 4⟩, ⟨h.2.1.cell 0, h.2.1.cell 1, h.2.1.cell 2, h.2.1.cell 3⟩, ⟨h.2.2.1.cell 0, h.2.2.1.cell 1, h.2.2.1.cell 2, h.2.2.1.cell 3, h.2.2.1.cell 4⟩,
  ⟨h.1.frozen 0, h.1.frozen 1, h.1.frozen 2, h.1.frozen 3, h.1.frozen 4⟩, ⟨h.2.2.1.frozen 0, h.2.2.1.frozen 1, h.2.2.1.frozen 2, h.2.2.1.frozen 3, h.2.2.1.frozen 4⟩⟩
def NPost (v : Value) (e : Int) (w : World) (en : Ending) (w' : World) : Prop := en = .returned (.tuple #[v, .int .i64 e]) ∧ Below w.heap.size w w'
theorem below1 {B g i : Nat} {a w : World} (h : Below B a w) (hg : B ≤ g) (u : Value) : Below B a (w.setCell ⟨g, i, none⟩ u) := h.setCell hg u
theorem below4 {B g : Nat} {a w : World} (h : Below B a w) (hg : B ≤ g) (u1 u2 u3 u4 : Value) : Below B a ((((w.setCell ⟨g, 1, none⟩ u1).setCell ⟨g, 2, none⟩ u2).setCell ⟨g, 3, none⟩ u3).setCell ⟨g, 4, none⟩ u4) := below1 (below1 (below1 (below1 h hg _) hg _) hg _) hg _
theorem below5 {B g : Nat} {a w : World} (h : Below B a w) (hg : B ≤ g) (u0 u1 u2 u3 u4 : Value) : Below B a (((((w.setCell ⟨g, 0, none⟩ u0).setCell ⟨g, 1, none⟩ u1).setCell ⟨g, 2, none⟩ u2).setCell ⟨g, 3, none⟩ u3).setCell ⟨g, 4, none⟩ u4) := below4 (below1 h hg _) hg _ _ _ _
theorem up2 (n : Nat) : n ≤ n + 1 + 1 := by omega
theorem Next_bad (n a b c d k y l x : Int) (h : ¬ rightP n a b c d) (w : World) : Calls Tryz.prog 128 #[stV n a b c d, yV k y l x] w (NPost (stV 0 0 0 0 0) 7 w) := by
 have hc := right_any n a b c d;rw [decide_eq_false h] at hc;have h3 := three_new 157 w n a b c d k y l x;unfold stV at hc ⊢;unfold yV;obtain ⟨w0, hw0⟩ : ∃ w0, (((w.alloc (.cells (stC n a b c d) 157)).alloc (.cells #[.int .i64 k, .int .u8 y, .int .i64 l, .int .i64 x] 232)).alloc (.cells (stC 0 0 0 0 0) 157)) = w0 := ⟨_, rfl⟩;rw [hw0] at h3;have hcc := hc w0;clear hc;go_enter Tryz.func128, Tryz.ntmps128
 obtain ⟨⟨s0, s1, s2, s3, s4⟩, ⟨y0, y1, y2, y3⟩, ⟨r0, r1, r2, r3, r4⟩, ⟨f0, f1, f2, f3, f4⟩, ⟨g0, g1, g2, g3, g4⟩⟩ := h3.cells;go_wp2_with (go_at_call 152; first | (rw [hw0]; refine hcc.mono ?_) | refine hcc.mono ?_; rintro e w1 ⟨rfl, hb1⟩; clear s0 s1 s2 s3 s4 y0 y1 y2 y3 r0 r1 r2 r3 r4 f0 f1 f2 f3 f4 g0 g1 g2 g3 g4; have h31 := h3.below hb1; have hB := h31.2.2.2; obtain ⟨⟨s0, s1, s2, s3, s4⟩, ⟨y0, y1, y2, y3⟩, ⟨r0, r1, r2, r3, r4⟩, ⟨f0, f1, f2, f3, f4⟩, ⟨g0, g1, g2, g3, g4⟩⟩ := h31.cells; clear h3 hw0)
 exact bodyPost_ret (v := .tuple #[.agg (stC 0 0 0 0 0), .int .i64 7]) (by simp [results, Tryz.results128, go_sem, *]) rfl ⟨rfl, below5 hB (up2 _) _ _ _ _ _⟩
theorem Next_lit (n : Nat) (a b c d y l x : Int) (h : rightP n a b c d) (w : World) (hl : Laid w) : Calls Tryz.prog 128 #[stV n a b c d, yV 1 y l x] w (NPost (stV (movedN n 1) a b c d) 0 w) := by
 have n12 : n < 12 := by have := h.2.2.2.2.2; omega
 have n12' : (n : Int) < 12 := by omega
 have hc := right_any n a b c d;rw [decide_eq_true h] at hc;have h3 := three_new 157 w n a b c d 1 y l x;unfold stV at hc ⊢;unfold yV;obtain ⟨w0, hw0⟩ : ∃ w0, (((w.alloc (.cells (stC n a b c d) 157)).alloc (.cells #[.int .i64 1, .int .u8 y, .int .i64 l, .int .i64 x] 232)).alloc (.cells (stC 0 0 0 0 0) 157)) = w0 := ⟨_, rfl⟩;rw [hw0] at h3;have hcc := hc w0;clear hc;obtain ⟨m, hm⟩ : ∃ m, movedN n 1 = m := ⟨_, rfl⟩
 rw [hm];go_enter Tryz.func128, Tryz.ntmps128;obtain ⟨⟨s0, s1, s2, s3, s4⟩, ⟨y0, y1, y2, y3⟩, ⟨r0, r1, r2, r3, r4⟩, ⟨f0, f1, f2, f3, f4⟩, ⟨g0, g1, g2, g3, g4⟩⟩ := h3.cells;go_wp2_with (go_at_call 152; first | (rw [hw0]; refine hcc.mono ?_) | refine hcc.mono ?_; rintro e w1 ⟨rfl, hb1⟩; clear s0 s1 s2 s3 s4 y0 y1 y2 y3 r0 r1 r2 r3 r4 f0 f1 f2 f3 f4 g0 g1 g2 g3 g4; have h31 := h3.below hb1; have hB := h31.2.2.2; obtain ⟨⟨s0, s1, s2, s3, s4⟩, ⟨y0, y1, y2, y3⟩, ⟨r0, r1, r2, r3, r4⟩, ⟨f0, f1, f2, f3, f4⟩, ⟨g0, g1, g2, g3, g4⟩⟩ := h31.cells; clear h3 hw0; have lt0 := ((hl.below hB).2 n n12).1; rw [hm] at lt0)
 exact bodyPost_ret (v := .tuple #[.agg (stC m a b c d), .int .i64 0]) (by simp [results, Tryz.results128, go_sem, *]) rfl ⟨rfl, below5 (below1 hB (Nat.le_refl _) _) (up2 _) _ _ _ _ _⟩
theorem Next_short (n : Nat) (a b c d y l x : Int) (h : rightP n a b c d) (w : World) (hl : Laid w) : Calls Tryz.prog 128 #[stV n a b c d, yV 4 y l x] w (NPost (stV (movedN n 4) a b c d) 0 w) := by
 have n12 : n < 12 := by have := h.2.2.2.2.2; omega
 have n12' : (n : Int) < 12 := by omega
 have hc := right_any n a b c d;rw [decide_eq_true h] at hc;have h3 := three_new 157 w n a b c d 4 y l x;unfold stV at hc ⊢;unfold yV;obtain ⟨w0, hw0⟩ : ∃ w0, (((w.alloc (.cells (stC n a b c d) 157)).alloc (.cells #[.int .i64 4, .int .u8 y, .int .i64 l, .int .i64 x] 232)).alloc (.cells (stC 0 0 0 0 0) 157)) = w0 := ⟨_, rfl⟩;rw [hw0] at h3;have hcc := hc w0;clear hc;obtain ⟨m, hm⟩ : ∃ m, movedN n 4 = m := ⟨_, rfl⟩
 rw [hm];go_enter Tryz.func128, Tryz.ntmps128;obtain ⟨⟨s0, s1, s2, s3, s4⟩, ⟨y0, y1, y2, y3⟩, ⟨r0, r1, r2, r3, r4⟩, ⟨f0, f1, f2, f3, f4⟩, ⟨g0, g1, g2, g3, g4⟩⟩ := h3.cells;go_wp2_with (go_at_call 152; first | (rw [hw0]; refine hcc.mono ?_) | refine hcc.mono ?_; rintro e w1 ⟨rfl, hb1⟩; clear s0 s1 s2 s3 s4 y0 y1 y2 y3 r0 r1 r2 r3 r4 f0 f1 f2 f3 f4 g0 g1 g2 g3 g4; have h31 := h3.below hb1; have hB := h31.2.2.2; obtain ⟨⟨s0, s1, s2, s3, s4⟩, ⟨y0, y1, y2, y3⟩, ⟨r0, r1, r2, r3, r4⟩, ⟨f0, f1, f2, f3, f4⟩, ⟨g0, g1, g2, g3, g4⟩⟩ := h31.cells; clear h3 hw0; have lt0 := ((hl.below hB).2 n n12).2.1; rw [hm] at lt0)
 exact bodyPost_ret (v := .tuple #[.agg (stC m a b c d), .int .i64 0]) (by simp [results, Tryz.results128, go_sem, *]) rfl ⟨rfl, below5 (below1 hB (Nat.le_refl _) _) (up2 _) _ _ _ _ _⟩
theorem Next_kind (n a b c d k y l x : Int) (h : rightP n a b c d) (h1 : ¬ k = 1) (h2 : ¬ k = 2) (h3' : ¬ k = 3) (h4 : ¬ k = 4) (w : World) : Calls Tryz.prog 128 #[stV n a b c d, yV k y l x] w (NPost (stV 0 0 0 0 0) 6 w) := by
 have hc := right_any n a b c d;rw [decide_eq_true h] at hc;have h3 := three_new 157 w n a b c d k y l x;unfold stV at hc ⊢;unfold yV;obtain ⟨w0, hw0⟩ : ∃ w0, (((w.alloc (.cells (stC n a b c d) 157)).alloc (.cells #[.int .i64 k, .int .u8 y, .int .i64 l, .int .i64 x] 232)).alloc (.cells (stC 0 0 0 0 0) 157)) = w0 := ⟨_, rfl⟩;rw [hw0] at h3;have hcc := hc w0;clear hc;go_enter Tryz.func128, Tryz.ntmps128
 obtain ⟨⟨s0, s1, s2, s3, s4⟩, ⟨y0, y1, y2, y3⟩, ⟨r0, r1, r2, r3, r4⟩, ⟨f0, f1, f2, f3, f4⟩, ⟨g0, g1, g2, g3, g4⟩⟩ := h3.cells;go_wp2_with (go_at_call 152; first | (rw [hw0]; refine hcc.mono ?_) | refine hcc.mono ?_; rintro e w1 ⟨rfl, hb1⟩; clear s0 s1 s2 s3 s4 y0 y1 y2 y3 r0 r1 r2 r3 r4 f0 f1 f2 f3 f4 g0 g1 g2 g3 g4; have h31 := h3.below hb1; have hB := h31.2.2.2; obtain ⟨⟨s0, s1, s2, s3, s4⟩, ⟨y0, y1, y2, y3⟩, ⟨r0, r1, r2, r3, r4⟩, ⟨f0, f1, f2, f3, f4⟩, ⟨g0, g1, g2, g3, g4⟩⟩ := h31.cells; clear h3 hw0)
 exact bodyPost_ret (v := .tuple #[.agg (stC 0 0 0 0 0), .int .i64 6]) (by simp [results, Tryz.results128, go_sem, *]) rfl ⟨rfl, below5 hB (up2 _) _ _ _ _ _⟩
theorem Next_match_bad (n a b c d y l x : Int) (h : rightP n a b c d) (hf : ¬ (isL l ∧ isD x)) (w : World) : Calls Tryz.prog 128 #[stV n a b c d, yV 2 y l x] w (NPost (stV 0 0 0 0 0) 7 w) := by
 have hcl := isLen_any l;have hcd := isDist_any x;have hc := right_any n a b c d;rw [decide_eq_true h] at hc;have h3 := three_new 157 w n a b c d 2 y l x;unfold stV at hc ⊢;unfold yV;obtain ⟨w0, hw0⟩ : ∃ w0, (((w.alloc (.cells (stC n a b c d) 157)).alloc (.cells #[.int .i64 2, .int .u8 y, .int .i64 l, .int .i64 x] 232)).alloc (.cells (stC 0 0 0 0 0) 157)) = w0 := ⟨_, rfl⟩;rw [hw0] at h3;have hcc := hc w0
 clear hc;by_cases hL : isL l
 · have hD : ¬ isD x := fun hh => hf ⟨hL, hh⟩
   rw [decide_eq_true hL] at hcl;rw [decide_eq_false hD] at hcd;go_enter Tryz.func128, Tryz.ntmps128;obtain ⟨⟨s0, s1, s2, s3, s4⟩, ⟨y0, y1, y2, y3⟩, ⟨r0, r1, r2, r3, r4⟩, ⟨f0, f1, f2, f3, f4⟩, ⟨g0, g1, g2, g3, g4⟩⟩ := h3.cells;go_wp2_with (first | (go_at_call 152; first | (rw [hw0]; refine hcc.mono ?_) | refine hcc.mono ?_; rintro e w1 ⟨rfl, hb1⟩; clear s0 s1 s2 s3 s4 y0 y1 y2 y3 r0 r1 r2 r3 r4 f0 f1 f2 f3 f4 g0 g1 g2 g3 g4; have h31 := h3.below hb1; have hB := h31.2.2.2; obtain ⟨⟨s0, s1, s2, s3, s4⟩, ⟨y0, y1, y2, y3⟩, ⟨r0, r1, r2, r3, r4⟩, ⟨f0, f1, f2, f3, f4⟩, ⟨g0, g1, g2, g3, g4⟩⟩ := h31.cells; clear h3 hw0) | (go_at_call 153; refine (hcl _).mono ?_; rintro e w' ⟨rfl, rfl⟩) | (go_at_call 154; refine (hcd _).mono ?_; rintro e w' ⟨rfl, rfl⟩))
   exact bodyPost_ret (v := .tuple #[.agg (stC 0 0 0 0 0), .int .i64 7]) (by simp [results, Tryz.results128, go_sem, *]) rfl ⟨rfl, below5 hB (up2 _) _ _ _ _ _⟩
 · rw [decide_eq_false hL] at hcl;go_enter Tryz.func128, Tryz.ntmps128;obtain ⟨⟨s0, s1, s2, s3, s4⟩, ⟨y0, y1, y2, y3⟩, ⟨r0, r1, r2, r3, r4⟩, ⟨f0, f1, f2, f3, f4⟩, ⟨g0, g1, g2, g3, g4⟩⟩ := h3.cells;go_wp2_with (first | (go_at_call 152; first | (rw [hw0]; refine hcc.mono ?_) | refine hcc.mono ?_; rintro e w1 ⟨rfl, hb1⟩; clear s0 s1 s2 s3 s4 y0 y1 y2 y3 r0 r1 r2 r3 r4 f0 f1 f2 f3 f4 g0 g1 g2 g3 g4; have h31 := h3.below hb1; have hB := h31.2.2.2; obtain ⟨⟨s0, s1, s2, s3, s4⟩, ⟨y0, y1, y2, y3⟩, ⟨r0, r1, r2, r3, r4⟩, ⟨f0, f1, f2, f3, f4⟩, ⟨g0, g1, g2, g3, g4⟩⟩ := h31.cells; clear h3 hw0) | (go_at_call 153; refine (hcl _).mono ?_; rintro e w' ⟨rfl, rfl⟩))
   exact bodyPost_ret (v := .tuple #[.agg (stC 0 0 0 0 0), .int .i64 7]) (by simp [results, Tryz.results128, go_sem, *]) rfl ⟨rfl, below5 hB (up2 _) _ _ _ _ _⟩
theorem Next_match (n : Nat) (a b c d y l x : Int) (h : rightP n a b c d) (hf : isL l ∧ isD x) (w : World) (hl : Laid w) : Calls Tryz.prog 128 #[stV n a b c d, yV 2 y l x] w (NPost (stV (movedN n 2) x a b c) 0 w) := by
 have hcl := isLen_any l;have hcd := isDist_any x;rw [decide_eq_true hf.1] at hcl;rw [decide_eq_true hf.2] at hcd;have n12 : n < 12 := by have := h.2.2.2.2.2; omega
 have n12' : (n : Int) < 12 := by omega
 have hc := right_any n a b c d;rw [decide_eq_true h] at hc;have h3 := three_new 157 w n a b c d 2 y l x;unfold stV at hc ⊢;unfold yV;obtain ⟨w0, hw0⟩ : ∃ w0, (((w.alloc (.cells (stC n a b c d) 157)).alloc (.cells #[.int .i64 2, .int .u8 y, .int .i64 l, .int .i64 x] 232)).alloc (.cells (stC 0 0 0 0 0) 157)) = w0 := ⟨_, rfl⟩;rw [hw0] at h3;have hcc := hc w0;clear hc;obtain ⟨m, hm⟩ : ∃ m, movedN n 2 = m := ⟨_, rfl⟩
 rw [hm];go_enter Tryz.func128, Tryz.ntmps128;obtain ⟨⟨s0, s1, s2, s3, s4⟩, ⟨y0, y1, y2, y3⟩, ⟨r0, r1, r2, r3, r4⟩, ⟨f0, f1, f2, f3, f4⟩, ⟨g0, g1, g2, g3, g4⟩⟩ := h3.cells;go_wp2_with (first | (go_at_call 152; first | (rw [hw0]; refine hcc.mono ?_) | refine hcc.mono ?_; rintro e w1 ⟨rfl, hb1⟩; clear s0 s1 s2 s3 s4 y0 y1 y2 y3 r0 r1 r2 r3 r4 f0 f1 f2 f3 f4 g0 g1 g2 g3 g4; have h31 := h3.below hb1; have hB := h31.2.2.2; obtain ⟨⟨s0, s1, s2, s3, s4⟩, ⟨y0, y1, y2, y3⟩, ⟨r0, r1, r2, r3, r4⟩, ⟨f0, f1, f2, f3, f4⟩, ⟨g0, g1, g2, g3, g4⟩⟩ := h31.cells; clear h3 hw0; have lt0 := ((hl.below hB).2 n n12).2.2.1; rw [hm] at lt0) | (go_at_call 153; refine (hcl _).mono ?_; rintro e w' ⟨rfl, rfl⟩) | (go_at_call 154; refine (hcd _).mono ?_; rintro e w' ⟨rfl, rfl⟩))
 exact bodyPost_ret (v := .tuple #[.agg (stC m x a b c), .int .i64 0]) (by simp [results, Tryz.results128, go_sem, *]) rfl ⟨rfl, below5 (below4 (below1 hB (Nat.le_refl _) _) (Nat.le_refl _) _ _ _ _) (up2 _) _ _ _ _ _⟩
theorem Next_rep_bad (n a b c d y l x : Int) (h : rightP n a b c d) (hf : ¬ (isL l ∧ repOk x)) (w : World) : Calls Tryz.prog 128 #[stV n a b c d, yV 3 y l x] w (NPost (stV 0 0 0 0 0) 7 w) := by
 have hcl := isLen_any l;have hc := right_any n a b c d;rw [decide_eq_true h] at hc;have h3 := three_new 157 w n a b c d 3 y l x;unfold stV at hc ⊢;unfold yV;obtain ⟨w0, hw0⟩ : ∃ w0, (((w.alloc (.cells (stC n a b c d) 157)).alloc (.cells #[.int .i64 3, .int .u8 y, .int .i64 l, .int .i64 x] 232)).alloc (.cells (stC 0 0 0 0 0) 157)) = w0 := ⟨_, rfl⟩;rw [hw0] at h3;have hcc := hc w0;clear hc;by_cases hL : isL l
 · have hD : ¬ repOk x := fun hh => hf ⟨hL, hh⟩
   rw [decide_eq_true hL] at hcl;have hx : x < 0 ∨ (¬ x < 0 ∧ 3 < x) := by unfold repOk at hD; omega
   rcases hx with x0 | ⟨x0, x3⟩
   all_goals
    go_enter Tryz.func128, Tryz.ntmps128;obtain ⟨⟨s0, s1, s2, s3, s4⟩, ⟨y0, y1, y2, y3⟩, ⟨r0, r1, r2, r3, r4⟩, ⟨f0, f1, f2, f3, f4⟩, ⟨g0, g1, g2, g3, g4⟩⟩ := h3.cells;go_wp2_with (first | (go_at_call 152; first | (rw [hw0]; refine hcc.mono ?_) | refine hcc.mono ?_; rintro e w1 ⟨rfl, hb1⟩; clear s0 s1 s2 s3 s4 y0 y1 y2 y3 r0 r1 r2 r3 r4 f0 f1 f2 f3 f4 g0 g1 g2 g3 g4; have h31 := h3.below hb1; have hB := h31.2.2.2; obtain ⟨⟨s0, s1, s2, s3, s4⟩, ⟨y0, y1, y2, y3⟩, ⟨r0, r1, r2, r3, r4⟩, ⟨f0, f1, f2, f3, f4⟩, ⟨g0, g1, g2, g3, g4⟩⟩ := h31.cells; clear h3 hw0) | (go_at_call 153; refine (hcl _).mono ?_; rintro e w' ⟨rfl, rfl⟩))
    exact bodyPost_ret (v := .tuple #[.agg (stC 0 0 0 0 0), .int .i64 7]) (by simp [results, Tryz.results128, go_sem, *]) rfl ⟨rfl, below5 hB (up2 _) _ _ _ _ _⟩
 · rw [decide_eq_false hL] at hcl;go_enter Tryz.func128, Tryz.ntmps128;obtain ⟨⟨s0, s1, s2, s3, s4⟩, ⟨y0, y1, y2, y3⟩, ⟨r0, r1, r2, r3, r4⟩, ⟨f0, f1, f2, f3, f4⟩, ⟨g0, g1, g2, g3, g4⟩⟩ := h3.cells;go_wp2_with (first | (go_at_call 152; first | (rw [hw0]; refine hcc.mono ?_) | refine hcc.mono ?_; rintro e w1 ⟨rfl, hb1⟩; clear s0 s1 s2 s3 s4 y0 y1 y2 y3 r0 r1 r2 r3 r4 f0 f1 f2 f3 f4 g0 g1 g2 g3 g4; have h31 := h3.below hb1; have hB := h31.2.2.2; obtain ⟨⟨s0, s1, s2, s3, s4⟩, ⟨y0, y1, y2, y3⟩, ⟨r0, r1, r2, r3, r4⟩, ⟨f0, f1, f2, f3, f4⟩, ⟨g0, g1, g2, g3, g4⟩⟩ := h31.cells; clear h3 hw0) | (go_at_call 153; refine (hcl _).mono ?_; rintro e w' ⟨rfl, rfl⟩))
   exact bodyPost_ret (v := .tuple #[.agg (stC 0 0 0 0 0), .int .i64 7]) (by simp [results, Tryz.results128, go_sem, *]) rfl ⟨rfl, below5 hB (up2 _) _ _ _ _ _⟩
theorem copy_rep0 {w1 : World} {w : World} {n a b c d kk y l x : Int} (h : Three 157 w n a b c d kk y l x w1) (m : Int) : ∃ w2,
 (Builtin.copy_ #[48, 48] 3 #[.slice (some ⟨w.heap.size, 2, none⟩) 3 3, .slice (some ⟨w.heap.size, 1, none⟩) 0 4]).run Tryz.prog (w1.setCell ⟨w.heap.size, 0, none⟩ (.int .i64 m)).drew = .ok (.int .i64 0) w2 ∧ Three 157 w m a b c d kk y l x w2 := by
 have hb : Blk (w1.setCell ⟨w.heap.size, 0, none⟩ (.int .i64 m)).drew w.heap.size 157 (stC m a b c d) := by
  have := (h.1.set_ 0 (.int .i64 m)).drew;simpa using this
 have hr := run_copy_row Tryz.prog (w1.setCell ⟨w.heap.size, 0, none⟩ (.int .i64 m)).drew 48 48 3 3 w.heap.size 2 3 3 ⟨w.heap.size, 1, none⟩ 0 4 (stC m a b c d) 157 [] Tryz.underlying48 (by kernel_rfl) hb (by rfl) (by simp) (by simp) (by simp [Value.oneCell'])
 refine ⟨_, hr, ?_, ?_, ?_, ?_⟩
 · exact setRow_heap _ _ _ _ _ _ hb
 · refine Blk.same ?_ (setRow_other _ _ _ _ (by omega))
   exact (h.2.1.far (by simp) _).drew
 · refine Blk.same ?_ (setRow_other _ _ _ _ (by omega))
   exact (h.2.2.1.far (by simp) _).drew
 · exact below_setRow ((below1 h.2.2.2 (Nat.le_refl _) _).drew) (Nat.le_refl _) _
theorem copy_rep1 {w1 : World} {w : World} {n a b c d kk y l x : Int} (h : Three 157 w n a b c d kk y l x w1) (m : Int) : ∃ w2,
 (Builtin.copy_ #[48, 48] 3 #[.slice (some ⟨w.heap.size, 2, none⟩) 3 3, .slice (some ⟨w.heap.size, 1, none⟩) 1 4]).run Tryz.prog (w1.setCell ⟨w.heap.size, 0, none⟩ (.int .i64 m)).drew = .ok (.int .i64 1) w2 ∧ Three 157 w m a a c d kk y l x w2 := by
 have hb : Blk (w1.setCell ⟨w.heap.size, 0, none⟩ (.int .i64 m)).drew w.heap.size 157 (stC m a b c d) := by
  have := (h.1.set_ 0 (.int .i64 m)).drew;simpa using this
 have hr := run_copy_row Tryz.prog (w1.setCell ⟨w.heap.size, 0, none⟩ (.int .i64 m)).drew 48 48 3 3 w.heap.size 2 3 3 ⟨w.heap.size, 1, none⟩ 1 4 (stC m a b c d) 157 [.int .i64 a] Tryz.underlying48 (by kernel_rfl) hb (by rfl) (fun j v hj => by match j, hj with | 0, hj => (simp at hj; subst hj; exact hb.cell 1)) (by simp) (by simp [Value.oneCell'])
 refine ⟨_, hr, ?_, ?_, ?_, ?_⟩
 · exact setRow_heap _ _ _ _ _ _ hb
 · refine Blk.same ?_ (setRow_other _ _ _ _ (by omega))
   exact (h.2.1.far (by simp) _).drew
 · refine Blk.same ?_ (setRow_other _ _ _ _ (by omega))
   exact (h.2.2.1.far (by simp) _).drew
 · exact below_setRow ((below1 h.2.2.2 (Nat.le_refl _) _).drew) (Nat.le_refl _) _
theorem copy_rep2 {w1 : World} {w : World} {n a b c d kk y l x : Int} (h : Three 157 w n a b c d kk y l x w1) (m : Int) : ∃ w2,
 (Builtin.copy_ #[48, 48] 3 #[.slice (some ⟨w.heap.size, 2, none⟩) 3 3, .slice (some ⟨w.heap.size, 1, none⟩) 2 4]).run Tryz.prog (w1.setCell ⟨w.heap.size, 0, none⟩ (.int .i64 m)).drew = .ok (.int .i64 2) w2 ∧ Three 157 w m a a b d kk y l x w2 := by
 have hb : Blk (w1.setCell ⟨w.heap.size, 0, none⟩ (.int .i64 m)).drew w.heap.size 157 (stC m a b c d) := by
  have := (h.1.set_ 0 (.int .i64 m)).drew;simpa using this
 have hr := run_copy_row Tryz.prog (w1.setCell ⟨w.heap.size, 0, none⟩ (.int .i64 m)).drew 48 48 3 3 w.heap.size 2 3 3 ⟨w.heap.size, 1, none⟩ 2 4 (stC m a b c d) 157 [.int .i64 a, .int .i64 b] Tryz.underlying48 (by kernel_rfl) hb (by rfl) (fun j v hj => by match j, hj with | 0, hj => (simp at hj; subst hj; exact hb.cell 1) | 1, hj => (simp at hj; subst hj; exact hb.cell 2)) (by simp) (by simp [Value.oneCell'])
 refine ⟨_, hr, ?_, ?_, ?_, ?_⟩
 · exact setRow_heap _ _ _ _ _ _ hb
 · refine Blk.same ?_ (setRow_other _ _ _ _ (by omega))
   exact (h.2.1.far (by simp) _).drew
 · refine Blk.same ?_ (setRow_other _ _ _ _ (by omega))
   exact (h.2.2.1.far (by simp) _).drew
 · exact below_setRow ((below1 h.2.2.2 (Nat.le_refl _) _).drew) (Nat.le_refl _) _
theorem copy_rep3 {w1 : World} {w : World} {n a b c d kk y l x : Int} (h : Three 157 w n a b c d kk y l x w1) (m : Int) : ∃ w2,
 (Builtin.copy_ #[48, 48] 3 #[.slice (some ⟨w.heap.size, 2, none⟩) 3 3, .slice (some ⟨w.heap.size, 1, none⟩) 3 4]).run Tryz.prog (w1.setCell ⟨w.heap.size, 0, none⟩ (.int .i64 m)).drew = .ok (.int .i64 3) w2 ∧ Three 157 w m a a b c kk y l x w2 := by
 have hb : Blk (w1.setCell ⟨w.heap.size, 0, none⟩ (.int .i64 m)).drew w.heap.size 157 (stC m a b c d) := by
  have := (h.1.set_ 0 (.int .i64 m)).drew;simpa using this
 have hr := run_copy_row Tryz.prog (w1.setCell ⟨w.heap.size, 0, none⟩ (.int .i64 m)).drew 48 48 3 3 w.heap.size 2 3 3 ⟨w.heap.size, 1, none⟩ 3 4 (stC m a b c d) 157 [.int .i64 a, .int .i64 b, .int .i64 c] Tryz.underlying48 (by kernel_rfl) hb (by rfl) (fun j v hj => by match j, hj with | 0, hj => (simp at hj; subst hj; exact hb.cell 1) | 1, hj => (simp at hj; subst hj; exact hb.cell 2) | 2, hj => (simp at hj; subst hj; exact hb.cell 3)) (by simp) (by simp [Value.oneCell'])
 refine ⟨_, hr, ?_, ?_, ?_, ?_⟩
 · exact setRow_heap _ _ _ _ _ _ hb
 · refine Blk.same ?_ (setRow_other _ _ _ _ (by omega))
   exact (h.2.1.far (by simp) _).drew
 · refine Blk.same ?_ (setRow_other _ _ _ _ (by omega))
   exact (h.2.2.1.far (by simp) _).drew
 · exact below_setRow ((below1 h.2.2.2 (Nat.le_refl _) _).drew) (Nat.le_refl _) _
theorem Next_rep0 (n : Nat) (a b c d y l : Int) (h : rightP n a b c d) (hf : isL l) (w : World) (hl : Laid w) : Calls Tryz.prog 128 #[stV n a b c d, yV 3 y l 0] w (NPost (stV (movedN n 3) a b c d) 0 w) := by
 have hcl := isLen_any l;rw [decide_eq_true hf] at hcl;have n12 : n < 12 := by have := h.2.2.2.2.2; omega
 have n12' : (n : Int) < 12 := by omega
 have hc := right_any n a b c d;rw [decide_eq_true h] at hc;have h3 := three_new 157 w n a b c d 3 y l 0;unfold stV at hc ⊢;unfold yV;obtain ⟨w0, hw0⟩ : ∃ w0, (((w.alloc (.cells (stC n a b c d) 157)).alloc (.cells #[.int .i64 3, .int .u8 y, .int .i64 l, .int .i64 0] 232)).alloc (.cells (stC 0 0 0 0 0) 157)) = w0 := ⟨_, rfl⟩;rw [hw0] at h3;have hcc := hc w0;clear hc;obtain ⟨m, hm⟩ : ∃ m, movedN n 3 = m := ⟨_, rfl⟩
 rw [hm];go_enter Tryz.func128, Tryz.ntmps128;obtain ⟨⟨s0, s1, s2, s3, s4⟩, ⟨y0, y1, y2, y3⟩, ⟨r0, r1, r2, r3, r4⟩, ⟨f0, f1, f2, f3, f4⟩, ⟨g0, g1, g2, g3, g4⟩⟩ := h3.cells;go_wp2_with (first | (go_at_call 152; first | (rw [hw0]; refine hcc.mono ?_) | refine hcc.mono ?_; rintro e w1 ⟨rfl, hb1⟩; clear s0 s1 s2 s3 s4 y0 y1 y2 y3 r0 r1 r2 r3 r4 f0 f1 f2 f3 f4 g0 g1 g2 g3 g4; have h31 := h3.below hb1; have hB := h31.2.2.2; obtain ⟨⟨s0, s1, s2, s3, s4⟩, ⟨y0, y1, y2, y3⟩, ⟨r0, r1, r2, r3, r4⟩, ⟨f0, f1, f2, f3, f4⟩, ⟨g0, g1, g2, g3, g4⟩⟩ := h31.cells; clear h3 hw0; have lt0 := ((hl.below hB).2 n n12).2.2.2; rw [hm] at lt0) | (go_at_call 153; refine (hcl _).mono ?_; rintro e w' ⟨rfl, rfl⟩))
 obtain ⟨w2, hrun, h32⟩ := copy_rep0 h31 m;have hB2 := h32.2.2.2
 go_region
 clear s0 s1 s2 s3 s4 y0 y1 y2 y3 r0 r1 r2 r3 r4 f0 f1 f2 f3 f4 g0 g1 g2 g3 g4 hrun lt0;obtain ⟨⟨s0, s1, s2, s3, s4⟩, ⟨y0, y1, y2, y3⟩, ⟨r0, r1, r2, r3, r4⟩, ⟨f0, f1, f2, f3, f4⟩, ⟨g0, g1, g2, g3, g4⟩⟩ := h32.cells
 go_wp2
 exact bodyPost_ret (v := .tuple #[.agg (stC m a b c d), .int .i64 0]) (by simp [results, Tryz.results128, go_sem, *]) rfl ⟨rfl, below5 (below1 hB2 (Nat.le_refl _) _) (up2 _) _ _ _ _ _⟩
theorem Next_rep1 (n : Nat) (a b c d y l : Int) (h : rightP n a b c d) (hf : isL l) (w : World) (hl : Laid w) : Calls Tryz.prog 128 #[stV n a b c d, yV 3 y l 1] w (NPost (stV (movedN n 3) b a c d) 0 w) := by
 have hcl := isLen_any l;rw [decide_eq_true hf] at hcl;have n12 : n < 12 := by have := h.2.2.2.2.2; omega
 have n12' : (n : Int) < 12 := by omega
 have hc := right_any n a b c d;rw [decide_eq_true h] at hc;have h3 := three_new 157 w n a b c d 3 y l 1;unfold stV at hc ⊢;unfold yV;obtain ⟨w0, hw0⟩ : ∃ w0, (((w.alloc (.cells (stC n a b c d) 157)).alloc (.cells #[.int .i64 3, .int .u8 y, .int .i64 l, .int .i64 1] 232)).alloc (.cells (stC 0 0 0 0 0) 157)) = w0 := ⟨_, rfl⟩;rw [hw0] at h3;have hcc := hc w0;clear hc;obtain ⟨m, hm⟩ : ∃ m, movedN n 3 = m := ⟨_, rfl⟩
 rw [hm];go_enter Tryz.func128, Tryz.ntmps128;obtain ⟨⟨s0, s1, s2, s3, s4⟩, ⟨y0, y1, y2, y3⟩, ⟨r0, r1, r2, r3, r4⟩, ⟨f0, f1, f2, f3, f4⟩, ⟨g0, g1, g2, g3, g4⟩⟩ := h3.cells;go_wp2_with (first | (go_at_call 152; first | (rw [hw0]; refine hcc.mono ?_) | refine hcc.mono ?_; rintro e w1 ⟨rfl, hb1⟩; clear s0 s1 s2 s3 s4 y0 y1 y2 y3 r0 r1 r2 r3 r4 f0 f1 f2 f3 f4 g0 g1 g2 g3 g4; have h31 := h3.below hb1; have hB := h31.2.2.2; obtain ⟨⟨s0, s1, s2, s3, s4⟩, ⟨y0, y1, y2, y3⟩, ⟨r0, r1, r2, r3, r4⟩, ⟨f0, f1, f2, f3, f4⟩, ⟨g0, g1, g2, g3, g4⟩⟩ := h31.cells; clear h3 hw0; have lt0 := ((hl.below hB).2 n n12).2.2.2; rw [hm] at lt0) | (go_at_call 153; refine (hcl _).mono ?_; rintro e w' ⟨rfl, rfl⟩))
 obtain ⟨w2, hrun, h32⟩ := copy_rep1 h31 m;have hB2 := h32.2.2.2
 go_region
 clear s0 s1 s2 s3 s4 y0 y1 y2 y3 r0 r1 r2 r3 r4 f0 f1 f2 f3 f4 g0 g1 g2 g3 g4 hrun lt0;obtain ⟨⟨s0, s1, s2, s3, s4⟩, ⟨y0, y1, y2, y3⟩, ⟨r0, r1, r2, r3, r4⟩, ⟨f0, f1, f2, f3, f4⟩, ⟨g0, g1, g2, g3, g4⟩⟩ := h32.cells
 go_wp2
 exact bodyPost_ret (v := .tuple #[.agg (stC m b a c d), .int .i64 0]) (by simp [results, Tryz.results128, go_sem, *]) rfl ⟨rfl, below5 (below1 hB2 (Nat.le_refl _) _) (up2 _) _ _ _ _ _⟩
theorem Next_rep2 (n : Nat) (a b c d y l : Int) (h : rightP n a b c d) (hf : isL l) (w : World) (hl : Laid w) : Calls Tryz.prog 128 #[stV n a b c d, yV 3 y l 2] w (NPost (stV (movedN n 3) c a b d) 0 w) := by
 have hcl := isLen_any l;rw [decide_eq_true hf] at hcl;have n12 : n < 12 := by have := h.2.2.2.2.2; omega
 have n12' : (n : Int) < 12 := by omega
 have hc := right_any n a b c d;rw [decide_eq_true h] at hc;have h3 := three_new 157 w n a b c d 3 y l 2;unfold stV at hc ⊢;unfold yV;obtain ⟨w0, hw0⟩ : ∃ w0, (((w.alloc (.cells (stC n a b c d) 157)).alloc (.cells #[.int .i64 3, .int .u8 y, .int .i64 l, .int .i64 2] 232)).alloc (.cells (stC 0 0 0 0 0) 157)) = w0 := ⟨_, rfl⟩;rw [hw0] at h3;have hcc := hc w0;clear hc;obtain ⟨m, hm⟩ : ∃ m, movedN n 3 = m := ⟨_, rfl⟩
 rw [hm];go_enter Tryz.func128, Tryz.ntmps128;obtain ⟨⟨s0, s1, s2, s3, s4⟩, ⟨y0, y1, y2, y3⟩, ⟨r0, r1, r2, r3, r4⟩, ⟨f0, f1, f2, f3, f4⟩, ⟨g0, g1, g2, g3, g4⟩⟩ := h3.cells;go_wp2_with (first | (go_at_call 152; first | (rw [hw0]; refine hcc.mono ?_) | refine hcc.mono ?_; rintro e w1 ⟨rfl, hb1⟩; clear s0 s1 s2 s3 s4 y0 y1 y2 y3 r0 r1 r2 r3 r4 f0 f1 f2 f3 f4 g0 g1 g2 g3 g4; have h31 := h3.below hb1; have hB := h31.2.2.2; obtain ⟨⟨s0, s1, s2, s3, s4⟩, ⟨y0, y1, y2, y3⟩, ⟨r0, r1, r2, r3, r4⟩, ⟨f0, f1, f2, f3, f4⟩, ⟨g0, g1, g2, g3, g4⟩⟩ := h31.cells; clear h3 hw0; have lt0 := ((hl.below hB).2 n n12).2.2.2; rw [hm] at lt0) | (go_at_call 153; refine (hcl _).mono ?_; rintro e w' ⟨rfl, rfl⟩))
 obtain ⟨w2, hrun, h32⟩ := copy_rep2 h31 m;have hB2 := h32.2.2.2
 go_region
 clear s0 s1 s2 s3 s4 y0 y1 y2 y3 r0 r1 r2 r3 r4 f0 f1 f2 f3 f4 g0 g1 g2 g3 g4 hrun lt0;obtain ⟨⟨s0, s1, s2, s3, s4⟩, ⟨y0, y1, y2, y3⟩, ⟨r0, r1, r2, r3, r4⟩, ⟨f0, f1, f2, f3, f4⟩, ⟨g0, g1, g2, g3, g4⟩⟩ := h32.cells
 go_wp2
 exact bodyPost_ret (v := .tuple #[.agg (stC m c a b d), .int .i64 0]) (by simp [results, Tryz.results128, go_sem, *]) rfl ⟨rfl, below5 (below1 hB2 (Nat.le_refl _) _) (up2 _) _ _ _ _ _⟩
theorem Next_rep3 (n : Nat) (a b c d y l : Int) (h : rightP n a b c d) (hf : isL l) (w : World) (hl : Laid w) : Calls Tryz.prog 128 #[stV n a b c d, yV 3 y l 3] w (NPost (stV (movedN n 3) d a b c) 0 w) := by
 have hcl := isLen_any l;rw [decide_eq_true hf] at hcl;have n12 : n < 12 := by have := h.2.2.2.2.2; omega
 have n12' : (n : Int) < 12 := by omega
 have hc := right_any n a b c d;rw [decide_eq_true h] at hc;have h3 := three_new 157 w n a b c d 3 y l 3;unfold stV at hc ⊢;unfold yV;obtain ⟨w0, hw0⟩ : ∃ w0, (((w.alloc (.cells (stC n a b c d) 157)).alloc (.cells #[.int .i64 3, .int .u8 y, .int .i64 l, .int .i64 3] 232)).alloc (.cells (stC 0 0 0 0 0) 157)) = w0 := ⟨_, rfl⟩;rw [hw0] at h3;have hcc := hc w0;clear hc;obtain ⟨m, hm⟩ : ∃ m, movedN n 3 = m := ⟨_, rfl⟩
 rw [hm];go_enter Tryz.func128, Tryz.ntmps128;obtain ⟨⟨s0, s1, s2, s3, s4⟩, ⟨y0, y1, y2, y3⟩, ⟨r0, r1, r2, r3, r4⟩, ⟨f0, f1, f2, f3, f4⟩, ⟨g0, g1, g2, g3, g4⟩⟩ := h3.cells;go_wp2_with (first | (go_at_call 152; first | (rw [hw0]; refine hcc.mono ?_) | refine hcc.mono ?_; rintro e w1 ⟨rfl, hb1⟩; clear s0 s1 s2 s3 s4 y0 y1 y2 y3 r0 r1 r2 r3 r4 f0 f1 f2 f3 f4 g0 g1 g2 g3 g4; have h31 := h3.below hb1; have hB := h31.2.2.2; obtain ⟨⟨s0, s1, s2, s3, s4⟩, ⟨y0, y1, y2, y3⟩, ⟨r0, r1, r2, r3, r4⟩, ⟨f0, f1, f2, f3, f4⟩, ⟨g0, g1, g2, g3, g4⟩⟩ := h31.cells; clear h3 hw0; have lt0 := ((hl.below hB).2 n n12).2.2.2; rw [hm] at lt0) | (go_at_call 153; refine (hcl _).mono ?_; rintro e w' ⟨rfl, rfl⟩))
 obtain ⟨w2, hrun, h32⟩ := copy_rep3 h31 m;have hB2 := h32.2.2.2
 go_region
 clear s0 s1 s2 s3 s4 y0 y1 y2 y3 r0 r1 r2 r3 r4 f0 f1 f2 f3 f4 g0 g1 g2 g3 g4 hrun lt0;obtain ⟨⟨s0, s1, s2, s3, s4⟩, ⟨y0, y1, y2, y3⟩, ⟨r0, r1, r2, r3, r4⟩, ⟨f0, f1, f2, f3, f4⟩, ⟨g0, g1, g2, g3, g4⟩⟩ := h32.cells
 go_wp2
 exact bodyPost_ret (v := .tuple #[.agg (stC m d a b c), .int .i64 0]) (by simp [results, Tryz.results128, go_sem, *]) rfl ⟨rfl, below5 (below1 hB2 (Nat.le_refl _) _) (up2 _) _ _ _ _ _⟩
end Go.Proofs.YtcjehjdehdoaeaaGreatDoor
namespace Go.Proofs.YtcjehjdehdoaeaaGreatDoor
open Go.RowKit Go.ChangeShapes Go.WideShapes Go.ChangeAt
section
variable {H : Type} {enc : TypeId × Value → H} {w : World} {base : Nat} {spare : Nat → Bool} {held : Bool} {r : Reach} {b0 : Nat}
theorem int_at {n : Nat} {k : IntKind} {t : TypeId} {cs : List Value} {i : Nat} {y : Option (DataW H × List MemPlace)} (hu : Tryz.prog.underlying t = some (.int k)) (h : DataW.trod enc Tryz.prog w base spare held n t ((cs.drop i).take 1) = y) (hy : y.isSome = true) (hi : i < cs.length) : ∃ x, cs[i]? = some (.int k x) := by
 obtain ⟨y, rfl⟩ := Option.isSome_iff_exists.1 hy;obtain ⟨x, e, _⟩ := DataW.trod_int hu h;rw [List.drop_eq_getElem_cons hi, List.take_succ_cons, List.take_zero] at e;injection e with e;exact ⟨x, by rw [List.getElem?_eq_getElem hi, e]⟩
theorem open_agg {t : TypeId} {fs : Array Field} {v : Value} {d : DataW H} {p : List MemPlace} (hu : Tryz.prog.underlying t = some (.struct fs)) (hv : Value.okWide Tryz.prog w r b0 t v) (h : DataW.Trod enc Tryz.prog w base spare held t v d p) :
 ∃ cs : Array Value, v = .agg cs ∧ ∃ n, DataW.trod enc Tryz.prog w base spare held n t cs.toList = some (d, p) := by
 obtain ⟨cs, rfl, _⟩ := okWide_struct hu hv;obtain ⟨n, hn⟩ := h;exact ⟨cs, rfl, n, hn⟩
end
end Go.Proofs.YtcjehjdehdoaeaaGreatDoor
