/-
  Walk of Greedy: it answers as a plain function says. Conditions: the data lie in memory, a right piece, dictionary and state.
-/
import Derived.Test.YthlflcnpmabmbaaDoorPaB
namespace Go.Proofs.YthlflcnpmabmbaaDoor
open Go.RowKit Go.Shelf
attribute [local go_sem] Oper.semAt_some
set_option maxRecDepth 100000

def ysz (y : Sy) : Nat := (max 1 y.l).toNat
theorem ysz_int (y : Sy) : (ysz y : Int) = max 1 y.l := by unfold ysz; omega
def greedyGo (l : List UInt8) (hi : Nat) (dict : Int) : Nat → Nat → St → List Sy × St
  | 0, _, s => ([], s)
  | f + 1, p, s => if p < hi then (firstP l hi dict p s :: (greedyGo l hi dict f (p + ysz (firstP l hi dict p s)) (nextS s (firstP l hi dict p s))).1, (greedyGo l hi dict f (p + ysz (firstP l hi dict p s)) (nextS s (firstP l hi dict p s))).2) else ([], s)
theorem greedy_fuel (l : List UInt8) (hi : Nat) (dict : Int) : ∀ f g p s, hi - p ≤ f → hi - p ≤ g → greedyGo l hi dict f p s = greedyGo l hi dict g p s := by
  intro f
  induction f with
  | zero =>
    intro g p s h1 h2
    cases g with
    | zero => rfl
    | succ g => unfold greedyGo; rw [if_neg (by omega)]
  | succ f ih =>
    intro g p s h1 h2
    by_cases hlt : p < hi
    · obtain ⟨g, rfl⟩ : ∃ k, g = k + 1 := ⟨g - 1, by omega⟩
      have hy : 1 ≤ ysz (firstP l hi dict p s) := by unfold ysz; omega
      unfold greedyGo
      rw [if_pos hlt, if_pos hlt, ih g _ _ (by omega) (by omega)]
    · cases g with
      | zero => unfold greedyGo; rw [if_neg hlt]
      | succ g => unfold greedyGo; rw [if_neg hlt, if_neg hlt]
theorem greedy_step (l : List UInt8) (hi : Nat) (dict : Int) (p : Nat) (s : St) (h : p < hi) (hy : p + ysz (firstP l hi dict p s) ≤ hi) : greedyGo l hi dict (hi - p) p s = (firstP l hi dict p s :: (greedyGo l hi dict (hi - (p + ysz (firstP l hi dict p s))) (p + ysz (firstP l hi dict p s)) (nextS s (firstP l hi dict p s))).1, (greedyGo l hi dict (hi - (p + ysz (firstP l hi dict p s))) (p + ysz (firstP l hi dict p s)) (nextS s (firstP l hi dict p s))).2) := by
  have h1 : 1 ≤ ysz (firstP l hi dict p s) := by unfold ysz; omega
  obtain ⟨f, hf⟩ : ∃ f, hi - p = f + 1 := ⟨hi - p - 1, by omega⟩
  rw [hf]
  rw [greedy_fuel l hi dict (hi - (p + ysz (firstP l hi dict p s))) f _ _ (by omega) (by omega)]
  show (if p < hi then _ else _) = _
  rw [if_pos h]
theorem PIn.fr2 {x : Pc} {pos : Nat} {w w' : World} {S : Nat → Prop} (h : PIn x pos w) (hf : Fr S w w') (hS : ∀ g, x.q.L ≤ g → g ≤ x.cb → ¬ S g) (hA : 0 < x.m → ∀ ad, x.A = some ad → ¬ S ad.block) : PIn x pos w' := by
  have hL := h.f.fs
  have hor := h.or1
  exact ⟨h.b.fr hf (hS _ (by omega) (Nat.le_refl _)), h.d.fr hf hA, h.f.fr hf (fun g h1 h2 => hS g h1 (by omega)), h.ql, h.qd, h.or1, h.le, h.di, h.ad⟩
set_option maxHeartbeats 8000000 in
theorem Greedy_ok (A : Option Addr) (m c : Nat) (l : List UInt8) (fr hi : Nat) (dict : Int) (s : St) (w : World) (h : In w A m l) (h0 : m = 0 → A = none ∧ c = 0 ∨ ∃ a, A = some a) (hmc : m ≤ c) (hm : m ≤ 1048576) (h1 : fr ≤ hi) (h2 : hi ≤ m) (hd : 1 ≤ dict ∧ dict ≤ 4294967295) (hs : s.right) (hl : Laid w) :
    Calls Tryd.prog 13 #[.slice A m c, .int .i64 fr, .int .i64 hi, .int .i64 dict, s.v] w fun e w' => ∃ L lc, e = .returned (.tuple #[.slice L (greedyGo l hi dict (hi - fr) fr s).1.length lc, (greedyGo l hi dict (hi - fr) fr s).2.v, .int .i64 0]) ∧ w'.ownsRow w.heap.size 24 4 (.slice L (greedyGo l hi dict (hi - fr) fr s).1.length lc) (greedyGo l hi dict (hi - fr) fr s).1.length (syc (greedyGo l hi dict (hi - fr) fr s).1) ∧ Below w.heap.size w w' := by
  obtain ⟨i0, hi0, hz0, hz1, hz2⟩ := info_parts infosy
  obtain ⟨R, hR⟩ : ∃ R, greedyGo l hi dict (hi - fr) fr s = R := ⟨_, rfl⟩
  rw [hR]
  have HR := Lib.hid hR
  have Hs := Lib.hid hs
  have HL := Lib.hid hl
  have hadB : Hid (0 < m → ∀ ad, A = some ad → ad.block < w.heap.size) := h.2.1
  have hlen : Hid (l.length = m) := h.len
  obtain ⟨B, hB⟩ : ∃ B, w.heap.size = B := ⟨_, rfl⟩
  obtain ⟨w1, hw1⟩ : ∃ w1, (w.alloc (.cells (stC s.n s.a s.b s.c s.d) 37)).alloc (.cells #[.int .i64 0, .int .i64 0, .int .i64 0, .int .i64 0, .int .i64 0] 37) = w1 := ⟨_, rfl⟩
  have hb1 : Below w.heap.size w w1 := by rw [← hw1]; exact ((Below.refl _ _).alloc (Nat.le_refl _) _).alloc (by simp) _
  have hS1 : Blk w1 B 37 (stC s.n s.a s.b s.c s.d) := by rw [← hw1]; exact (Blk.new_at hB.symm).alloc _
  have hT1 : Blk w1 (B + 1) 37 #[.int .i64 0, .int .i64 0, .int .i64 0, .int .i64 0, .int .i64 0] := by rw [← hw1]; exact Blk.new_at (by simp [hB])
  have hz1' : w1.heap.size = B + 2 := by rw [← hw1, World.size_alloc, World.size_alloc, hB]
  have HN := Lib.hid (newPiece_ok A m c l fr hi dict w1 (h.below hb1) h0 hmc (by omega) h1 h2 hd)
  have H1 := Lib.hid (And.intro hb1 (And.intro hS1 (And.intro hT1 hz1')))
  have HBe := Lib.hid hB
  clear hR hs hl h h0 hb1 hS1 hT1 hz1'
  unfold stC at hw1
  unfold St.v stC
  go_enter Tryd.func13, Tryd.ntmps13
  go_wp2_with fail
  refine HN.out.mono ?_
  rintro e w2 ⟨⟨q, cb, A', m', c', l', hi', dict'⟩, rfl, e1, e2, e3, e4, e5, e6, hqL, hcb, hP, hb2⟩
  simp only [] at e1 e2 e3 e4 e5 e6 hqL hcb
  subst e1 e2 e3 e4 e5 e6
  have hS2 := H1.out.2.1.below hb2
  have HW2 := Lib.hid (And.intro (H1.out.2.1.below hb2) (And.intro (H1.out.2.2.1.below hb2) (And.intro hP (And.intro (bup H1.out.1 hb2) (And.intro hqL hcb)))))
  have Hr := Lib.hid (pright_any s w2 (HL.out.below (bup H1.out.1 hb2)))
  rw [if_pos Hs.out] at Hr
  obtain ⟨⟨y0, y1, y2, y3, y4⟩, _⟩ := st_five hS2
  unfold St.v stC at Hr
  clear hqL hcb hP hb2 hS2 HN hw1 hB
  go_wp2_with fail
  refine Hr.out.mono ?_
  rintro e w3 ⟨rfl, hb3⟩
  have HW3 : Hid (Blk w3 B 37 (stC s.n s.a s.b s.c s.d) ∧ Blk w3 (B + 1) 37 #[.int .i64 0, .int .i64 0, .int .i64 0, .int .i64 0, .int .i64 0] ∧ PIn ⟨q, cb, A', m', c', l', hi', dict'⟩ fr w3 ∧ Below w.heap.size w w3 ∧ B + 2 ≤ q.L ∧ cb < w3.heap.size) := by
    obtain ⟨g1, g2, g3, g4, g5, g6⟩ := HW2.out
    exact ⟨g1.below hb3, g2.below hb3, g3.below hb3, bup g4 hb3, by have := H1.out.2.2.2; omega, Nat.lt_of_lt_of_le g6 hb3.size⟩
  clear y0 y1 y2 y3 y4 hb3 HW2 Hr
  go_wp2_with fail
  obtain ⟨D, hD⟩ : ∃ D, w3.heap.size = D := ⟨_, rfl⟩
  go_loopw [16, 17] (fun s16 s17 wr => ∃ (p : Nat) (t : St) (acc : List Sy) (L : Option Addr) (lc : Nat), s16 = .slice L acc.length lc ∧ s17 = .int .i64 (p : Int) ∧ p ≤ hi' ∧ Hid (t.right ∧ R = (acc ++ (greedyGo l' hi' dict' (hi' - p) p t).1, (greedyGo l' hi' dict' (hi' - p) p t).2) ∧ acc.length ≤ p ∧ Blk wr B 37 (stC t.n t.a t.b t.c t.d) ∧ Blk wr (B + 1) 37 #[.int .i64 0, .int .i64 0, .int .i64 0, .int .i64 0, .int .i64 0] ∧ PIn ⟨q, cb, A', m', c', l', hi', dict'⟩ p wr ∧ wr.ownsRow D 24 4 (.slice L acc.length lc) acc.length (syc acc) ∧ Below w.heap.size w wr ∧ D ≤ wr.heap.size)) (fun _ s17 _ => hi' - (intOf s17).toNat)
  case atStart => exact ⟨fr, s, [], none, 0, rfl, rfl, h1, Hs.out, by rw [List.nil_append]; exact HR.out.symm, Nat.zero_le _, HW3.out.1, HW3.out.2.1, HW3.out.2.2.1, World.ownsRow_nil _ _ _ _, HW3.out.2.2.2.1, by omega⟩
  case round =>
    have HD : Hid (B + 2 ≤ q.L ∧ cb < D ∧ w.heap.size = B ∧ q.L ≤ cb) := ⟨HW3.out.2.2.2.2.1, by have := HW3.out.2.2.2.2.2; omega, HBe.out, by have := HW3.out.2.2.1.or1; have := HW3.out.2.2.1.f.fs; simp only [] at *; omega⟩
    clear HW3 hD H1 HBe
    obtain ⟨p, t, acc, L, lc, rfl, rfl, hp, HI⟩ := hrel
    by_cases hlt : p < hi'
    · obtain ⟨i1, i2, i3, i4, i5, i6, i7, i8, i9⟩ := HI.out
      have hF := first_any ⟨q, cb, A', m', c', l', hi', dict'⟩ p t wr i6 hlt
      simp only [] at hF
      obtain ⟨hok1, hok2, hok3⟩ := firstP_ok l' hi' dict' p t i1 hd.2
      have hpm : pmost hi' p ≤ hi' - p := by unfold pmost; omega
      have hyi := ysz_int (firstP l' hi' dict' p t)
      have hgs := greedy_step l' hi' dict' p t hlt (by omega)
      have hNx := Next_p t (firstP l' hi' dict' p t)
      have hrt := nextS_right hok1
      rw [hok1] at hNx
      obtain ⟨yv, hyv⟩ : ∃ yv, firstP l' hi' dict' p t = yv := ⟨_, rfl⟩
      rw [hyv] at hF hok2 hok3 hyi hgs hNx hrt
      obtain ⟨z, hz⟩ : ∃ z, ysz yv = z := ⟨_, rfl⟩
      rw [hz] at hyi hgs
      obtain ⟨t2, ht2⟩ : ∃ t2, nextS t yv = t2 := ⟨_, rfl⟩
      rw [ht2] at hNx hgs hrt
      have hpz : p + z ≤ hi' := by omega
      have hzo : 1 ≤ z := by omega
      rw [hgs] at i2
      have HR2 : Hid (R = ((acc ++ [yv]) ++ (greedyGo l' hi' dict' (hi' - (p + z)) (p + z) t2).1, (greedyGo l' hi' dict' (hi' - (p + z)) (p + z) t2).2)) := by
        show _ = _
        rw [i2, List.append_assoc]; rfl
      have Hrt := Lib.hid hrt
      have hsc : syc (acc ++ [yv]) = syc acc ++ syc [yv] := syc_append _ _
      obtain ⟨yk, yy, yl, yx⟩ := yv
      obtain ⟨tn, ta, tb, tc, td⟩ := t
      obtain ⟨un, ua, ub, uc, ud⟩ := t2
      unfold St.v Sy.v Sy.cs stC at hNx
      unfold St.v Sy.v Sy.cs stC at hF
      unfold stC at i4
      simp only [] at hNx hF i4 hyi hok2 hok3
      have Hyi := Lib.hid hyi
      have HNx := Lib.hid hNx
      have HF := Lib.hid hF
      have HSk : Hid (∀ W, PIn ⟨q, cb, A', m', c', l', hi', dict'⟩ p W → Calls Tryd.prog 29 #[.pointer (some ⟨q.fb, 0, none⟩), .int .i64 (z : Int)] W fun en w' => en = .returned (.int .i64 0) ∧ PIn ⟨q, cb, A', m', c', l', hi', dict'⟩ (p + z) w' ∧ Fr (fun g => g = q.fb) W w') := fun W hW => by
        have hql : q.l = l' := hW.ql
        have hll : l'.length = m' := hW.len
        refine (Skip_go q p z W hW.f (by rw [hql, hll]; omega) (by rw [hql, hll]; omega)).mono ?_
        rintro en w' ⟨r1, r2, r3⟩
        exact ⟨r1, hW.skip r3 r2, r3⟩
      have HSz := Lib.hid (fun (W : World) => size_any yk yl yx yy W)
      rw [← hyi] at HSz
      obtain ⟨⟨b0, b1, b2, b3, b4⟩, _⟩ := st_five i4
      have HI2 := Lib.hid (And.intro i3 (And.intro i4 (And.intro i5 (And.intro i6 (And.intro i7 (And.intro i8 i9))))))
      have Hsc := Lib.hid hsc
      have Hz := Lib.hid (And.intro hz ht2)
      have hlt' : (p : Int) < (hi' : Int) := by omega
      clear i1 i2 i3 i4 i5 i6 i7 i8 i9 HI hok1 hok2 hok3 hgs hNx hrt hF hyi hsc hz ht2 hyv hpm
      go_wp2_with fail
      refine HF.out.mono ?_
      rintro e wa ⟨rfl, hba⟩
      obtain ⟨wb, hwb⟩ : ∃ wb, wa.alloc (.cells #[.int .i64 yk, .int .u8 (yy.toNat : Int), .int .i64 yl, .int .i64 yx] 24) = wb := ⟨_, rfl⟩
      obtain ⟨Yb, hYb⟩ : ∃ Yb, wa.heap.size = Yb := ⟨_, rfl⟩
      have hbb : Below wr.heap.size wr wb := by rw [← hwb]; exact bmk hba _
      have hYB : Blk wb Yb 24 #[.int .i64 yk, .int .u8 (yy.toNat : Int), .int .i64 yl, .int .i64 yx] := by rw [← hwb]; exact Blk.new_at hYb.symm
      have hsB := HI2.out.2.1.below hbb
      have hYr : wr.heap.size ≤ Yb := by rw [← hYb]; exact hba.size
      have Hbb := Lib.hid (And.intro hbb (And.intro hYB hYr))
      obtain ⟨v0, v1, v2, v3⟩ := hYB.four
      obtain ⟨⟨c0, c1, c2, c3, c4⟩, _⟩ := st_five hsB
      clear hbb hYB hsB b0 b1 b2 b3 b4 hba HF hYr
      go_wp2_with fail
      clear hwb hYb
      refine (HNx.out wb (HL.out.below (bup HI2.out.2.2.2.2.2.1 Hbb.out.1))).mono ?_
      rintro e wc ⟨rfl, hbc⟩
      obtain ⟨wd, hwd⟩ : ∃ wd, wc.alloc (.cells #[.int .i64 un, .int .i64 ua, .int .i64 ub, .int .i64 uc, .int .i64 ud] 37) = wd := ⟨_, rfl⟩
      obtain ⟨Tb, hTb⟩ : ∃ Tb, wc.heap.size = Tb := ⟨_, rfl⟩
      have hbd : Below wb.heap.size wb wd := by rw [← hwd]; exact bmk hbc _
      have hTB : Blk wd Tb 37 #[.int .i64 un, .int .i64 ua, .int .i64 ub, .int .i64 uc, .int .i64 ud] := by rw [← hwd]; exact Blk.new_at hTb.symm
      have hTr : wr.heap.size ≤ Tb := by rw [← hTb]; exact Nat.le_trans Hbb.out.1.size hbc.size
      have hYd := Hbb.out.2.1.below hbd
      have Hwd := Lib.hid (And.intro (bup Hbb.out.1 hbd) (And.intro hTB (And.intro hTr (And.intro hYd Hbb.out.2.2))))
      obtain ⟨v0, v1, v2, v3⟩ := hYd.four
      have HOd := Lib.hid (own_below HI2.out.2.2.2.2.1 (bup Hbb.out.1 hbd))
      have hsz : acc.length ≤ p := HI2.out.1
      have hDw : D ≤ wd.heap.size := Nat.le_trans HI2.out.2.2.2.2.2.2 (bup Hbb.out.1 hbd).size
      clear v0 v1 v2 v3 c0 c1 c2 c3 c4 hbc hbd hTB hTr hYd HNx
      obtain ⟨v0, v1, v2, v3⟩ := Hwd.out.2.2.2.1.four
      go_upto_region 14 with (fail)
      clear hwd hTb
      go_upto_region 15 with (at_builtin; refine wpList_append_rd (w := wd.alloc (.cells #[.int .i64 yk, .int .u8 (yy.toNat : Int), .int .i64 yl, .int .i64 yx] 24)) rfl (.tmp 57) (.tmp 59) 22 rfl D 24 i0 _ 4 32 Tryd.underlying22 hi0 hz0 hz1 hz2 rfl (by decide) (.slice L acc.length lc) acc.length (syc acc) rfl (HOd.out.alloc _) (some ⟨wd.heap.size, 0, none⟩) 1 1 (syc [⟨yk, yy, yl, yx⟩]) rfl (Rd.of_blk (Blk.new _ _ _) rfl rfl) (syc_one _) (by simp only [maxLen]; omega) (by omega) (by simp; omega) ?_; intro L2 lc2 we hown hg hat)
      clear v0 v1 v2 v3
      have hFe : Fr (fun g => some g = (Value.slice L acc.length lc).ownBlock) wd we := ((Fr.refl _ wd).alloc _).grown hg (fun g hg' => .inl hg'.symm)
      have hol : ∀ g, some g = (Value.slice L acc.length lc).ownBlock → D ≤ g ∧ g < wr.heap.size := fun g e => own_lt HI2.out.2.2.2.2.1 e.symm
      obtain ⟨hFd, hTB, hTr, hYd, hYr⟩ := Hwd.out
      obtain ⟨d1, d2, d3, d4⟩ := HD.out
      have hB4 := (HI2.out.2.1.below hFd).fr hFe (fun e => by have := hol _ e; omega)
      have hC4 := (HI2.out.2.2.1.below hFd).fr hFe (fun e => by have := hol _ e; omega)
      have hT4 := hTB.fr hFe (fun e => by have := hol _ e; omega)
      have hY4 := hYd.fr hFe (fun e => by have := hol _ e; omega)
      have hP4 := (HI2.out.2.2.2.1.below hFd).fr2 hFe (fun g h1 h2 e => by have := hol _ e; simp only [] at h2; omega) (fun h0 ad had e => by have := hol _ e; have := hadB.out h0 ad had; omega)
      have hb4 : Below w.heap.size w we := (bup HI2.out.2.2.2.2.2.1 hFd).trans (hFe.below (bup HI2.out.2.2.2.2.2.1 hFd).size (fun g e => by have := hol _ e; omega))
      have hDe : D ≤ we.heap.size := Nat.le_trans hDw hFe.size
      rw [← Hsc.out] at hown
      obtain ⟨⟨b0, b1, b2, b3, b4⟩, ⟨f0, f1, f2, f3, f4⟩⟩ := st_five hB4
      obtain ⟨⟨t0, t1, t2, t3, t4⟩, _⟩ := st_five hT4
      have hBl := hB4.lt
      obtain ⟨wf, hwf⟩ : ∃ wf, ((((we.setCell ⟨B, 0, none⟩ (.int .i64 un)).setCell ⟨B, 1, none⟩ (.int .i64 ua)).setCell ⟨B, 2, none⟩ (.int .i64 ub)).setCell ⟨B, 3, none⟩ (.int .i64 uc)).setCell ⟨B, 4, none⟩ (.int .i64 ud) = wf := ⟨_, rfl⟩
      have hBf := set5_st hB4 un ua ub uc ud
      rw [hwf] at hBf
      have hFf : Fr (fun g => g = B) we wf := by
        rw [← hwf]
        exact (((((Fr.refl (fun g => g = B) we).setCell (p := ⟨B, 0, none⟩) (.inl rfl) _).setCell (p := ⟨B, 1, none⟩) (.inl rfl) _).setCell (p := ⟨B, 2, none⟩) (.inl rfl) _).setCell (p := ⟨B, 3, none⟩) (.inl rfl) _).setCell (p := ⟨B, 4, none⟩) (.inl rfl) _
      have Hf : Hid (Blk wf B 37 (stC un ua ub uc ud) ∧ Blk wf (B + 1) 37 #[.int .i64 0, .int .i64 0, .int .i64 0, .int .i64 0, .int .i64 0] ∧ Blk wf Yb 24 #[.int .i64 yk, .int .u8 (yy.toNat : Int), .int .i64 yl, .int .i64 yx] ∧ PIn ⟨q, cb, A', m', c', l', hi', dict'⟩ p wf ∧ wf.ownsRow D 24 4 (.slice L2 (acc.length + 1) lc2) (acc.length + 1) (syc (acc ++ [⟨yk, yy, yl, yx⟩])) ∧ Below w.heap.size w wf ∧ D ≤ wf.heap.size ∧ D ≤ Yb) := by
        refine ⟨hBf, hC4.fr hFf (by omega), hY4.fr hFf (by have := HI2.out.2.2.2.2.2.2; omega), hP4.fr2 hFf (fun g h1 h2 e => by simp only [] at h1; omega) (fun h0 ad had e => by have := hadB.out h0 ad had; omega), own_fr hown hFf (fun g hg e => by have := (own_lt hown hg).1; omega), hb4.trans (hFf.below hb4.size (fun g e => by omega)), Nat.le_trans hDe hFf.size, by have := HI2.out.2.2.2.2.2.2; omega⟩
      clear hFe hol hFd hTB hTr hYd hYr hB4 hC4 hT4 hY4 hP4 hb4 hDe hown hg hat hBf hFf Hwd HOd Hbb HI2 hDw
      have HCf : Hid (∀ W : World, Below wf.heap.size wf W → W.cell? ⟨cb, 3, none⟩ = some (.pointer (some ⟨q.fb, 0, none⟩)) ∧ W.cell? ⟨Yb, 0, none⟩ = some (.int .i64 yk) ∧ W.cell? ⟨Yb, 1, none⟩ = some (.int .u8 (yy.toNat : Int)) ∧ W.cell? ⟨Yb, 2, none⟩ = some (.int .i64 yl) ∧ W.cell? ⟨Yb, 3, none⟩ = some (.int .i64 yx)) := fun W hW => ⟨(Hf.out.2.2.2.1.below hW).b.cell 3, (Hf.out.2.2.1.below hW).four⟩
      obtain ⟨x3, y0, y1, y2, y3⟩ := HCf.out wf (Below.refl _ _)
      have Hfb : Hid (q.fb < cb ∧ cb < wf.heap.size ∧ Yb < wf.heap.size) := ⟨by have := Hf.out.2.2.2.1.or1; have := Hf.out.2.2.2.1.f.fs; simp only [] at *; omega, Hf.out.2.2.2.1.b.lt, Hf.out.2.2.1.lt⟩
      go_upto_region 16 with (fail)
      clear hwf b0 b1 b2 b3 b4 f0 f1 f2 f3 f4 t0 t1 t2 t3 t4 hBl
      go_region_held3 (fun w' => w'.cell? ⟨cb, 3, none⟩ = some (.pointer (some ⟨q.fb, 0, none⟩)) ∧ w'.cell? ⟨Yb, 0, none⟩ = some (.int .i64 yk) ∧ w'.cell? ⟨Yb, 1, none⟩ = some (.int .u8 (yy.toNat : Int)) ∧ w'.cell? ⟨Yb, 2, none⟩ = some (.int .i64 yl) ∧ w'.cell? ⟨Yb, 3, none⟩ = some (.int .i64 yx))
        (first | (with_reducible exact ⟨x3, y0, y1, y2, y3⟩) | (with_reducible exact ⟨p3, p0, p1, p2, p4⟩) | (with_reducible exact ⟨q3, q0, q1, q2, q4⟩) | go_keep)
        (first | (go_at_call 43; refine (HSz.out _).mono ?_; rintro en ws ⟨rfl, hbs⟩; have hbfs : Below wf.heap.size wf ws := (by with_reducible exact bd1 hbs); obtain ⟨p3, p0, p1, p2, p4⟩ := HCf.out ws hbfs) | (go_at_call 29; refine (HSk.out _ (Hf.out.2.2.2.1.below hbfs)).mono ?_; rintro en wk ⟨rfl, hPk, hFk⟩; have hsl := hbfs.size; obtain ⟨l1, l2, l3⟩ := Hfb.out; have hYl : D ≤ Yb := Hf.out.2.2.2.2.2.2.2; have hcD : cb < D := HD.out.2.1; have q3 := (hFk.cell (p := ⟨cb, 3, none⟩) (by show cb < _; omega) (by show ¬ (cb = q.fb); omega)).trans p3; have q0 := (hFk.cell (p := ⟨Yb, 0, none⟩) (by show Yb < _; omega) (by show ¬ (Yb = q.fb); omega)).trans p0; have q1 := (hFk.cell (p := ⟨Yb, 1, none⟩) (by show Yb < _; omega) (by show ¬ (Yb = q.fb); omega)).trans p1; have q2 := (hFk.cell (p := ⟨Yb, 2, none⟩) (by show Yb < _; omega) (by show ¬ (Yb = q.fb); omega)).trans p2; have q4 := (hFk.cell (p := ⟨Yb, 3, none⟩) (by show Yb < _; omega) (by show ¬ (Yb = q.fb); omega)).trans p4))
      have Hk : Hid (Blk wk B 37 (stC un ua ub uc ud) ∧ Blk wk (B + 1) 37 #[.int .i64 0, .int .i64 0, .int .i64 0, .int .i64 0, .int .i64 0] ∧ PIn ⟨q, cb, A', m', c', l', hi', dict'⟩ (p + z) wk ∧ wk.ownsRow D 24 4 (.slice L2 (acc.length + 1) lc2) (acc.length + 1) (syc (acc ++ [⟨yk, yy, yl, yx⟩])) ∧ Below w.heap.size w wk ∧ D ≤ wk.heap.size) := by
        obtain ⟨g1, g2, g3, g4, g5, g6, g7, g8⟩ := Hf.out
        obtain ⟨d1, d2, d3, d4⟩ := HD.out
        have hf1 := g4.f.fs
        simp only [] at hf1
        have o5 := own_below g5 hbfs
        have b6 := bup g6 hbfs
        exact ⟨(g1.below hbfs).fr hFk (by omega), (g2.below hbfs).fr hFk (by omega), hPk, own_fr o5 hFk (fun g hg e => by have := (own_lt o5 hg).1; omega), b6.trans (hFk.below b6.size (fun g e => by omega)), by have := hFk.size; omega⟩
      clear x3 y0 y1 y2 y3 p3 p0 p1 p2 p4 q3 HCf Hf Hfb hPk hFk hbfs hbs hsl l1 l2 l3 hYl hcD
      go_wp2_with fail
      refine (HSz.out _).mono ?_
      rintro en ws2 ⟨rfl, hbs2⟩
      go_wp2_with fail
      go_roundw
      case rel =>
        obtain ⟨g1, g2, g3, g4, g5, g6⟩ := Hk.out
        refine ⟨p + z, ⟨un, ua, ub, uc, ud⟩, acc ++ [⟨yk, yy, yl, yx⟩], L2, lc2, by rw [List.length_append]; rfl, by go_num, hpz, Hrt.out, HR2.out, by rw [List.length_append]; simp only [List.length_cons, List.length_nil]; omega, g1.below hbs2, g2.below hbs2, g3.below hbs2, ?_, bup g5 hbs2, Nat.le_trans g6 hbs2.size⟩
        rw [List.length_append]
        exact own_below g4 hbs2
      case measure => simp [intOf]; omega
    · have hge : ¬ (p : Int) < (hi' : Int) := by omega
      obtain ⟨i1, i2, i3, i4, i5, i6, i7, i8, i9⟩ := HI.out
      have hgz : greedyGo l' hi' dict' (hi' - p) p t = ([], t) := by rw [show hi' - p = 0 by omega]; rfl
      rw [hgz, List.append_nil] at i2
      obtain ⟨tn, ta, tb, tc, td⟩ := t
      unfold stC at i4
      simp only [] at i4 i2
      obtain ⟨⟨b0, b1, b2, b3, b4⟩, _⟩ := st_five i4
      obtain ⟨⟨c0, c1, c2, c3, c4⟩, ⟨f0, f1, f2, f3, f4⟩⟩ := st_five i5
      have hcl := i5.lt
      have HI2 := Lib.hid (And.intro i2 (And.intro i5 (And.intro i7 i8)))
      clear i1 i2 i3 i4 i5 i6 i7 i8 i9 HI hgz
      go_wp2_with fail
      go_region_with (fail)
      go_wp2_with fail
      obtain ⟨j2, j5, j7, j8⟩ := HI2.out
      have hFz : Fr (fun g => g = B + 1) wr ((((((wr.setCell ⟨B + 1, 0, none⟩ (.int .i64 tn)).setCell ⟨B + 1, 1, none⟩ (.int .i64 ta)).setCell ⟨B + 1, 2, none⟩ (.int .i64 tb)).setCell ⟨B + 1, 3, none⟩ (.int .i64 tc)).setCell ⟨B + 1, 4, none⟩ (.int .i64 td)).drew) :=
        ((((((Fr.refl (fun g => g = B + 1) wr).setCell (p := ⟨B + 1, 0, none⟩) (.inl rfl) _).setCell (p := ⟨B + 1, 1, none⟩) (.inl rfl) _).setCell (p := ⟨B + 1, 2, none⟩) (.inl rfl) _).setCell (p := ⟨B + 1, 3, none⟩) (.inl rfl) _).setCell (p := ⟨B + 1, 4, none⟩) (.inl rfl) _).drew
      obtain ⟨d1, d2, d3, d4⟩ := HD.out
      refine bodyPost_ret (v := .tuple #[.slice L acc.length lc, .agg #[.int .i64 tn, .int .i64 ta, .int .i64 tb, .int .i64 tc, .int .i64 td], .int .i64 0]) (by simp [results, Tryd.results13, go_sem, Act.put, *]) rfl ?_
      rw [j2]
      exact ⟨L, lc, rfl, own_mono (own_fr j7 hFz (fun g hg e => by have := (own_lt j7 hg).1; omega)) (by omega), j8.trans (hFz.below j8.size (fun g e => by omega))⟩
end Go.Proofs.YthlflcnpmabmbaaDoor
