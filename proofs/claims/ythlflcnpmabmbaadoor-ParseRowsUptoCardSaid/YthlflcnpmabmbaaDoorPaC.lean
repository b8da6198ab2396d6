/-
  Walk of Cheap: it answers as a plain function says. Conditions: the data lie in memory, a right piece, dictionary and state.
-/
import Derived.Test.YthlflcnpmabmbaaDoorPaW
import Derived.Test.YthlflcnpmabmbaaDoorPaT
namespace Go.Proofs.YthlflcnpmabmbaaDoor
open Go.RowKit Go.Shelf
attribute [local go_sem] Oper.semAt_some
set_option maxRecDepth 100000

/-- steps of a plan, one behind the other, from p to hi -/
def fits (hi : Nat) : Nat → List Sy → Prop
  | p, [] => p = hi
  | p, y :: r => planY y ∧ fits hi (p + ysz y) r
theorem fits_le {hi : Nat} {r : List Sy} : ∀ {p : Nat}, fits hi p r → p ≤ hi := by
  induction r with
  | nil => intro p h; exact Nat.le_of_eq h
  | cons y r ih => intro p h; have := ih h.2; omega
theorem path_fits (l : List UInt8) (hi : Nat) (dict : Int) (hd : dict ≤ 4294967295) : ∀ f p, hi - p ≤ f → p ≤ hi → fits hi p (pathGo (fun p => (planT l hi dict p).1) hi f p) := by
  intro f
  induction f with
  | zero => intro p h1 h2; show p = hi; omega
  | succ f ih =>
    intro p h1 h2
    unfold pathGo
    by_cases hlt : p < hi
    · rw [if_pos hlt]
      have h3 := planT_ysz l hi dict p hlt
      have h4 := ysz_pos (planT l hi dict p).1
      exact ⟨planT_Y l hi dict p hlt hd, ih _ (by omega) h3⟩
    · rw [if_neg hlt]; show p = hi; omega
theorem planL_fits (l : List UInt8) (fr hi : Nat) (dict : Int) (hd : dict ≤ 4294967295) (h : fr ≤ hi) : fits hi fr (planL l fr hi dict) := path_fits l hi dict hd _ _ (Nat.le_refl _) h
theorem fits_len {hi : Nat} {r : List Sy} : ∀ {p : Nat}, fits hi p r → p + r.length ≤ hi := by
  induction r with
  | nil => intro p h; exact Nat.le_of_eq h
  | cons y r ih => intro p h; have := ih h.2; have := ysz_pos y; rw [List.length_cons]; omega
theorem syc_set_mid (d r : List Sy) (y t : Sy) : ((((syc (d ++ y :: r)).set (d.length * 4) (.int .i64 t.k)).set (d.length * 4 + 1) (.int .u8 (t.y.toNat : Int))).set (d.length * 4 + 2) (.int .i64 t.l)).set (d.length * 4 + 3) (.int .i64 t.x) = syc ((d ++ [t]) ++ r) := by
  rw [syc_set, List.set_append_right _ _ (Nat.le_refl _), Nat.sub_self, List.set_cons_zero, List.append_assoc]
  rfl
set_option maxHeartbeats 8000000 in
theorem Cheap_ok (A : Option Addr) (m c : Nat) (l : List UInt8) (fr hi : Nat) (dict : Int) (s : St) (w : World) (h : In w A m l) (h0 : m = 0 → A = none ∧ c = 0 ∨ ∃ a, A = some a) (hmc : m ≤ c) (hm : m ≤ 1048576) (h1 : fr ≤ hi) (h2 : hi ≤ m) (hd : 1 ≤ dict ∧ dict ≤ 4294967295) (hs : s.right) (hl : Laid w) :
    Calls Tryd.prog 17 #[.slice A m c, .int .i64 fr, .int .i64 hi, .int .i64 dict, s.v] w fun e w' => ∃ L lc, e = .returned (.tuple #[.slice L (planL l fr hi dict).length lc, (cheapS l hi dict fr s (planL l fr hi dict)).2.v, .int .i64 0]) ∧ w'.ownsRow w.heap.size 24 4 (.slice L (planL l fr hi dict).length lc) (planL l fr hi dict).length (syc (cheapS l hi dict fr s (planL l fr hi dict)).1) ∧ Below w.heap.size w w' := by
  have hfit := planL_fits l fr hi dict hd.2 h1
  have hflen := fits_len hfit
  obtain ⟨R, hR⟩ : ∃ R, cheapS l hi dict fr s (planL l fr hi dict) = R := ⟨_, rfl⟩
  rw [hR]
  have Hs := Lib.hid hs
  have HL := Lib.hid hl
  have hadB : Hid (0 < m → ∀ ad, A = some ad → ad.block < w.heap.size) := h.2.1
  obtain ⟨B, hB⟩ : ∃ B, w.heap.size = B := ⟨_, rfl⟩
  obtain ⟨w1, hw1⟩ : ∃ w1, (w.alloc (.cells (stC s.n s.a s.b s.c s.d) 37)).alloc (.cells #[.int .i64 0, .int .i64 0, .int .i64 0, .int .i64 0, .int .i64 0] 37) = w1 := ⟨_, rfl⟩
  have hb1 : Below w.heap.size w w1 := by rw [← hw1]; exact ((Below.refl _ _).alloc (Nat.le_refl _) _).alloc (by simp) _
  have hS1 : Blk w1 B 37 (stC s.n s.a s.b s.c s.d) := by rw [← hw1]; exact (Blk.new_at hB.symm).alloc _
  have hT1 : Blk w1 (B + 1) 37 #[.int .i64 0, .int .i64 0, .int .i64 0, .int .i64 0, .int .i64 0] := by rw [← hw1]; exact Blk.new_at (by simp [hB])
  have hz1' : w1.heap.size = B + 2 := by rw [← hw1, World.size_alloc, World.size_alloc, hB]
  have HN := Lib.hid (Plan_ok A m c l fr hi dict w1 (h.below hb1) h0 hmc hm h1 h2 hd (hl.below hb1))
  have H1 := Lib.hid (And.intro hb1 (And.intro hS1 (And.intro hT1 (And.intro hz1' h))))
  have HBe := Lib.hid hB
  obtain ⟨PL, hPL⟩ : ∃ PL, planL l fr hi dict = PL := ⟨_, rfl⟩
  rw [hPL] at HN hR hfit hflen ⊢
  have HR := Lib.hid hR
  have Hfit := Lib.hid hfit
  clear hR hs hl h h0 hb1 hS1 hT1 hz1' hPL hfit
  unfold stC at hw1
  unfold St.v stC
  go_enter Tryd.func17, Tryd.ntmps17
  go_wp2_with fail
  refine HN.out.mono ?_
  rintro e w2 ⟨L, lc, rfl, hrow, hb2⟩
  rw [H1.out.2.2.2.1] at hrow
  have HW2 := Lib.hid (And.intro (H1.out.2.1.below hb2) (And.intro (H1.out.2.2.1.below hb2) (And.intro hrow (And.intro (bup H1.out.1 hb2) (H1.out.2.2.2.2.below (bup H1.out.1 hb2))))))
  have Hr := Lib.hid (pright_any s w2 (HL.out.below (bup H1.out.1 hb2)))
  rw [if_pos Hs.out] at Hr
  obtain ⟨⟨y0, y1, y2, y3, y4⟩, _⟩ := st_five HW2.out.1
  unfold St.v stC at Hr
  clear hrow hb2 HN hw1 hB
  go_wp2_with fail
  refine Hr.out.mono ?_
  rintro e w3 ⟨rfl, hb3⟩
  have HW3 : Hid (Blk w3 B 37 (stC s.n s.a s.b s.c s.d) ∧ Blk w3 (B + 1) 37 #[.int .i64 0, .int .i64 0, .int .i64 0, .int .i64 0, .int .i64 0] ∧ w3.ownsRow (B + 2) 24 4 (.slice L PL.length lc) PL.length (syc PL) ∧ Below w.heap.size w w3 ∧ In w3 A m l) := by
    obtain ⟨g1, g2, g3, g4, g5⟩ := HW2.out
    exact ⟨g1.below hb3, g2.below hb3, own_below g3 hb3, bup g4 hb3, g5.below hb3⟩
  clear y0 y1 y2 y3 y4 hb3 HW2 Hr
  go_upto_region 8 with (fail)
  obtain ⟨cb, hcb⟩ : ∃ cb, w3.heap.size = cb := ⟨_, rfl⟩
  obtain ⟨w4, hw4⟩ : ∃ w4, w3.alloc (.cells #[.slice A m c, .int .i64 hi, .int .i64 dict, .pointer none] 84) = w4 := ⟨_, rfl⟩
  have hb4 : Below w3.heap.size w3 w4 := by rw [← hw4]; exact (Below.refl _ _).alloc (Nat.le_refl _) _
  have hB4 : Blk w4 cb 84 #[.slice A m c, .int .i64 hi, .int .i64 dict, .pointer none] := by rw [← hw4]; exact Blk.new_at hcb.symm
  obtain ⟨X, hX⟩ : ∃ X : Pc, X = ⟨⟨0, 0, 0, 0, 0, none, 0, [], 0, w⟩, cb, A, m, c, l, hi, dict⟩ := ⟨_, rfl⟩
  have hXc : X.cb = cb ∧ X.l = l ∧ X.hi = hi ∧ X.dict = dict ∧ X.A = A ∧ X.m = m := by subst hX; exact ⟨rfl, rfl, rfl, rfl, rfl, rfl⟩
  simp only [hw4, hcb]
  have HX := Lib.hid hXc
  have HW4 : Hid (Blk w4 B 37 (stC s.n s.a s.b s.c s.d) ∧ Blk w4 (B + 1) 37 #[.int .i64 0, .int .i64 0, .int .i64 0, .int .i64 0, .int .i64 0] ∧ w4.ownsRow (B + 2) 24 4 (.slice L PL.length lc) PL.length (syc PL) ∧ Below w.heap.size w w4 ∧ PRn X (.pointer none) w4) := by
    obtain ⟨g1, g2, g3, g4, g5⟩ := HW3.out
    exact ⟨g1.below hb4, g2.below hb4, own_below g3 hb4, bup g4 hb4, by subst hX; exact ⟨hB4, g5.below hb4, ⟨h2, hmc, by show m ≤ _; omega⟩⟩⟩
  have hBc : Hid (∀ g, (Value.slice L PL.length lc).ownBlock = some g → B + 2 ≤ g ∧ g < cb) := fun g hg => by have := own_lt HW3.out.2.2.1 hg; omega
  have hBc2 : Hid (B + 1 < cb ∧ w.heap.size = B) := ⟨by have := HW3.out.2.1.lt; omega, HBe.out⟩
  clear hw4 hb4 hB4 hX hXc hcb HW3 H1 HBe
  go_wp2_with fail
  go_loopw [17, 49] (fun s17 s49 wr => ∃ (p : Nat) (t : St) (done rest : List Sy), s17 = .int .i64 (p : Int) ∧ s49 = .int .i64 (done.length : Int) ∧ PL.length = done.length + rest.length ∧ Hid (t.right ∧ fits hi p rest ∧ R = (done ++ (cheapS l hi dict p t rest).1, (cheapS l hi dict p t rest).2) ∧ Blk wr B 37 (stC t.n t.a t.b t.c t.d) ∧ Blk wr (B + 1) 37 #[.int .i64 0, .int .i64 0, .int .i64 0, .int .i64 0, .int .i64 0] ∧ wr.ownsRow (B + 2) 24 4 (.slice L PL.length lc) PL.length (syc (done ++ rest)) ∧ Below w.heap.size w wr ∧ PRn X (.pointer none) wr)) (fun _ s49 _ => PL.length - (intOf s49).toNat)
  case atStart => exact ⟨fr, s, [], PL, rfl, rfl, by simp, Hs.out, Hfit.out, by rw [List.nil_append]; exact HR.out.symm, HW4.out.1, HW4.out.2.1, by rw [List.nil_append]; exact HW4.out.2.2.1, HW4.out.2.2.2.1, HW4.out.2.2.2.2⟩
  case round =>
    clear HW4 HR Hfit
    obtain ⟨p, t, done, rest, rfl, rfl, hlen, HI⟩ := hrel
    by_cases hlt : done.length < PL.length
    · cases rest with
      | nil => simp only [List.length_nil] at hlen; omega
      | cons y rest =>
        obtain ⟨i1, i2, i3, i4, i5, i6, i7, i8⟩ := HI.out
        obtain ⟨hY, i2⟩ := i2
        have hple := fits_le i2
        have hyp := ysz_pos y
        obtain ⟨x1, x2, x3, x4, x5, x6⟩ := HX.out
        have hTo := fun W hW => told_any X (.pointer none) p y t W (i8.below hW) (by rw [x3]; omega)
        rw [x1, x2, x3, x4] at hTo
        obtain ⟨hok1, hok2⟩ := toldP_ok l hi dict p y t hY i1
        have hNx := Next_p t (toldP l hi dict p y t)
        have hrt := nextS_right hok1
        rw [hok1] at hNx
        simp only [cheapS] at i3
        obtain ⟨tv, htv⟩ : ∃ tv, toldP l hi dict p y t = tv := ⟨_, rfl⟩
        rw [htv] at hTo hok2 hNx hrt i3
        obtain ⟨u, hu⟩ : ∃ u, nextS t tv = u := ⟨_, rfl⟩
        rw [hu] at hNx hrt i3
        have hyi := ysz_int y
        obtain ⟨z, hz⟩ : ∃ z, ysz y = z := ⟨_, rfl⟩
        rw [hz] at i2 hple hyp hyi i3
        have HR2 : Hid (R = ((done ++ [tv]) ++ (cheapS l hi dict (p + z) u rest).1, (cheapS l hi dict (p + z) u rest).2)) := by
          show _ = _
          rw [i3, List.append_assoc]; rfl
        have Hrt := Lib.hid (And.intro hrt i2)
        have hLg : ∃ g, L = some ⟨g, 0, none⟩ := by
          obtain ⟨g, cap, hv, _⟩ := i6.form (by omega)
          injection hv with hA
          exact ⟨g, hA⟩
        obtain ⟨g, rfl⟩ := hLg
        obtain ⟨g0, g1, g2, g3⟩ := syc_get (l := done ++ y :: rest) (i := done.length) (y := y) (by simp)
        obtain ⟨yk, yy, yl, yx⟩ := y
        obtain ⟨vk, vy, vl, vx⟩ := tv
        obtain ⟨tn, ta, tb, tc, td⟩ := t
        obtain ⟨un, ua, ub, uc, ud⟩ := u
        unfold St.v Sy.v Sy.cs stC at hNx hTo
        unfold stC at i4
        simp only [] at hNx hTo i4 hyi g0 g1 g2 g3
        have e0 := (i6.cellAt (g := g) (cap := lc) (done.length * 4) (by omega)).trans g0
        have e1 := (i6.cellAt (g := g) (cap := lc) (done.length * 4 + 1) (by omega)).trans g1
        have e2 := (i6.cellAt (g := g) (cap := lc) (done.length * 4 + 2) (by omega)).trans g2
        have e3 := (i6.cellAt (g := g) (cap := lc) (done.length * 4 + 3) (by omega)).trans g3
        have HTo := Lib.hid hTo
        have HNx := Lib.hid hNx
        have HSz := Lib.hid (fun (W : World) => size_any yk yl yx yy W)
        rw [← hyi] at HSz
        have HI2 := Lib.hid (And.intro i4 (And.intro i5 (And.intro i6 (And.intro i7 i8))))
        have Hg4 := Lib.hid (And.intro g0 (And.intro g1 (And.intro g2 g3)))
        have hlt' : (done.length : Int) < (PL.length : Int) := by omega
        have hgB := hBc.out g rfl
        have Hln : Hid (PL.length = done.length + (rest.length + 1)) := hlen
        clear i1 i2 i3 i4 i5 i6 i7 i8 HI hok1 hok2 hNx hTo hrt hyi hz hu htv hY g0 g1 g2 g3 x1 x2 x3 x4 x5 x6 hlen
        go_upto_region 12 with (fail)
        obtain ⟨wb, hwb⟩ : ∃ wb, wr.alloc (.cells #[.int .i64 yk, .int .u8 (yy.toNat : Int), .int .i64 yl, .int .i64 yx] 24) = wb := ⟨_, rfl⟩
        obtain ⟨Yb, hYb⟩ : ∃ Yb, wr.heap.size = Yb := ⟨_, rfl⟩
        have hbb : Below wr.heap.size wr wb := by rw [← hwb]; exact (Below.refl _ _).alloc (Nat.le_refl _) _
        have hYB : Blk wb Yb 24 #[.int .i64 yk, .int .u8 (yy.toNat : Int), .int .i64 yl, .int .i64 yx] := by rw [← hwb]; exact Blk.new_at hYb.symm
        simp only [hwb, hYb]
        obtain ⟨v0, v1, v2, v3⟩ := hYB.four
        have Hbb := Lib.hid (And.intro hbb hYB)
        clear hwb hYb hbb hYB e0 e1 e2 e3
        go_wp2_with fail
        refine (HSz.out wb).mono ?_
        rintro e wc ⟨rfl, hbc⟩
        have hbw : Below wr.heap.size wr wc := bup Hbb.out.1 hbc
        obtain ⟨v0, v1, v2, v3⟩ := (Hbb.out.2.below hbc).four
        obtain ⟨⟨b0, b1, b2, b3, b4⟩, _⟩ := st_five (HI2.out.1.below hbw)
        have Hbw := Lib.hid hbw
        clear hbc Hbb HSz
        go_wp2_with fail
        refine (HTo.out wc Hbw.out).mono ?_
        rintro e wd ⟨rfl, hbd⟩
        have hbw : Below wr.heap.size wr wd := bup Hbw.out hbd
        have k6 := own_below HI2.out.2.2.1 hbw
        have e0 := (k6.cellAt (g := g) (cap := lc) (done.length * 4) (by have := Hln.out; omega)).trans Hg4.out.1
        have e1 := (k6.cellAt (g := g) (cap := lc) (done.length * 4 + 1) (by have := Hln.out; omega)).trans Hg4.out.2.1
        have e2 := (k6.cellAt (g := g) (cap := lc) (done.length * 4 + 2) (by have := Hln.out; omega)).trans Hg4.out.2.2.1
        have e3 := (k6.cellAt (g := g) (cap := lc) (done.length * 4 + 3) (by have := Hln.out; omega)).trans Hg4.out.2.2.2
        have f0 := k6.frozenAt (g := g) (cap := lc) (done.length * 4)
        have f1 := k6.frozenAt (g := g) (cap := lc) (done.length * 4 + 1)
        have f2 := k6.frozenAt (g := g) (cap := lc) (done.length * 4 + 2)
        have f3 := k6.frozenAt (g := g) (cap := lc) (done.length * 4 + 3)
        have Hbw2 := Lib.hid hbw
        clear hbd hbw v0 v1 v2 v3 b0 b1 b2 b3 b4 HTo Hbw k6
        obtain ⟨we, hwe⟩ : ∃ we, (((wd.setCell ⟨g, done.length * 4, none⟩ (.int .i64 vk)).setCell ⟨g, done.length * 4 + 1, none⟩ (.int .u8 (vy.toNat : Int))).setCell ⟨g, done.length * 4 + 2, none⟩ (.int .i64 vl)).setCell ⟨g, done.length * 4 + 3, none⟩ (.int .i64 vx) = we := ⟨_, rfl⟩
        have hFe : Fr (fun q => q = g) wd we := by
          rw [← hwe]
          exact ((((Fr.refl (fun q => q = g) wd).setCell (p := ⟨g, done.length * 4, none⟩) (.inl rfl) _).setCell (p := ⟨g, done.length * 4 + 1, none⟩) (.inl rfl) _).setCell (p := ⟨g, done.length * 4 + 2, none⟩) (.inl rfl) _).setCell (p := ⟨g, done.length * 4 + 3, none⟩) (.inl rfl) _
        have He : Hid (Blk we B 37 #[.int .i64 tn, .int .i64 ta, .int .i64 tb, .int .i64 tc, .int .i64 td] ∧ Blk we (B + 1) 37 #[.int .i64 0, .int .i64 0, .int .i64 0, .int .i64 0, .int .i64 0] ∧ we.ownsRow (B + 2) 24 4 (.slice (some ⟨g, 0, none⟩) PL.length lc) PL.length (syc ((done ++ [⟨vk, vy, vl, vx⟩]) ++ rest)) ∧ Below w.heap.size w we ∧ PRn X (.pointer none) we) := by
          obtain ⟨k4, k5, k6, k7, k8⟩ := HI2.out
          have hb := Hbw2.out
          obtain ⟨d1, d2⟩ := hBc2.out
          have x := HX.out
          have k8' := k8.below hb
          refine ⟨(k4.below hb).fr hFe (by omega), (k5.below hb).fr hFe (by omega), ?_, (bup k7 hb).trans (hFe.below (bup k7 hb).size (fun q e => by omega)), ⟨k8'.b.fr hFe (by rw [x.1]; omega), k8'.d.fr hFe (fun h0 ad had e => ?_), k8'.le⟩⟩
          · have := own_set (own_set (own_set (own_set (own_below k6 hb) (done.length * 4) (.int .i64 vk)) (done.length * 4 + 1) (.int .u8 (vy.toNat : Int))) (done.length * 4 + 2) (.int .i64 vl)) (done.length * 4 + 3) (.int .i64 vx)
            rw [hwe] at this
            rw [← syc_set_mid done rest ⟨yk, yy, yl, yx⟩ ⟨vk, vy, vl, vx⟩]
            exact this
          · rw [x.2.2.2.2.1] at had
            rw [x.2.2.2.2.2] at h0
            have := hadB.out h0 ad had
            omega
        have Hg5 := Lib.hid (syc_get (l := (done ++ [⟨vk, vy, vl, vx⟩]) ++ rest) (i := done.length) (y := ⟨vk, vy, vl, vx⟩) (by simp))
        go_upto_region 14 with (fail)
        clear hwe e0 e1 e2 e3 f0 f1 f2 f3 hFe Hbw2 HI2 Hg4
        obtain ⟨⟨b0, b1, b2, b3, b4⟩, _⟩ := st_five He.out.1
        have e0 := (He.out.2.2.1.cellAt (g := g) (cap := lc) (done.length * 4) (by have := Hln.out; omega)).trans Hg5.out.1
        have e1 := (He.out.2.2.1.cellAt (g := g) (cap := lc) (done.length * 4 + 1) (by have := Hln.out; omega)).trans Hg5.out.2.1
        have e2 := (He.out.2.2.1.cellAt (g := g) (cap := lc) (done.length * 4 + 2) (by have := Hln.out; omega)).trans Hg5.out.2.2.1
        have e3 := (He.out.2.2.1.cellAt (g := g) (cap := lc) (done.length * 4 + 3) (by have := Hln.out; omega)).trans Hg5.out.2.2.2
        have HLe : Hid (∀ W, Below we.heap.size we W → Laid W) := fun W hW => HL.out.below (bup He.out.2.2.2.1 hW)
        have HCe : Hid (∀ W, Below we.heap.size we W → W.cell? ⟨B, 0, none⟩ = some (.int .i64 tn) ∧ W.cell? ⟨B, 1, none⟩ = some (.int .i64 ta) ∧ W.cell? ⟨B, 2, none⟩ = some (.int .i64 tb) ∧ W.cell? ⟨B, 3, none⟩ = some (.int .i64 tc) ∧ W.cell? ⟨B, 4, none⟩ = some (.int .i64 td) ∧ W.cell? ⟨g, done.length * 4, none⟩ = some (.int .i64 vk) ∧ W.cell? ⟨g, done.length * 4 + 1, none⟩ = some (.int .u8 (vy.toNat : Int)) ∧ W.cell? ⟨g, done.length * 4 + 2, none⟩ = some (.int .i64 vl) ∧ W.cell? ⟨g, done.length * 4 + 3, none⟩ = some (.int .i64 vx)) := fun W hW => by
          obtain ⟨⟨b0, b1, b2, b3, b4⟩, _⟩ := st_five (He.out.1.below hW)
          have k6 := own_below He.out.2.2.1 hW
          exact ⟨b0, b1, b2, b3, b4, (k6.cellAt (g := g) (cap := lc) (done.length * 4) (by have := Hln.out; omega)).trans Hg5.out.1, (k6.cellAt (g := g) (cap := lc) (done.length * 4 + 1) (by have := Hln.out; omega)).trans Hg5.out.2.1, (k6.cellAt (g := g) (cap := lc) (done.length * 4 + 2) (by have := Hln.out; omega)).trans Hg5.out.2.2.1, (k6.cellAt (g := g) (cap := lc) (done.length * 4 + 3) (by have := Hln.out; omega)).trans Hg5.out.2.2.2⟩
        go_cut [21, 22] from 64 to 72 (fun s21 s22 wy => ∃ T, s21 = .pointer (some ⟨T, 0, none⟩) ∧ s22 = .int .i64 0 ∧ Hid (we.heap.size ≤ T ∧ Blk wy T 37 #[.int .i64 un, .int .i64 ua, .int .i64 ub, .int .i64 uc, .int .i64 ud] ∧ Below we.heap.size we wy))
        case first =>
          have HB5 : Hid (∀ (wn : World) (u0 u1 u2 u3 u4 : Value), Below we.heap.size we wn → Below we.heap.size we (((((wn.setCell ⟨we.heap.size, 0, none⟩ u0).setCell ⟨we.heap.size, 1, none⟩ u1).setCell ⟨we.heap.size, 2, none⟩ u2).setCell ⟨we.heap.size, 3, none⟩ u3).setCell ⟨we.heap.size, 4, none⟩ u4)) := fun wn u0 u1 u2 u3 u4 hb =>
            ((((hb.setCell (p := ⟨we.heap.size, 0, none⟩) (Nat.le_refl _) _).setCell (p := ⟨we.heap.size, 1, none⟩) (Nat.le_refl _) _).setCell (p := ⟨we.heap.size, 2, none⟩) (Nat.le_refl _) _).setCell (p := ⟨we.heap.size, 3, none⟩) (Nat.le_refl _) _).setCell (p := ⟨we.heap.size, 4, none⟩) (Nat.le_refl _) _
          go_region_held3 (fun w' => w'.cell? ⟨B, 0, none⟩ = some (.int .i64 tn) ∧ w'.cell? ⟨B, 1, none⟩ = some (.int .i64 ta) ∧ w'.cell? ⟨B, 2, none⟩ = some (.int .i64 tb) ∧ w'.cell? ⟨B, 3, none⟩ = some (.int .i64 tc) ∧ w'.cell? ⟨B, 4, none⟩ = some (.int .i64 td) ∧ w'.cell? ⟨g, done.length * 4, none⟩ = some (.int .i64 vk) ∧ w'.cell? ⟨g, done.length * 4 + 1, none⟩ = some (.int .u8 (vy.toNat : Int)) ∧ w'.cell? ⟨g, done.length * 4 + 2, none⟩ = some (.int .i64 vl) ∧ w'.cell? ⟨g, done.length * 4 + 3, none⟩ = some (.int .i64 vx))
            (first | (with_reducible exact HCe.out _ (Below.refl _ _).drew) | (with_reducible exact HCe.out _ ((Below.refl _ we).alloc (Nat.le_refl _) _).drew) | (with_reducible exact HCe.out _ hb34) | (with_reducible exact HCe.out _ (bmk hb34 _)) | (with_reducible exact HCe.out _ (HB5.out _ _ _ _ _ _ hb34)))
            (first | (go_at_call 33; refine (HNx.out _ (HLe.out _ (by first | (with_reducible exact (Below.refl _ _).drew) | (with_reducible exact ((Below.refl _ we).alloc (Nat.le_refl _) _).drew)))).mono ?_; rintro en wn ⟨rfl, hbn⟩; have hb34 : Below we.heap.size we wn := (by first | (with_reducible exact bd1 hbn) | (with_reducible exact bd2 hbn)); (try (have hz : Blk wn we.heap.size 37 #[.int .i64 0, .int .i64 0, .int .i64 0, .int .i64 0, .int .i64 0] := (by with_reducible exact (Blk.new we 37 #[.int .i64 0, .int .i64 0, .int .i64 0, .int .i64 0, .int .i64 0]).drew.below hbn); have z0 := hz.cell 0; have z1 := hz.cell 1; have z2 := hz.cell 2; have z3 := hz.cell 3; have z4 := hz.cell 4; have q0 := hz.frozen 0; have q1 := hz.frozen 1; have q2 := hz.frozen 2; have q3 := hz.frozen 3; have q4 := hz.frozen 4; have ql := hz.lt))))
          all_goals go_wp2_with fail
          all_goals go_meet
          · exact ⟨_, rfl, rfl, hb34.size, Blk.new _ _ _, bmk hb34 _⟩
          · exact ⟨_, rfl, rfl, Nat.le_refl _, ((((hz.set_ 0 _).set_ 1 _).set_ 2 _).set_ 3 _).set_ 4 _, HB5.out _ _ _ _ _ _ hb34⟩
        case rest =>
          obtain ⟨T, rfl, rfl, hT⟩ := hcut
          obtain ⟨wc_, rfl⟩ : ∃ w0, w0 = wc := ⟨_, rfl⟩
          have hT' := hT.out
          obtain ⟨hT1, hT2, hT3⟩ := hT'
          obtain ⟨⟨t0, t1, t2, t3, t4⟩, _⟩ := st_five hT2
          have hBc := He.out.1.below hT3
          obtain ⟨⟨c0, c1, c2, c3, c4⟩, ⟨h0, h1', h2', h3, h4⟩⟩ := st_five hBc
          have hBl := hBc.lt
          have Hb3 := Lib.hid hT3
          have HBc := Lib.hid hBc
          have hFs : Fr (fun q => q = B) wc_ (((((wc_.setCell ⟨B, 0, none⟩ (.int .i64 un)).setCell ⟨B, 1, none⟩ (.int .i64 ua)).setCell ⟨B, 2, none⟩ (.int .i64 ub)).setCell ⟨B, 3, none⟩ (.int .i64 uc)).setCell ⟨B, 4, none⟩ (.int .i64 ud)) :=
            (((((Fr.refl (fun q => q = B) wc_).setCell (p := ⟨B, 0, none⟩) (.inl rfl) _).setCell (p := ⟨B, 1, none⟩) (.inl rfl) _).setCell (p := ⟨B, 2, none⟩) (.inl rfl) _).setCell (p := ⟨B, 3, none⟩) (.inl rfl) _).setCell (p := ⟨B, 4, none⟩) (.inl rfl) _
          clear hT1 hT2 hT3 hT hBc e0 e1 e2 e3 b0 b1 b2 b3 b4 HCe HLe HNx
          go_wp2_with fail
          go_roundw
          case rel =>
            obtain ⟨k4, k5, k6, k7, k8⟩ := He.out
            obtain ⟨d1, d2⟩ := hBc2.out
            have hb := Hb3.out
            have x := HX.out
            have k8' := k8.below hb
            have k6' := own_below k6 hb
            refine ⟨p + z, ⟨un, ua, ub, uc, ud⟩, done ++ [⟨vk, vy, vl, vx⟩], rest, by go_num, by rw [List.length_append]; go_num, by rw [List.length_append]; have := Hln.out; simp only [List.length_cons, List.length_nil]; omega, Hrt.out.1, Hrt.out.2, HR2.out, set5_st HBc.out un ua ub uc ud, (k5.below hb).fr hFs (by omega), own_fr k6' hFs (fun q hq e => by have := (own_lt k6' hq).1; omega), (bup k7 hb).trans (hFs.below (bup k7 hb).size (fun q e => by omega)), ⟨k8'.b.fr hFs (by rw [x.1]; omega), k8'.d.fr hFs (fun h0 ad had e => ?_), k8'.le⟩⟩
            rw [x.2.2.2.2.1] at had
            rw [x.2.2.2.2.2] at h0
            have := hadB.out h0 ad had
            omega
          case measure => simp [intOf]; omega
    · have hge : ¬ (done.length : Int) < (PL.length : Int) := by omega
      obtain ⟨i1, i2, i3, i4, i5, i6, i7, i8⟩ := HI.out
      have hr0 : rest = [] := List.eq_nil_of_length_eq_zero (by omega)
      subst hr0
      obtain ⟨tn, ta, tb, tc, td⟩ := t
      simp only [cheapS, List.append_nil] at i3 i6
      unfold stC at i4
      simp only [] at i4
      obtain ⟨⟨b0, b1, b2, b3, b4⟩, _⟩ := st_five i4
      obtain ⟨⟨c0, c1, c2, c3, c4⟩, ⟨f0, f1, f2, f3, f4⟩⟩ := st_five i5
      have hcl := i5.lt
      have HI2 := Lib.hid (And.intro i3 (And.intro i5 (And.intro i6 i7)))
      clear i1 i2 i3 i4 i5 i6 i7 i8 HI hlen
      go_wp2_with fail
      go_region_with (fail)
      go_wp2_with fail
      obtain ⟨j2, j5, j7, j8⟩ := HI2.out
      have hFz : Fr (fun g => g = B + 1) wr ((((((wr.setCell ⟨B + 1, 0, none⟩ (.int .i64 tn)).setCell ⟨B + 1, 1, none⟩ (.int .i64 ta)).setCell ⟨B + 1, 2, none⟩ (.int .i64 tb)).setCell ⟨B + 1, 3, none⟩ (.int .i64 tc)).setCell ⟨B + 1, 4, none⟩ (.int .i64 td)).drew) :=
        ((((((Fr.refl (fun g => g = B + 1) wr).setCell (p := ⟨B + 1, 0, none⟩) (.inl rfl) _).setCell (p := ⟨B + 1, 1, none⟩) (.inl rfl) _).setCell (p := ⟨B + 1, 2, none⟩) (.inl rfl) _).setCell (p := ⟨B + 1, 3, none⟩) (.inl rfl) _).setCell (p := ⟨B + 1, 4, none⟩) (.inl rfl) _).drew
      obtain ⟨d1, d2⟩ := hBc2.out
      refine bodyPost_ret (v := .tuple #[.slice L PL.length lc, .agg #[.int .i64 tn, .int .i64 ta, .int .i64 tb, .int .i64 tc, .int .i64 td], .int .i64 0]) (by simp [results, Tryd.results17, go_sem, Act.put, *]) rfl ?_
      rw [j2]
      refine ⟨L, lc, rfl, own_mono (own_fr j7 hFz (fun g hg e => by have := (own_lt j7 hg).1; omega)) (by omega), j8.trans (hFz.below j8.size (fun g e => by omega))⟩
end Go.Proofs.YthlflcnpmabmbaaDoor
