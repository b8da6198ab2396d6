
/-
  Walk of the law's plays: Put. Conditions: the parts lie as SP says; the step's bytes lie below the call's own memory.
-/
import Derived.Test.YtcfaocbdhfmhbaaPlayB
namespace Go.Proofs.Ytcfaocbdhfmhbaa
open Go.RowKit

theorem bys_set (l : List UInt8) (i : Nat) (y : UInt8) : (bys l).set i (.int .u8 (y.toNat : Int)) = bys (l.set i y) := by unfold bys; rw [List.map_set]
theorem byte_101 (z : UInt8) : ((z.toNat : Int) + 101) % 256 = ((z + 101).toNat : Int) := by
  rw [UInt8.toNat_add]
  have : (101 : UInt8).toNat = 101 := rfl
  omega
set_option maxHeartbeats 4000000 in
set_option maxRecDepth 100000 in
theorem plays_put (B i N b c size : Nat) (r1 r2 : Option Nat) (all : List UInt8) (s : GS) (k wn dd nn : Int) (A : Option Addr) (n cc : Nat) (lb : List UInt8) (w : World) (h : SP (fam B s) B w) (hJ : GJ s N)
    (h1 : s.ws[i]? = some ⟨b, r1, size, all⟩) (h2 : s.rs[i]? = some ⟨c, r2, size, all⟩) (h3 : s.ps[i]? = some (b, c)) (hlen : all.length + n + 10 < 140737488355000) (hk : k = 1) (hall : all.length ≤ N)
    (hI : In w A n lb) (hIB : 0 < n → ∀ ad, A = some ad → ad.block < B) (hncc : n ≤ cc) :
    Calls Try.prog 20 #[.agg #[.pointer (some ⟨b, 0, none⟩), .pointer (some ⟨c, 0, none⟩)], .agg #[.int .i64 k, .int .i64 wn, .int .i64 dd, .int .i64 nn, .slice A n cc], .slice s.H s.m s.hc] w (PlPost B s (N + n) w) := by
  subst hk
  obtain ⟨i0, hi0, hz0, hz1, hz2⟩ := info_parts infou8
  have HW : Hid (Win w B b r1 size all) := h.win h1
  have HV : Hid (WinR w B c r2 size all) := h.ref h2
  have HS := Lib.hid h
  have HJ := Lib.hid hJ
  have H123 := Lib.hid (And.intro h1 (And.intro h2 h3))
  have hlbn := hI.len
  have Hlb := Lib.hid hlbn
  have HIn : Hid (∀ W, Below B w W → In W A n lb) := fun W hW => ⟨hI.1.keep0 (fun h0 ad had => hW.block _ (hIB h0 ad had)), fun h0 ad had => Nat.lt_of_lt_of_le (hI.2.1 h0 ad had) hW.size, hI.2.2⟩
  obtain ⟨w0, hw0⟩ : ∃ w0, ((w.alloc (.cells #[.pointer (some ⟨b, 0, none⟩), .pointer (some ⟨c, 0, none⟩)] 48)).alloc (.cells #[.int .i64 1, .int .i64 wn, .int .i64 dd, .int .i64 nn, .slice A n cc] 39)) = w0 := ⟨_, rfl⟩
  have Hb0 : Hid (Below w.heap.size w w0) := by rw [← hw0]; exact bmk_ (bmk_ (Below.refl _ _) _) _
  have HX : Hid (Bxs w0 w.heap.size b c 1 wn dd nn A n cc) := by rw [← hw0]; exact bxs_new w b c 1 wn dd nn A n cc
  have HS0 : Hid (SP (fam B s) B w0) := HS.out.keep Hb0.out
  obtain ⟨Z, hZ⟩ : ∃ Z, w.heap.size = Z := ⟨_, rfl⟩
  obtain ⟨x0, x1, y0, y2, y3, y4⟩ := HX.out.cells
  rw [hZ] at x0 x1 y0 y2 y3 y4
  have HBx : Hid (∀ w1 w2 r, Below w0.heap.size w0 w1 → Fr (fun k => k = b ∨ some k = r) w1 w2 → (∀ g, r = some g → g < Z) → Bxs w2 Z b c 1 wn dd nn A n cc) := fun w1 w2 r hB hF hr => hZ ▸ (HX.out.below hB).fr hF (fun g hg e => by
    rcases e with e | e
    · have := HW.out.lt.1; omega
    · have := hr g e.symm; omega)
  have HBx2 : Hid (∀ w1 w2 r, Bxs w1 Z b c 1 wn dd nn A n cc → Fr (fun k => k = c ∨ some k = r) w1 w2 → (∀ g, r = some g → g < Z) → Bxs w2 Z b c 1 wn dd nn A n cc) := fun w1 w2 r hX hF hr => hX.fr hF (fun g hg e => by
    rcases e with e | e
    · have := HV.out.lt.1; omega
    · have := hr g e.symm; omega)
  have HZr : Hid (∀ g, r1 = some g → g < Z) := fun g hg => hZ ▸ (HW.out.lt.2 g hg).2
  have HZr2 : Hid (∀ g, r2 = some g → g < Z) := fun g hg => hZ ▸ (HV.out.lt.2 g hg).2
  have HI0 : Hid (In w0 A n lb) := HIn.out w0 (Hb0.out.mono HS.out.le)
  have hn47 := hI.2.2
  have hzl0 : Z < w0.heap.size := hZ ▸ HX.out.1.lt
  have hzl1 : Z + 1 < w0.heap.size := hZ ▸ HX.out.2.lt
  clear h hJ h1 h2 h3 hI hIB hlbn
  obtain ⟨H, hH⟩ : ∃ H, s.H = H := ⟨_, rfl⟩
  obtain ⟨m, hm⟩ : ∃ m, s.m = m := ⟨_, rfl⟩
  obtain ⟨hc, hhc⟩ : ∃ hc, s.hc = hc := ⟨_, rfl⟩
  have HH := Lib.hid (And.intro hH (And.intro hm hhc))
  rw [hH, hm, hhc]
  clear hH hm hhc
  go_enter Try.func20, Try.ntmps20
  go_upto_region 5 with (first | (at_builtin; refine wpList_fresh rfl (.tmp 23) (.tmp 25) rfl w0.heap.size rfl rfl A n cc lb rfl HI0.out ?_; intro a1 c1 w1 hF; have H1 := Lib.hid hF; clear hF; obtain ⟨x0, x1, y0, y2, y3, y4⟩ := (HX.out.below H1.out.2).cells; rw [hZ] at x0 x1 y0 y2 y3 y4; have hzl2 : Z + 1 < w1.heap.size := (by have := H1.out.2.size; omega)) | (at_builtin; refine wpList_append_rd (w := w1.alloc (.cells #[.int .u8 165] 5)) rfl (.tmp 27) (.tmp 28) 22 rfl w0.heap.size 5 i0 _ 1 1 Try.underlying22 hi0 hz0 hz1 hz2 rfl (by decide) (.slice a1 n c1) n (bys lb) rfl (H1.out.1.alloc _) (some ⟨w1.heap.size, 0, none⟩) 1 1 (bys [165]) rfl (Rd.of_blk' (Blk.new _ _ _) rfl rfl) (bys_one _) (by simp only [maxLen]; omega) (by omega) (by have := H1.out.2.size; simp; omega) ?_; intro O oc w2 hown2 hg2 hat2; have hmo : n ≤ oc ∧ n + 1 ≤ oc := (by have := own_le hown2; omega)))
  have Hb2 : Hid (Below w0.heap.size w0 w2) := (H1.out.2.alloc H1.out.2.size _).grown hg2 (by have := H1.out.2.size; simp; omega) (fun g hg => (own_lt H1.out.1 hg).1)
  rw [← bys_append] at hown2
  obtain ⟨X0, hX0⟩ : ∃ X0, lb ++ [165] = X0 := ⟨_, rfl⟩
  have hXl : X0.length = n + 1 := by rw [← hX0, List.length_append, Hlb.out]; rfl
  rw [hX0] at hown2
  obtain ⟨og, cap, hv, _, _⟩ := hown2.form (by omega)
  injection hv with hA _ hcap
  subst hA
  subst hcap
  have HS2 : Hid (SP (fam B { s with t := some (some ⟨og, 0, none⟩, oc, X0) }) B w2) := HS0.out.tmpNew HJ.out.t Hb2.out (by rw [hXl]; exact hown2)
  have HB2 : Hid (Below B w w2) := (Hb0.out.mono HS.out.le).trans (Hb2.out.mono HS0.out.le)
  have HX2 : Hid (X0 = lb ++ [165] ∧ X0.length = n + 1) := ⟨hX0.symm, hXl⟩
  have Hq : Hid (∀ W : World, Below w2.heap.size w2 W → W.cell? ⟨Z, 0, none⟩ = some (.pointer (some ⟨b, 0, none⟩)) ∧ W.cell? ⟨Z, 1, none⟩ = some (.pointer (some ⟨c, 0, none⟩)) ∧ W.cell? ⟨Z + 1, 0, none⟩ = some (.int .i64 1) ∧ W.cell? ⟨Z + 1, 2, none⟩ = some (.int .i64 dd) ∧ W.cell? ⟨Z + 1, 3, none⟩ = some (.int .i64 nn) ∧ W.cell? ⟨Z + 1, 4, none⟩ = some (.slice A n cc)) := fun W hW => hZ ▸ ((HX.out.below Hb2.out).below hW).cells
  have HPut : Hid (∀ W, Below w2.heap.size w2 W → Calls Try.prog 13 #[.pointer (some ⟨b, 0, none⟩), .slice (some ⟨og, 0, none⟩) n oc] W (PutPost B b size r1 (all ++ lb) W)) := fun W hW => by
    have hWn := (HS2.out.keep hW).win (g := ⟨b, r1, size, all⟩) H123.out.1
    have hOw := own_below hown2 hW
    have hsrc := (Src.of_own hOw (b := b) (r := r1) hWn.bt.1 (fun g hg e => by
      have h1 := (own_lt hown2 hg).1
      have h2 := (HW.out.lt.2 g e).2
      have := Hb0.out.size
      omega)).take (show n ≤ n + 1 by omega)
    rw [HX2.out.1, List.take_append_of_le_length (by rw [Hlb.out]; exact Nat.le_refl _), List.take_of_length_le (by rw [Hlb.out]; exact Nat.le_refl _)] at hsrc
    exact Put_any B b size r1 all _ n oc lb W hWn hsrc (by omega)
  obtain ⟨x0, x1, y0, y2, y3, y4⟩ := Hq.out w2 (Below.refl _ _)
  have hnl : (n : Int) ≤ (oc : Int) := by omega
  clear hown2 hg2 hat2 hX0 hXl HS0 HI0 H1
  go_region_held3 (fun w' => w'.cell? ⟨Z, 0, none⟩ = some (.pointer (some ⟨b, 0, none⟩)) ∧ w'.cell? ⟨Z, 1, none⟩ = some (.pointer (some ⟨c, 0, none⟩)) ∧ w'.cell? ⟨Z + 1, 0, none⟩ = some (.int .i64 1) ∧ w'.cell? ⟨Z + 1, 2, none⟩ = some (.int .i64 dd) ∧ w'.cell? ⟨Z + 1, 3, none⟩ = some (.int .i64 nn) ∧ w'.cell? ⟨Z + 1, 4, none⟩ = some (.slice A n cc))
    (first | (with_reducible exact ⟨x0, x1, y0, y2, y3, y4⟩) | go_keep | (with_reducible exact ⟨z0, z1, z2, z3, z4, z5⟩))
    (first | (go_at_call 13; refine (HPut.out _ (by first | (with_reducible exact (Below.refl _ _)) | (with_reducible exact (Below.refl _ _).drew))).mono ?_; rintro en w3 ⟨rfl, r1', hW3, hF3, hA3⟩; have HF3 := Lib.hid (show Fr (fun k => k = b ∨ some k = r1) w2 w3 from (by first | (with_reducible exact hF3) | (with_reducible exact ((Fr.refl _ _).drew).trans hF3))); obtain ⟨z0, z1, z2, z3, z4, z5⟩ := (HBx.out w2 w3 r1 Hb2.out HF3.out HZr.out).cells))
  have HS3 := Lib.hid (HS2.out.winUpd (g := ⟨b, r1, size, all⟩) (g' := ⟨b, r1', size, all ++ lb⟩) H123.out.1 hW3 rfl HF3.out hA3)
  have HB3 : Hid (Below B w w3) := HB2.out.trans (HS2.out.belowW (g := ⟨b, r1, size, all⟩) H123.out.1 HF3.out)
  have HX3 := Lib.hid (HBx.out w2 w3 r1 Hb2.out HF3.out HZr.out)
  have hzl3 : Z + 1 < w3.heap.size := HX3.out.2.lt
  clear hW3 hF3 hA3 HF3 HS2 HB2 x0 x1 y0 y2 y3 y4 Hq HPut
  go_wp2_with fail
  refine (RPut_any B c size r2 all A n cc lb w3 (HS3.out.ref (g := ⟨c, r2, size, all⟩) H123.out.2.1) (HIn.out w3 HB3.out).1 (by omega)).mono ?_
  rintro e w4 ⟨rfl, r2', hV4, hF4, hA4⟩
  have HS4 := Lib.hid (HS3.out.refUpd (g := ⟨c, r2, size, all⟩) (g' := ⟨c, r2', size, all ++ lb⟩) H123.out.2.1 hV4 rfl hF4 hA4)
  have HB4 : Hid (Below B w w4) := HB3.out.trans (HS3.out.belowR (g := ⟨c, r2, size, all⟩) H123.out.2.1 hF4)
  have HX4 := Lib.hid (HBx2.out w3 w4 r2 HX3.out hF4 HZr2.out)
  have HJ4 : Hid (GJ { s with ws := s.ws.set i ⟨b, r1', size, all ++ lb⟩, rs := s.rs.set i ⟨c, r2', size, all ++ lb⟩ } (N + n)) := HJ.out.set H123.out.1 H123.out.2.1 H123.out.2.2 (by omega) (by rw [List.length_append, Hlb.out]; omega)
  clear hV4 hF4 hA4 HS3 HB3 HX3 z0 z1 z2 z3 z4 z5
  obtain ⟨x0, x1, y0, y2, y3, y4⟩ := HX4.out.cells
  have hzl4 : Z + 1 < w4.heap.size := HX4.out.2.lt
  have hrow := HS4.out.tmp rfl
  have hcv : ∀ a, (convert 22 9 (.slice (some ⟨og, 0, none⟩) n oc)).run Try.prog (w4.drewN a) = .ok (.string (strOf lb)) (w4.drewN a) := fun a => conv_rd (by
    have h1 := ((Rd.of_own hrow).take (show n ≤ X0.length by have := HX2.out.2; omega)).keep (w' := w4.drewN a) (fun _ _ => rfl)
    rw [Nat.mul_one, bys_take, HX2.out.1, List.take_append_of_le_length (by rw [Hlb.out]; exact Nat.le_refl _), List.take_of_length_le (by rw [Hlb.out]; exact Nat.le_refl _)] at h1
    exact h1)
  have hcv2 : ∀ a, (convert 22 9 (.slice A n cc)).run Try.prog (w4.drewN a) = .ok (.string (strOf lb)) (w4.drewN a) := fun a => conv_rd ((HIn.out w4 HB4.out).1.keep (fun _ _ => rfl))
  have o0 := hrow.cellAt n (by have := HX2.out.2; omega)
  have o165 : (bys X0)[n]? = some (.int .u8 165) := by
    rw [HX2.out.1, bys_append, List.getElem?_append_right (by rw [bys_length, Hlb.out]; exact Nat.le_refl _), bys_length, Hlb.out, Nat.sub_self]; rfl
  rw [o165] at o0
  have hnl' : (n : Int) < (n : Int) + 1 := by omega
  clear hrow o165
  go_wp2_with fail
  go_quiet (fail)
  clear hcv hcv2 o0 x0 x1 y0 y2 y3 y4
  have HLp : Hid (SP (fam B { s with ws := s.ws.set i ⟨b, r1', size, all ++ lb⟩, rs := s.rs.set i ⟨c, r2', size, all ++ lb⟩, t := some (some ⟨og, 0, none⟩, oc, X0) }) B (w4.drewN nq) ∧ Below B w (w4.drewN nq)) := ⟨HS4.out.keep (below_drewN (Below.refl _ _) _), below_drewN HB4.out _⟩
  have hXl := HX2.out.2
  have HXl := Lib.hid hXl
  clear hXl HS4 HB4 HX4
  go_wp2_with fail
  go_loopw [64] (fun s64 wr => ∃ (j : Nat) (X : List UInt8), s64 = .int .i64 (j : Int) ∧ j ≤ n + 1 ∧ Hid (X.length = n + 1) ∧ Hid (SP (fam B { s with ws := s.ws.set i ⟨b, r1', size, all ++ lb⟩, rs := s.rs.set i ⟨c, r2', size, all ++ lb⟩, t := some (some ⟨og, 0, none⟩, oc, X) }) B wr ∧ Below B w wr)) (fun s64 _ => n + 1 - (intOf s64).toNat)
  case atStart => exact ⟨0, X0, rfl, Nat.zero_le _, HXl, HLp⟩
  case round =>
    clear HLp HXl
    obtain ⟨j, X, rfl, hj, HXl, HLp⟩ := hrel
    by_cases hlt : j < n + 1
    · have hlt' : (j : Int) < (n : Int) + 1 := by omega
      have hrow := HLp.out.1.tmp rfl
      obtain ⟨x, hx⟩ : ∃ x, X[j]? = some x := ⟨_, List.getElem?_eq_getElem (by have := HXl.out; omega)⟩
      have o0 := hrow.cellAt j (by have := HXl.out; omega)
      rw [bys_get hx] at o0
      have f0 := hrow.frozenAt j
      have hby := byte_101 x
      obtain ⟨y, hy⟩ : ∃ y, x + 101 = y := ⟨_, rfl⟩
      rw [hy] at hby
      clear hy
      have hset := own_set hrow j (.int .u8 (y.toNat : Int))
      rw [bys_set] at hset
      have Hset := Lib.hid hset
      have Hfr : Hid (Fr (fun k => some k = (Value.slice (some ⟨og, 0, none⟩) X.length oc).ownBlock) wr (wr.setCell ⟨og, j, none⟩ (.int .u8 (y.toNat : Int)))) := (Fr.refl _ _).setCell (p := ⟨og, j, none⟩) (.inl (by
        have : 0 < X.length := by have := HXl.out; omega
        have hoc : 0 < oc := by omega
        simp [Value.ownBlock])) _
      clear hrow hx hset
      go_wp2_with fail
      go_roundw
      case rel => exact ⟨j + 1, X.set j y, by go_num, by omega, by show (X.set j y).length = _; rw [List.length_set]; exact HXl.out, HLp.out.1.tmpFr rfl (by rw [List.length_set]) Hfr.out Hset.out, HLp.out.2.trans (HLp.out.1.belowT rfl Hfr.out)⟩
      case measure => simp [intOf]; omega
    · have hlt' : ¬ (j : Int) < (n : Int) + 1 := by omega
      go_wp2_with fail
      go_ret2
      have e1 : (Ending.returned (.tuple #[.slice H m hc, .bool true])) = .returned (.tuple #[.slice s.H s.m s.hc, .bool true]) := by rw [HH.out.1, HH.out.2.1, HH.out.2.2]
      exact ⟨{ s with ws := s.ws.set i ⟨b, r1', size, all ++ lb⟩, rs := s.rs.set i ⟨c, r2', size, all ++ lb⟩, t := none }, e1, HLp.out.1.tmpDrop, HLp.out.2, by have := HJ4.out; exact ⟨this.lw, this.lr, this.lp, this.pr, this.ee, this.le, this.ok, rfl⟩, rfl, rfl, rfl, Nat.le_succ _⟩
end Go.Proofs.Ytcfaocbdhfmhbaa
