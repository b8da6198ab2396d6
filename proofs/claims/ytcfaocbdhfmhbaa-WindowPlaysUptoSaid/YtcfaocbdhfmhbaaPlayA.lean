
/-
  Walk of the law's plays, the calls that answer a number or nothing: Last, the three questions, Clear, and calls of no kind. Conditions: the parts lie as SP says.
-/
import Derived.Test.YtcfaocbdhfmhbaaTold
namespace Go.Proofs.Ytcfaocbdhfmhbaa
open Go.RowKit

def PlPost (B : Nat) (s : GS) (N : Nat) (w : World) (e : Ending) (w' : World) : Prop :=
  ∃ s' : GS, e = .returned (.tuple #[.slice s'.H s'.m s'.hc, .bool true]) ∧ SP (fam B s') B w' ∧ Below B w w' ∧ GJ s' N ∧ s'.k = s.k ∧ s'.L = s.L ∧ s'.lc = s.lc ∧ s'.m ≤ s.m + 1
theorem SP.fr_out {B : Nat} {w w' : World} {s : GS} {F : Nat → Prop} {x : Ix} (h : SP (fam B s) B w) (hF : ∀ g, F g → (fam B s x).S g) {q : Nat} (hq : w.heap.size ≤ q) : ¬ F q := fun e => by
  have := (h.inb x q (hF q e)).2; omega
/-- the call's own boxes: the pair and the step -/
def Bxs (W : World) (Z b c : Nat) (k wn d nn : Int) (A : Option Addr) (n cc : Nat) : Prop :=
  Blk W Z 48 #[.pointer (some ⟨b, 0, none⟩), .pointer (some ⟨c, 0, none⟩)] ∧ Blk W (Z + 1) 39 #[.int .i64 k, .int .i64 wn, .int .i64 d, .int .i64 nn, .slice A n cc]
theorem Bxs.cells {W : World} {Z b c : Nat} {k wn d nn : Int} {A : Option Addr} {n cc : Nat} (h : Bxs W Z b c k wn d nn A n cc) :
    W.cell? ⟨Z, 0, none⟩ = some (.pointer (some ⟨b, 0, none⟩)) ∧ W.cell? ⟨Z, 1, none⟩ = some (.pointer (some ⟨c, 0, none⟩)) ∧ W.cell? ⟨Z + 1, 0, none⟩ = some (.int .i64 k) ∧ W.cell? ⟨Z + 1, 2, none⟩ = some (.int .i64 d) ∧ W.cell? ⟨Z + 1, 3, none⟩ = some (.int .i64 nn) ∧ W.cell? ⟨Z + 1, 4, none⟩ = some (.slice A n cc) :=
  ⟨h.1.cell 0, h.1.cell 1, h.2.cell 0, h.2.cell 2, h.2.cell 3, h.2.cell 4⟩
theorem Bxs.fr {F : Nat → Prop} {W W' : World} {Z b c : Nat} {k wn d nn : Int} {A : Option Addr} {n cc : Nat} (h : Bxs W Z b c k wn d nn A n cc) (hF : Fr F W W') (h1 : ∀ g, Z ≤ g → ¬ F g) : Bxs W' Z b c k wn d nn A n cc :=
  ⟨h.1.fr hF (h1 _ (Nat.le_refl _)), h.2.fr hF (h1 _ (by omega))⟩
theorem Bxs.below {W W' : World} {Z b c : Nat} {k wn d nn : Int} {A : Option Addr} {n cc : Nat} (h : Bxs W Z b c k wn d nn A n cc) (hb : Below W.heap.size W W') : Bxs W' Z b c k wn d nn A n cc :=
  ⟨h.1.below hb, h.2.below hb⟩
theorem bxs_new (w : World) (b c : Nat) (k wn d nn : Int) (A : Option Addr) (n cc : Nat) :
    Bxs ((w.alloc (.cells #[.pointer (some ⟨b, 0, none⟩), .pointer (some ⟨c, 0, none⟩)] 48)).alloc (.cells #[.int .i64 k, .int .i64 wn, .int .i64 d, .int .i64 nn, .slice A n cc] 39)) w.heap.size b c k wn d nn A n cc :=
  ⟨(Blk.new _ _ _).alloc _, Blk.new_at (by simp)⟩
set_option maxHeartbeats 4000000 in
set_option maxRecDepth 100000 in
theorem plays_last (B i N b c size : Nat) (r1 r2 : Option Nat) (all : List UInt8) (s : GS) (k wn dd nn : Int) (A : Option Addr) (n cc : Nat) (w : World) (h : SP (fam B s) B w) (hJ : GJ s N)
    (h1 : s.ws[i]? = some ⟨b, r1, size, all⟩) (h2 : s.rs[i]? = some ⟨c, r2, size, all⟩) (_h3 : s.ps[i]? = some (b, c)) (hlen : all.length < 140737488355000) (hk : k = 3) :
    Calls Try.prog 20 #[.agg #[.pointer (some ⟨b, 0, none⟩), .pointer (some ⟨c, 0, none⟩)], .agg #[.int .i64 k, .int .i64 wn, .int .i64 dd, .int .i64 nn, .slice A n cc], .slice s.H s.m s.hc] w (PlPost B s N w) := by
  subst hk
  obtain ⟨H, hH⟩ : ∃ H, s.H = H := ⟨_, rfl⟩
  obtain ⟨m, hm⟩ : ∃ m, s.m = m := ⟨_, rfl⟩
  obtain ⟨hc, hhc⟩ : ∃ hc, s.hc = hc := ⟨_, rfl⟩
  have HR : Hid (∀ w', Below w.heap.size w w' → PlPost B s N w (.returned (.tuple #[.slice H m hc, .bool true])) w') := fun w' hb => ⟨s, by rw [hH, hm, hhc], h.keep hb, hb.mono h.le, hJ, rfl, rfl, rfl, Nat.le_succ _⟩
  rw [hH, hm, hhc]
  have HW : Hid (Win w B b r1 size all) := h.win h1
  have HV : Hid (WinR w B c r2 size all) := h.ref h2
  obtain ⟨w0, hw0⟩ : ∃ w0, ((w.alloc (.cells #[.pointer (some ⟨b, 0, none⟩), .pointer (some ⟨c, 0, none⟩)] 48)).alloc (.cells #[.int .i64 3, .int .i64 wn, .int .i64 dd, .int .i64 nn, .slice A n cc] 39)) = w0 := ⟨_, rfl⟩
  have Hb0 : Hid (Below w.heap.size w w0) := by rw [← hw0]; exact bmk_ (bmk_ (Below.refl _ _) _) _
  have HX : Hid (Bxs w0 w.heap.size b c 3 wn dd nn A n cc) := by rw [← hw0]; exact bxs_new w b c 3 wn dd nn A n cc
  obtain ⟨Z, hZ⟩ : ∃ Z, w.heap.size = Z := ⟨_, rfl⟩
  obtain ⟨x0, x1, y0, y2, y3, y4⟩ := HX.out.cells
  rw [hZ] at x0 x1 y0 y2 y3 y4
  have HXn : Hid (∀ W : World, Below w0.heap.size w0 W → Bxs W Z b c 3 wn dd nn A n cc) := fun W hW => hZ ▸ HX.out.below hW
  have hfl := full_len (size := size) (all := all)
  clear h hJ h1 h2 hH hm hhc
  by_cases hin : 1 ≤ dd ∧ dd ≤ full size all
  · obtain ⟨d, rfl⟩ : ∃ d : Nat, dd = (d : Int) := ⟨dd.toNat, by omega⟩
    obtain ⟨ch, hch⟩ : ∃ ch, all[all.length - d]? = some ch := ⟨_, List.getElem?_eq_getElem (by omega)⟩
    have Hch := Lib.hid hch
    have Hin : Hid (1 ≤ d ∧ d ≤ full size all) := ⟨by omega, by omega⟩
    clear hch hin
    go_enter Try.func20, Try.ntmps20
    go_wp2_with fail
    refine (Last_yes B b size r1 all d ch w0 (HW.out.below Hb0.out) Hin.out.1 Hin.out.2 Hch.out).mono ?_
    rintro e w1 ⟨rfl, rfl⟩
    go_wp2_with fail
    refine (RLast_yes B c size r2 all d ch w0 (HV.out.below Hb0.out) Hin.out.1 Hin.out.2 (by omega) Hch.out).mono ?_
    rintro e w1 ⟨rfl, q, rfl⟩
    go_wp2_with fail
    go_ret2
    exact HR.out _ (below_drewN Hb0.out _)
  · have Hin := Lib.hid hin
    clear hin
    go_enter Try.func20, Try.ntmps20
    go_wp2_with fail
    refine (Last_no B b size r1 all dd w0 (HW.out.below Hb0.out) Hin.out).mono ?_
    rintro e w1 ⟨rfl, rfl⟩
    go_wp2_with fail
    refine (RLast_no B c size r2 all dd w0 (HV.out.below Hb0.out) Hin.out).mono ?_
    rintro e w1 ⟨rfl, q, rfl⟩
    go_wp2_with fail
    go_ret2
    exact HR.out _ (below_drewN Hb0.out _)
set_option maxHeartbeats 4000000 in
set_option maxRecDepth 100000 in
theorem plays_ask (B i N b c size : Nat) (r1 r2 : Option Nat) (all : List UInt8) (s : GS) (k wn dd nn : Int) (A : Option Addr) (n cc : Nat) (w : World) (h : SP (fam B s) B w) (hJ : GJ s N)
    (h1 : s.ws[i]? = some ⟨b, r1, size, all⟩) (h2 : s.rs[i]? = some ⟨c, r2, size, all⟩) (h3 : s.ps[i]? = some (b, c)) (hlen : all.length < 140737488355000) (hk : k = 4) :
    Calls Try.prog 20 #[.agg #[.pointer (some ⟨b, 0, none⟩), .pointer (some ⟨c, 0, none⟩)], .agg #[.int .i64 k, .int .i64 wn, .int .i64 dd, .int .i64 nn, .slice A n cc], .slice s.H s.m s.hc] w (PlPost B s N w) := by
  subst hk
  obtain ⟨H, hH⟩ : ∃ H, s.H = H := ⟨_, rfl⟩
  obtain ⟨m, hm⟩ : ∃ m, s.m = m := ⟨_, rfl⟩
  obtain ⟨hc, hhc⟩ : ∃ hc, s.hc = hc := ⟨_, rfl⟩
  have HR : Hid (∀ w', Below w.heap.size w w' → PlPost B s N w (.returned (.tuple #[.slice H m hc, .bool true])) w') := fun w' hb => ⟨s, by rw [hH, hm, hhc], h.keep hb, hb.mono h.le, hJ, rfl, rfl, rfl, Nat.le_succ _⟩
  rw [hH, hm, hhc]
  have HW : Hid (Win w B b r1 size all) := h.win h1
  have HV : Hid (WinR w B c r2 size all) := h.ref h2
  obtain ⟨w0, hw0⟩ : ∃ w0, ((w.alloc (.cells #[.pointer (some ⟨b, 0, none⟩), .pointer (some ⟨c, 0, none⟩)] 48)).alloc (.cells #[.int .i64 4, .int .i64 wn, .int .i64 dd, .int .i64 nn, .slice A n cc] 39)) = w0 := ⟨_, rfl⟩
  have Hb0 : Hid (Below w.heap.size w w0) := by rw [← hw0]; exact bmk_ (bmk_ (Below.refl _ _) _) _
  have HX : Hid (Bxs w0 w.heap.size b c 4 wn dd nn A n cc) := by rw [← hw0]; exact bxs_new w b c 4 wn dd nn A n cc
  obtain ⟨Z, hZ⟩ : ∃ Z, w.heap.size = Z := ⟨_, rfl⟩
  obtain ⟨x0, x1, y0, y2, y3, y4⟩ := HX.out.cells
  rw [hZ] at x0 x1 y0 y2 y3 y4
  have HSize : Hid (∀ W, Below w0.heap.size w0 W → Calls Try.prog 12 #[.pointer (some ⟨b, 0, none⟩)] W fun e w' => e = .returned (.int .i64 (size : Int)) ∧ W = w') := fun W hW => Size_any B b size r1 all W (HW.out.below (bup Hb0.out hW))
  obtain ⟨F, hF⟩ : ∃ F, full size all = F := ⟨_, rfl⟩
  have HFull : Hid (∀ W, Below w0.heap.size w0 W → Calls Try.prog 16 #[.pointer (some ⟨b, 0, none⟩)] W fun e w' => e = .returned (.int .i64 (F : Int)) ∧ W = w') := fun W hW => by rw [← hF]; exact Full_any B b size r1 all W (HW.out.below (bup Hb0.out hW))
  have HRFull : Hid (∀ W, Below w0.heap.size w0 W → Calls Try.prog 29 #[.pointer (some ⟨c, 0, none⟩)] W fun e w' => e = .returned (.int .i64 (F : Int)) ∧ ∃ q, w' = W.drewN q) := fun W hW => by rw [← hF]; exact RFull_any B c size r2 all W (HV.out.below (bup Hb0.out hW))
  obtain ⟨al, hal2⟩ : ∃ al, all.length = al := ⟨_, rfl⟩
  have HPos : Hid (∀ W, Below w0.heap.size w0 W → Calls Try.prog 11 #[.pointer (some ⟨b, 0, none⟩)] W fun e w' => e = .returned (.int .i64 (al : Int)) ∧ W = w') := fun W hW => by rw [← hal2]; exact Pos_any B b size r1 all W (HW.out.below (bup Hb0.out hW))
  obtain ⟨VA, vc, hcb, _⟩ := HV.out.below Hb0.out
  obtain ⟨c0, c1⟩ := hcb.two
  rw [hal2] at c1
  clear h hJ h1 h2 h3 hH hm hhc hF hal2 hcb hlen
  go_enter Try.func20, Try.ntmps20
  go_wp2_with fail
  go_quiet (first | (go_at_call 12; exact Calls.quiet_of_same ((HSize.out _ (below_drewN (Below.refl _ _) _)).mono fun _ _ h => ⟨h.1, h.2.symm⟩)) | (go_at_call 11; exact Calls.quiet_of_same ((HPos.out _ (below_drewN (Below.refl _ _) _)).mono fun _ _ h => ⟨h.1, h.2.symm⟩)) | (go_at_call 16; exact Calls.quiet_of_same ((HFull.out _ (below_drewN (Below.refl _ _) _)).mono fun _ _ h => ⟨h.1, h.2.symm⟩)) | (go_at_call 29; exact Calls.quiet_of (HRFull.out _ (below_drewN (Below.refl _ _) _))))
  go_wp2_with fail
  go_ret2
  exact HR.out _ (below_drewN Hb0.out _)
set_option maxHeartbeats 4000000 in
set_option maxRecDepth 100000 in
theorem plays_none (B i N b c size : Nat) (r1 r2 : Option Nat) (all : List UInt8) (s : GS) (k wn dd nn : Int) (A : Option Addr) (n cc : Nat) (w : World) (h : SP (fam B s) B w) (hJ : GJ s N)
    (h1 : s.ws[i]? = some ⟨b, r1, size, all⟩) (h2 : s.rs[i]? = some ⟨c, r2, size, all⟩) (h3 : s.ps[i]? = some (b, c)) (hlen : all.length < 140737488355000) (hk : k ≠ 1 ∧ k ≠ 2 ∧ k ≠ 3 ∧ k ≠ 4 ∧ k ≠ 5) :
    Calls Try.prog 20 #[.agg #[.pointer (some ⟨b, 0, none⟩), .pointer (some ⟨c, 0, none⟩)], .agg #[.int .i64 k, .int .i64 wn, .int .i64 dd, .int .i64 nn, .slice A n cc], .slice s.H s.m s.hc] w (PlPost B s N w) := by
  obtain ⟨k1, k2, k3, k4, k5⟩ := hk
  have e1 : (k == 1) = false := beq_eq_false_iff_ne.2 k1
  have e2 : (k == 2) = false := beq_eq_false_iff_ne.2 k2
  have e3 : (k == 3) = false := beq_eq_false_iff_ne.2 k3
  have e4 : (k == 4) = false := beq_eq_false_iff_ne.2 k4
  have e5 : (k == 5) = false := beq_eq_false_iff_ne.2 k5
  clear k1 k2 k3 k4 k5
  obtain ⟨H, hH⟩ : ∃ H, s.H = H := ⟨_, rfl⟩
  obtain ⟨m, hm⟩ : ∃ m, s.m = m := ⟨_, rfl⟩
  obtain ⟨hc, hhc⟩ : ∃ hc, s.hc = hc := ⟨_, rfl⟩
  have HR : Hid (∀ w', Below w.heap.size w w' → PlPost B s N w (.returned (.tuple #[.slice H m hc, .bool true])) w') := fun w' hb => ⟨s, by rw [hH, hm, hhc], h.keep hb, hb.mono h.le, hJ, rfl, rfl, rfl, Nat.le_succ _⟩
  rw [hH, hm, hhc]
  have HW : Hid (Win w B b r1 size all) := h.win h1
  have HV : Hid (WinR w B c r2 size all) := h.ref h2
  obtain ⟨w0, hw0⟩ : ∃ w0, ((w.alloc (.cells #[.pointer (some ⟨b, 0, none⟩), .pointer (some ⟨c, 0, none⟩)] 48)).alloc (.cells #[.int .i64 k, .int .i64 wn, .int .i64 dd, .int .i64 nn, .slice A n cc] 39)) = w0 := ⟨_, rfl⟩
  have Hb0 : Hid (Below w.heap.size w w0) := by rw [← hw0]; exact bmk_ (bmk_ (Below.refl _ _) _) _
  have HX : Hid (Bxs w0 w.heap.size b c k wn dd nn A n cc) := by rw [← hw0]; exact bxs_new w b c k wn dd nn A n cc
  obtain ⟨Z, hZ⟩ : ∃ Z, w.heap.size = Z := ⟨_, rfl⟩
  obtain ⟨x0, x1, y0, y2, y3, y4⟩ := HX.out.cells
  rw [hZ] at x0 x1 y0 y2 y3 y4
  clear h hJ h1 h2 h3 hH hm hhc hlen
  go_enter Try.func20, Try.ntmps20
  go_wp2_with fail
  go_ret2
  exact HR.out _ Hb0.out
set_option maxHeartbeats 4000000 in
set_option maxRecDepth 100000 in
theorem plays_clear (B i N b c size : Nat) (r1 r2 : Option Nat) (all : List UInt8) (s : GS) (k wn dd nn : Int) (A : Option Addr) (n cc : Nat) (w : World) (h : SP (fam B s) B w) (hJ : GJ s N)
    (h1 : s.ws[i]? = some ⟨b, r1, size, all⟩) (h2 : s.rs[i]? = some ⟨c, r2, size, all⟩) (h3 : s.ps[i]? = some (b, c)) (hlen : all.length < 140737488355000) (hk : k = 5) :
    Calls Try.prog 20 #[.agg #[.pointer (some ⟨b, 0, none⟩), .pointer (some ⟨c, 0, none⟩)], .agg #[.int .i64 k, .int .i64 wn, .int .i64 dd, .int .i64 nn, .slice A n cc], .slice s.H s.m s.hc] w (PlPost B s N w) := by
  subst hk
  obtain ⟨H, hH⟩ : ∃ H, s.H = H := ⟨_, rfl⟩
  obtain ⟨m, hm⟩ : ∃ m, s.m = m := ⟨_, rfl⟩
  obtain ⟨hc, hhc⟩ : ∃ hc, s.hc = hc := ⟨_, rfl⟩
  have HR : Hid (∀ w0 w1 w2, Below w.heap.size w w0 → Win w1 B b none size [] → Fr (fun k => k = b) w0 w1 → WinR w2 B c none size [] → Fr (fun k => k = c) w1 w2 → PlPost B s N w (.returned (.tuple #[.slice H m hc, .bool true])) w2) := fun w0 w1 w2 hb hW hF hV hG => by
    have s0 := h.keep hb
    have s1 := s0.winUpd (g' := ⟨b, none, size, []⟩) h1 hW rfl (hF.mono (fun _ _ e => .inl e)) (fun k hk => by cases hk)
    have s2 := s1.refUpd (g := ⟨c, r2, size, all⟩) (g' := ⟨c, none, size, []⟩) h2 hV rfl (hG.mono (fun _ _ e => .inl e)) (fun k hk => by cases hk)
    have b1 := hF.below s0.le (fun k e => by rw [e]; exact (s0.win h1).base)
    have b2 := hG.below s1.le (fun k e => by rw [e]; exact (s0.ref h2).base)
    exact ⟨_, by rw [← hH, ← hm, ← hhc], s2, ((hb.mono h.le).trans b1).trans b2, hJ.set h1 h2 h3 (Nat.le_refl _) (Nat.zero_le _), rfl, rfl, rfl, Nat.le_succ _⟩
  rw [hH, hm, hhc]
  have HW : Hid (Win w B b r1 size all) := h.win h1
  have HV : Hid (WinR w B c r2 size all) := h.ref h2
  obtain ⟨w0, hw0⟩ : ∃ w0, ((w.alloc (.cells #[.pointer (some ⟨b, 0, none⟩), .pointer (some ⟨c, 0, none⟩)] 48)).alloc (.cells #[.int .i64 5, .int .i64 wn, .int .i64 dd, .int .i64 nn, .slice A n cc] 39)) = w0 := ⟨_, rfl⟩
  have Hb0 : Hid (Below w.heap.size w w0) := by rw [← hw0]; exact bmk_ (bmk_ (Below.refl _ _) _) _
  have HX : Hid (Bxs w0 w.heap.size b c 5 wn dd nn A n cc) := by rw [← hw0]; exact bxs_new w b c 5 wn dd nn A n cc
  obtain ⟨Z, hZ⟩ : ∃ Z, w.heap.size = Z := ⟨_, rfl⟩
  obtain ⟨x0, x1, y0, y2, y3, y4⟩ := HX.out.cells
  rw [hZ] at x0 x1 y0 y2 y3 y4
  have HBx : Hid (∀ w1, Fr (fun k => k = b) w0 w1 → Bxs w1 Z b c 5 wn dd nn A n cc) := fun w1 hF => hZ ▸ HX.out.fr hF (fun g hg e => by have := HW.out.lt.1; omega)
  have HVf : Hid (∀ w1, Fr (fun k => k = b) w0 w1 → WinR w1 B c r2 size all) := fun w1 hF => (HV.out.below Hb0.out).fr hF (fun e => (HV.out.bt.1).ne HW.out.bt.1 (by decide) e) (fun g hg e => (HV.out.bt.2 g hg).ne HW.out.bt.1 (by decide) e)
  clear h hJ h1 h2 h3 hH hm hhc hlen
  go_enter Try.func20, Try.ntmps20
  go_wp2_with fail
  refine (Clear_any B b size r1 all w0 (HW.out.below Hb0.out)).mono ?_
  rintro e w1 ⟨rfl, hW1, hF1⟩
  have HW1 := Lib.hid hW1
  have HF1 := Lib.hid hF1
  clear hW1 hF1 x0 x1 y0 y2 y3 y4
  obtain ⟨x0, x1, y0, y2, y3, y4⟩ := (HBx.out w1 HF1.out).cells
  go_wp2_with fail
  refine (RClear_any B c size r2 all w1 (HVf.out w1 HF1.out)).mono ?_
  rintro e w2 ⟨rfl, hV2, hF2⟩
  have Hend := HR.out w0 w1 w2 Hb0.out HW1.out HF1.out hV2 hF2
  have HEnd := Lib.hid Hend
  clear hV2 hF2 Hend
  go_wp2_with fail
  go_ret2
  exact HEnd.out
end Go.Proofs.Ytcfaocbdhfmhbaa
