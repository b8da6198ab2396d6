
/-
  Walk of the law's plays: Copy. Conditions: the parts lie as SP says.
-/
import Derived.Test.YtcfaocbdhfmhbaaPlayA
namespace Go.Proofs.Ytcfaocbdhfmhbaa
open Go.RowKit

/-- the book's new entry, of every number -/
def HoldPost (A : Option Addr) (n c B : Nat) (w : World) (e : Ending) (w' : World) : Prop :=
  ∃ x : HE, e = .returned (.agg #[.slice x.A x.xs.length x.c, .int .i64 (x.N : Int), .int .u8 (x.mark.toNat : Int), .string (strOf x.want), .bool x.kept]) ∧ x.ok ∧ x.N = n ∧ w'.ownsRow B 5 1 x.v x.xs.length (bys x.xs) ∧ Fr (fun k => some k = (Value.slice A n c).ownBlock) w w' ∧
    (x.v.ownBlock = (Value.slice A n c).ownBlock ∨ ∀ g, x.v.ownBlock = some g → w.heap.size ≤ g)
theorem hold_any (A : Option Addr) (n c B k : Nat) (xs : List UInt8) (w : World) (hown : w.ownsRow B 5 1 (.slice A n c) n (bys xs)) (hn : n + 70 ≤ 140737488351232) (hk : k ≤ 1048600) (hB : B ≤ w.heap.size) :
    Calls Try.prog 27 #[.slice A n c, .int .i64 (k : Int)] w (HoldPost A n c B w) := by
  have hxn : xs.length = n := by have := hown.1; rw [bys_length] at this; omega
  by_cases he : k % 2 = 0
  · refine (hold_even A n c B k xs w hown (by omega) hk he).mono ?_
    rintro e w1 ⟨rfl, hb⟩
    subst hxn
    exact ⟨⟨A, c, xs.length, markOf k, xs, true, xs⟩, rfl, ⟨fun _ => ⟨rfl, rfl⟩, fun h => by cases h⟩, rfl, own_below hown hb, Fr.of_below hb, .inl rfl⟩
  · refine (hold_odd A n c B k xs w hown hn hk (by omega) hB).mono ?_
    rintro e w1 ⟨A', c', rfl, hO, hF, hat⟩
    refine ⟨⟨A', c', n, markOf k, xs, false, List.replicate (n + 70) (markOf k)⟩, ?_, ⟨fun h => (by cases h), fun _ => rfl⟩, rfl, ?_, hF, ?_⟩
    · unfold heV; simp only [List.length_replicate]
    · simp only [HE.v, List.length_replicate]; exact hO
    · simp only [HE.v, List.length_replicate]; exact hat
section
variable {B : Nat} {w w' : World} {s : GS}
theorem SP.belowW (h : SP (fam B s) B w) {i : Nat} {g : WG} (hi : s.ws[i]? = some g) (hF : Fr (fun k => k = g.b ∨ some k = g.r) w w') : Below B w w' := hF.below h.le (fun k hk => by
  rcases hk with hk | hk
  · rw [hk]; exact (h.win hi).base
  · exact ((h.win hi).lt.2 k hk.symm).1)
theorem SP.belowR (h : SP (fam B s) B w) {i : Nat} {g : WG} (hi : s.rs[i]? = some g) (hF : Fr (fun k => k = g.b ∨ some k = g.r) w w') : Below B w w' := hF.below h.le (fun k hk => by
  rcases hk with hk | hk
  · rw [hk]; exact (h.ref hi).base
  · exact ((h.ref hi).lt.2 k hk.symm).1)
theorem SP.belowT (h : SP (fam B s) B w) {A : Option Addr} {c : Nat} {xs : List UInt8} (ht : s.t = some (A, c, xs)) (hF : Fr (fun k => some k = (Value.slice A xs.length c).ownBlock) w w') : Below B w w' := hF.below h.le (fun k hk => (own_lt (h.tmp ht) hk.symm).1)
theorem SP.belowH (h : SP (fam B s) B w) (o : Obj) (hg : (w.alloc o).grownBy w' (Value.slice s.H s.m s.hc).ownBlock) : Below B w w' :=
  ((Below.refl _ w).alloc h.le o).grown hg (by have := h.le; simp; omega) (fun g hg => (own_lt h.book hg).1)
end
set_option maxHeartbeats 4000000 in
set_option maxRecDepth 100000 in
theorem plays_copy (B i N b c size : Nat) (r1 r2 : Option Nat) (all : List UInt8) (s : GS) (k wn dd nn : Int) (A : Option Addr) (n cc : Nat) (w : World) (h : SP (fam B s) B w) (hJ : GJ s N)
    (h1 : s.ws[i]? = some ⟨b, r1, size, all⟩) (h2 : s.rs[i]? = some ⟨c, r2, size, all⟩) (h3 : s.ps[i]? = some (b, c)) (hlen : all.length < 140737488355000) (hk : k = 2) (hm8 : s.m ≤ 1048576) (hall : all.length ≤ N) :
    Calls Try.prog 20 #[.agg #[.pointer (some ⟨b, 0, none⟩), .pointer (some ⟨c, 0, none⟩)], .agg #[.int .i64 k, .int .i64 wn, .int .i64 dd, .int .i64 nn, .slice A n cc], .slice s.H s.m s.hc] w (PlPost B s (N + 273) w) := by
  subst hk
  obtain ⟨j0, hj0, jz0, jz1, jz2⟩ := info_parts infoH
  have HW : Hid (Win w B b r1 size all) := h.win h1
  have HV : Hid (WinR w B c r2 size all) := h.ref h2
  have HS := Lib.hid h
  have HJ := Lib.hid hJ
  have H123 := Lib.hid (And.intro h1 (And.intro h2 h3))
  obtain ⟨w0, hw0⟩ : ∃ w0, ((w.alloc (.cells #[.pointer (some ⟨b, 0, none⟩), .pointer (some ⟨c, 0, none⟩)] 48)).alloc (.cells #[.int .i64 2, .int .i64 wn, .int .i64 dd, .int .i64 nn, .slice A n cc] 39)) = w0 := ⟨_, rfl⟩
  have Hb0 : Hid (Below w.heap.size w w0) := by rw [← hw0]; exact bmk_ (bmk_ (Below.refl _ _) _) _
  have HX : Hid (Bxs w0 w.heap.size b c 2 wn dd nn A n cc) := by rw [← hw0]; exact bxs_new w b c 2 wn dd nn A n cc
  have HS0 : Hid (SP (fam B s) B w0) := HS.out.keep Hb0.out
  obtain ⟨Z, hZ⟩ : ∃ Z, w.heap.size = Z := ⟨_, rfl⟩
  obtain ⟨x0, x1, y0, y2, y3, y4⟩ := HX.out.cells
  rw [hZ] at x0 x1 y0 y2 y3 y4
  have HBx : Hid (∀ w1 r, Fr (fun k => k = b ∨ some k = r) w0 w1 → (∀ g, r = some g → g < Z) → Bxs w1 Z b c 2 wn dd nn A n cc) := fun w1 r hF hr => hZ ▸ HX.out.fr hF (fun g hg e => by
    rcases e with e | e
    · have := HW.out.lt.1; omega
    · have := hr g e.symm; omega)
  have HZr : Hid (∀ g, r1 = some g → g < Z) := fun g hg => hZ ▸ (HW.out.lt.2 g hg).2
  clear h hJ h1 h2 h3
  obtain ⟨H, hH⟩ : ∃ H, s.H = H := ⟨_, rfl⟩
  obtain ⟨m, hm⟩ : ∃ m, s.m = m := ⟨_, rfl⟩
  obtain ⟨hc, hhc⟩ : ∃ hc, s.hc = hc := ⟨_, rfl⟩
  have HH := Lib.hid (And.intro hH (And.intro hm hhc))
  rw [hm] at hm8
  rw [hH, hm, hhc]
  clear hH hm hhc
  by_cases hin : 1 ≤ dd ∧ dd ≤ full size all ∧ 0 ≤ nn ∧ nn ≤ 273
  · obtain ⟨d, rfl⟩ : ∃ d : Nat, dd = (d : Int) := ⟨dd.toNat, by omega⟩
    obtain ⟨q, rfl⟩ : ∃ q : Nat, nn = (q : Int) := ⟨nn.toNat, by omega⟩
    have Hin : Hid (1 ≤ d ∧ d ≤ full size all ∧ q ≤ 273) := ⟨by omega, by omega, by omega⟩
    obtain ⟨E, hE⟩ : ∃ E, ext d q all = E := ⟨_, rfl⟩
    have hEl : E.length = all.length + q := by rw [← hE, ext_length]
    obtain ⟨xs, hxs⟩ : ∃ xs, E.drop all.length = xs := ⟨_, rfl⟩
    have hql : q = xs.length := by rw [← hxs, List.length_drop, hEl]; omega
    have hEx : (ext d q all).drop all.length = xs := by rw [hE]; exact hxs
    subst hql
    have HE := Lib.hid (And.intro hE (And.intro hEl hEx))
    clear hin hE hEl hxs hEx
    go_enter Try.func20, Try.ntmps20
    go_wp2_with fail
    refine (Copy_yes B b size r1 all d xs.length w0 (HW.out.below Hb0.out) Hin.out.1 Hin.out.2.1 Hin.out.2.2 (by omega)).mono ?_
    rintro e w1 ⟨A1, c1, r1', rfl, hR⟩
    have hO1 := hR.own
    have hW1 := hR.win
    rw [HE.out.2.2] at hO1
    rw [HE.out.1] at hW1
    have HS1 := Lib.hid (HS0.out.copied (g' := ⟨b, r1', size, E⟩) H123.out.1 hW1 rfl hR.fr hR.at_ hO1 (fun g hg => hR.ne g hg))
    have HB1 : Hid (Below B w w1) := (Hb0.out.mono HS.out.le).trans (HS0.out.belowW H123.out.1 hR.fr)
    clear x0 x1 y0 y2 y3 y4
    obtain ⟨x0, x1, y0, y2, y3, y4⟩ := (HBx.out w1 r1 hR.fr HZr.out).cells
    clear hO1 hW1 hR
    go_wp2_with fail
    refine (RCopy_yes B c size r2 all d xs.length w1 (HS1.out.ref (g := ⟨c, r2, size, all⟩) H123.out.2.1) Hin.out.1 Hin.out.2.1 Hin.out.2.2 (by omega)).mono ?_
    rintro e w2 ⟨A2, c2, r2', rfl, hQ⟩
    have hO2 := hQ.own
    have hW2 := hQ.win
    rw [HE.out.2.2] at hO2
    rw [HE.out.1] at hW2
    have HS2 := Lib.hid (HS1.out.refUpd (g := ⟨c, r2, size, all⟩) (g' := ⟨c, r2', size, E⟩) H123.out.2.1 hW2 rfl hQ.fr hQ.at_)
    have HB2 : Hid (Below B w w2) := HB1.out.trans (HS1.out.belowR (g := ⟨c, r2, size, all⟩) H123.out.2.1 hQ.fr)
    have hcv := conv_rd (c := c1) (Rd.of_own (HS2.out.tmp rfl))
    have hcv2 := conv_rd (c := c2) (Rd.of_own hO2)
    have HJ2 : Hid (GJ { s with ws := s.ws.set i ⟨b, r1', size, E⟩, rs := s.rs.set i ⟨c, r2', size, E⟩ } (N + 273)) := HJ.out.set H123.out.1 H123.out.2.1 H123.out.2.2 (by omega) (by have := HE.out.2.1; have := Hin.out.2.2; omega)
    have h273 : xs.length ≤ 273 := Hin.out.2.2
    clear hO2 hW2 hQ HS1 HB1 HS0 x0 x1 y0 y2 y3 y4 HJ
    go_wp2_with fail
    clear hcv hcv2
    refine (hold_any A1 xs.length c1 B m xs w2 (HS2.out.tmp rfl) (by omega) (by omega) HS2.out.le).mono ?_
    rintro e w3 ⟨xe, rfl, hok, hxN, hO3, hF3, hat3⟩
    have HS3 := Lib.hid (HS2.out.held (x := xe) rfl hF3 hO3 hat3)
    have HB3 : Hid (Below B w w3) := HB2.out.trans (HS2.out.belowT rfl hF3)
    have HXe : Hid (xe.ok ∧ xe.N ≤ 1073741824) := ⟨hok, by omega⟩
    have hrow := HS3.out.book
    simp only [HH.out.1, HH.out.2.1, HH.out.2.2] at hrow
    have Hrow := Lib.hid hrow
    have HBs : Hid (B ≤ w3.heap.size) := HS3.out.le
    obtain ⟨xA, xc, xN, xm, xw, xk, xx⟩ := xe
    simp only []
    clear hok hxN hO3 hF3 hat3 hrow
    go_wp2_with (at_builtin; refine wpList_append_rd (w := w3.alloc (.cells #[.slice xA xx.length xc, .int .i64 (xN : Int), .int .u8 (xm.toNat : Int), .string (strOf xw), .bool xk] 66)) rfl (.tmp 111) (.tmp 116) 49 rfl B 66 j0 _ 5 64 Try.underlying49 hj0 jz0 jz1 jz2 rfl (by decide) (.slice H m hc) m (hec s.eh) rfl (Hrow.out.alloc _) (some ⟨w3.heap.size, 0, none⟩) 1 1 (hec [⟨xA, xc, xN, xm, xw, xk, xx⟩]) rfl (Rd.of_blk' (Blk.new _ _ _) rfl rfl) (hec_one _) (by simp only [maxLen]; omega) (by omega) (by have := HBs.out; simp; omega) ?_; intro H2 hc2 w4 hown4 hg4 hat4)
    go_ret2
    rw [← hec_append, HJ2.out.ee] at hown4
    have hg5 : (w3.alloc (.cells #[.slice xA xx.length xc, .int .i64 (xN : Int), .int .u8 (xm.toNat : Int), .string (strOf xw), .bool xk] 66)).grownBy w4 (Value.slice s.H s.m s.hc).ownBlock := by rw [HH.out.1, HH.out.2.1, HH.out.2.2]; exact hg4
    have hat5 : (Value.slice H2 (m + 1) hc2).ownBlock = (Value.slice s.H s.m s.hc).ownBlock ∨ (Value.slice H2 (m + 1) hc2).ownBlock = some (w3.alloc (.cells #[.slice xA xx.length xc, .int .i64 (xN : Int), .int .u8 (xm.toNat : Int), .string (strOf xw), .bool xk] 66)).heap.size := by rw [HH.out.1, HH.out.2.1, HH.out.2.2]; exact hat4
    exact ⟨_, rfl, HS3.out.bookUpd (H2 := H2) (m2 := m + 1) (hc2 := hc2) _ hown4 hg5 hat5, HB3.out.trans (HS3.out.belowH _ hg5), HJ2.out.entry (m2 := m + 1) (H2 := H2) (hc2 := hc2) HXe.out (by show m + 1 = s.m + 1; rw [HH.out.2.1]), rfl, rfl, rfl, by show m + 1 ≤ s.m + 1; rw [HH.out.2.1]; exact Nat.le_refl _⟩
  · have Hin := Lib.hid hin
    clear hin
    go_enter Try.func20, Try.ntmps20
    go_wp2_with fail
    refine (Copy_no B b size r1 all dd nn w0 (HW.out.below Hb0.out) Hin.out).mono ?_
    rintro e w1 ⟨rfl, rfl⟩
    go_wp2_with fail
    refine (RCopy_no B c size r2 all dd nn w0 (HV.out.below Hb0.out) Hin.out).mono ?_
    rintro e w1 ⟨rfl, qq, rfl⟩
    have HS2 := Lib.hid ((HS0.out.keep (below_drewN (Below.refl _ _) qq)).tmpNew (A := none) (c := 0) (xs := []) HJ.out.t (Below.refl _ _) (World.ownsRow_nil _ _ _ _))
    have HB2 : Hid (Below B w (w0.drewN qq)) := below_drewN (Hb0.out.mono HS.out.le) _
    have HJ2 : Hid (GJ s (N + 273)) := HJ.out.mono (by omega)
    obtain ⟨w2, hw2⟩ : ∃ w2, w0.drewN qq = w2 := ⟨_, rfl⟩
    rw [hw2] at HS2 HB2 ⊢
    have hcv : (convert 22 9 (.slice none 0 0)).run Try.prog w2 = .ok (.string (strOf [])) w2 := conv_rd (l := []) (Rd.of_own (World.ownsRow_nil w2 B 5 1))
    clear hw2 x0 x1 y0 y2 y3 y4
    go_wp2_with fail
    clear hcv
    refine (hold_any none 0 0 B m [] w2 (HS2.out.tmp rfl) (by omega) (by omega) HS2.out.le).mono ?_
    rintro e w3 ⟨xe, rfl, hok, hxN, hO3, hF3, hat3⟩
    have HS3 := Lib.hid (HS2.out.held (x := xe) rfl hF3 hO3 hat3)
    have HB3 : Hid (Below B w w3) := HB2.out.trans (HS2.out.belowT rfl hF3)
    have HXe : Hid (xe.ok ∧ xe.N ≤ 1073741824) := ⟨hok, by omega⟩
    have hrow := HS3.out.book
    simp only [HH.out.1, HH.out.2.1, HH.out.2.2] at hrow
    have Hrow := Lib.hid hrow
    have HBs : Hid (B ≤ w3.heap.size) := HS3.out.le
    obtain ⟨xA, xc, xN, xm, xw, xk, xx⟩ := xe
    simp only []
    clear hok hxN hO3 hF3 hat3 hrow
    go_wp2_with (at_builtin; refine wpList_append_rd (w := w3.alloc (.cells #[.slice xA xx.length xc, .int .i64 (xN : Int), .int .u8 (xm.toNat : Int), .string (strOf xw), .bool xk] 66)) rfl (.tmp 111) (.tmp 116) 49 rfl B 66 j0 _ 5 64 Try.underlying49 hj0 jz0 jz1 jz2 rfl (by decide) (.slice H m hc) m (hec s.eh) rfl (Hrow.out.alloc _) (some ⟨w3.heap.size, 0, none⟩) 1 1 (hec [⟨xA, xc, xN, xm, xw, xk, xx⟩]) rfl (Rd.of_blk' (Blk.new _ _ _) rfl rfl) (hec_one _) (by simp only [maxLen]; omega) (by omega) (by have := HBs.out; simp; omega) ?_; intro H2 hc2 w4 hown4 hg4 hat4)
    go_ret2
    rw [← hec_append, HJ2.out.ee] at hown4
    have hg5 : (w3.alloc (.cells #[.slice xA xx.length xc, .int .i64 (xN : Int), .int .u8 (xm.toNat : Int), .string (strOf xw), .bool xk] 66)).grownBy w4 (Value.slice s.H s.m s.hc).ownBlock := by rw [HH.out.1, HH.out.2.1, HH.out.2.2]; exact hg4
    have hat5 : (Value.slice H2 (m + 1) hc2).ownBlock = (Value.slice s.H s.m s.hc).ownBlock ∨ (Value.slice H2 (m + 1) hc2).ownBlock = some (w3.alloc (.cells #[.slice xA xx.length xc, .int .i64 (xN : Int), .int .u8 (xm.toNat : Int), .string (strOf xw), .bool xk] 66)).heap.size := by rw [HH.out.1, HH.out.2.1, HH.out.2.2]; exact hat4
    exact ⟨_, rfl, HS3.out.bookUpd (H2 := H2) (m2 := m + 1) (hc2 := hc2) _ hown4 hg5 hat5, HB3.out.trans (HS3.out.belowH _ hg5), HJ2.out.entry (m2 := m + 1) (H2 := H2) (hc2 := hc2) HXe.out (by show m + 1 = s.m + 1; rw [HH.out.2.1]), rfl, rfl, rfl, by show m + 1 ≤ s.m + 1; rw [HH.out.2.1]; exact Nat.le_refl _⟩
end Go.Proofs.Ytcfaocbdhfmhbaa
