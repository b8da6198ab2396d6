/-
  Laws on the way to the claim (OtF). Conditions: those that each theorem states.
-/
import Derived.Test.YtcjehjdehdoaeaaGreatDoorOm40
set_option linter.unusedVariables false
set_option linter.unusedSimpArgs false
set_option maxRecDepth 1000000
set_option maxHeartbeats 16000000
namespace Go.Proofs.YtcjehjdehdoaeaaGreatDoor
open Go.RowKit
theorem infopl : (Tryz.prog.info? 73).map (fun i => (i.zero, i.size, i.bytes)) = some (some (.agg #[.int .i64 0, .int .i64 0, .int .i64 0, .int .i64 0]), 4, 32) := by kernel_rfl
def Kp (w0 w : World) : Prop := ∀ g t cs, Blk w0 g t cs → t ≠ 71 → t ≠ 5 → t ≠ 73 → Blk w g t cs
theorem Kp.to {w0 w w' : World} (h : Kp w0 w) (hb : Below w.heap.size w w') : Kp w0 w' := fun g t cs h1 h2 h3 h4 => (h g t cs h1 h2 h3 h4).below hb
theorem Kp.fr {w0 w w' : World} (h : Kp w0 w) {S : Nat → Prop} (hf : Fr S w w') (hS : ∀ g, S g → BT w g 71 ∨ BT w g 5 ∨ BT w g 73) : Kp w0 w' := fun g t cs h1 h2 h3 h4 => (h g t cs h1 h2 h3 h4).fr hf fun hg => by
 have hb : BT w g t := ⟨_, h g t cs h1 h2 h3 h4⟩;rcases hS g hg with e | e | e
 · exact BT.ne hb e h2 rfl
 · exact BT.ne hb e h3 rfl
 · exact BT.ne hb e h4 rfl
structure BlI (S : Sums) (T Rr : Nat → Int) (E : Nat → Addr) (B R : Nat) (A : Option Addr) (m c : Nat) (l : List UInt8) (k : Nat) (mem : Int) (X : Fs) (w0 : World) (fu b : Nat) (D : Option Addr) (dc : Nat) (dd : List UInt8) (P : Option Addr) (pc : Nat) (ps : List PE) (w : World) : Prop where
 r : Blk w R 71 (rdrC A m c b k D dd.length dc P ps.length pc)
 d : w.ownsRow B 5 1 (.slice D dd.length dc) dd.length (bys dd)
 p : w.ownsRow B 73 4 (.slice P ps.length pc) ps.length (pesC ps)
 z : dd.length ≤ b * 2097152
 n : ps.length ≤ b
 q : ∀ p ∈ ps, p.unp < 9223372036854775808 ∧ p.size < 9223372036854775808
 x : blocksGo S l k mem fu b dd (pesR ps) = X
 f : m < fu + b
 kp : Kp w0 w
 w : Below B w0 w
 b : b ≤ m
def SbPost (E : Nat → Addr) (B R : Nat) (A : Option Addr) (m c k : Nat) (X : Fs) (w : World) (en : Ending) (w' : World) : Prop :=
 Below B w w' ∧ if X.e = 0 then ∃ D dc P pc ps, en = .returned .nilIface ∧ Blk w' R 71 (rdrC A m c X.at_ k D X.data.length dc P ps.length pc) ∧ w'.ownsRow B 5 1 (.slice D X.data.length dc) X.data.length (bys X.data) ∧ w'.ownsRow B 73 4 (.slice P ps.length pc) ps.length (pesC ps) ∧ pesR ps = X.recs ∧ X.at_ < m ∧ X.data.length ≤ m * 2097152 ∧ ps.length ≤ m ∧ (∀ p ∈ ps, p.unp < 9223372036854775808 ∧ p.size < 9223372036854775808) ∧ Kp w w'
  else ∃ v, en = .returned v ∧ FV E X.e v w'
theorem sb_no {E : Nat → Addr} {B R : Nat} {A : Option Addr} {m c k e : Nat} {X : Fs} {w w' : World} {v : Value} (hX : X.e = e) (he : e ≠ 0) (hb : Below B w w') (hv : FV E e v w') : SbPost E B R A m c k X w (.returned v) w' := by
 refine ⟨hb, ?_⟩;rw [if_neg (by rw [hX]; exact he), hX]
 exact ⟨v, rfl, hv⟩
theorem sblk_any (S : Sums) (T Rr : Nat → Int) (hS : S.c32 = crc32) (hS2 : S.dl = deltaL) (hS3 : S.sum = ckSum T Rr) (E : Nat → Addr) (B R : Nat) (A : Option Addr) (m c : Nat) (l : List UInt8) (k : Nat) (mem : Int) (X : Fs) (fu : Nat) (w : World)
 (hI : In w A m l) (hc : m ≤ c) (hc63 : c ≤ 9223372036854775807) (hm6 : m ≤ 1048576) (hA : ∀ ad, A = some ad → ad.block < B) (hE : LaidX T Rr E B w) (hRB : B ≤ R) (hk : kindOk k)
 (h0 : BlI S T Rr E B R A m c l k mem X w fu 12 none 0 [] none 0 [] w) :
 Calls Tryz.prog 47 #[.pointer (some ⟨R, 0, none⟩), .int .i64 mem] w (SbPost E B R A m c k X w) := by
 obtain ⟨i0, hi0, hp0, hp1, hp2⟩ := info_parts infopl;obtain ⟨i1, hi1, hy0, hy1, hy2⟩ := info_parts infou8;have hlm := hI.len;have HI := Lib.hid (fun W (hb : Below B w W) => show In W A m l from hI.fr (S := fun g => B ≤ g) ⟨hb.os, hb.tape, hb.output, hb.size, fun i hi hn => hb.block i (by omega)⟩ (fun h0 ad had => by have := hA ad had; omega))
 have HE := Lib.hid (fun W (hb : Below B w W) => hE.to hb)
 have HF := Lib.hid (fun off kk w' (hb : Below B w w') h1 h9 => fault_any E off kk w' (hE.to hb).at_.2.2.2 h1 h9)
 have HBd := Lib.hid (fun W b (hb : Below B w W) (h1 : b < m) (hz : (l.getD b 0).toNat ≠ 0) => show Calls Tryz.prog 69 #[.slice (if c = b then A else A.map (·.add b)) (m - b) (c - b), .int .i64 k, .int .i64 mem] W (BkPost (blockF S (l.drop b) k mem) W) from
  bDec_any S T Rr hS hS2 hS3 _ (m - b) (c - b) (l.drop b) k mem W ((hI.fr (S := fun g => B ≤ g) ⟨hb.os, hb.tape, hb.output, hb.size, fun i hi hn => hb.block i (by omega)⟩ (fun h0 ad had => by have := hA ad had; omega)).cut (by omega) hc) (by omega) (by omega) (by omega) (by omega)
   (by rw [show (l.drop b).getD 0 0 = l.getD b 0 by simp [List.getD]]; exact hz)
   (fun ad had => by
    have hs := (hE.to hb).1;split at had
    · have := hA ad had; omega
    · obtain ⟨x, hx1, hx2⟩ := Option.map_eq_some_iff.1 had;rw [← hx2, block_add];have := hA x hx1;omega) hk (hE.to hb).at_.1 (hE.to hb).at_.2.1 (hE.to hb).at_.2.2.1)
 have HC := Lib.hid (And.intro hc (And.intro hlm (And.intro hm6 (And.intro hRB (And.intro hc63 hE.1)))));have H0 := Lib.hid h0;clear hI hlm hA hE hRB hk h0 hc hc63 hm6 hS hS3;go_enter Tryz.func47, Tryz.ntmps47;go_wp2_with fail
 go_loopw [] (fun wr => Hid (∃ fu b D dc dd P pc ps, BlI S T Rr E B R A m c l k mem X w fu b D dc dd P pc ps wr)) (fun wr => m + 1 - atOf R wr)
 case atStart => exact Lib.hid ⟨_, _, _, _, _, _, _, _, H0.out⟩
 case round =>
  obtain ⟨fu, b, D, dc, dd, P, pc, ps, hJ⟩ := hrel.out;obtain ⟨⟨c0, c1, c2, c3, c4⟩, ⟨f1, f2, f3, f4⟩⟩ := rdr_cells hJ.r;obtain ⟨⟨d0, d1, d2, d3, d4⟩, _⟩ := rdr_cells hJ.r.drew;have hbm := hJ.b;have hm6 := HC.out.2.2.1;have hx := hJ.x;obtain ⟨fv, rfl⟩ : ∃ x, fu = x + 1 := ⟨fu - 1, by have := hJ.f; omega⟩
  unfold blocksGo at hx;rw [HC.out.2.1] at hx;have HX := Lib.hid hx;have HJ := Lib.hid hJ;obtain ⟨dn, hdn⟩ : ∃ x, dd.length = x := ⟨_, rfl⟩;obtain ⟨pn, hpn⟩ : ∃ x, ps.length = x := ⟨_, rfl⟩;rw [hdn] at c3 d3;rw [hpn] at c4 d4;have HDn := Lib.hid (And.intro hdn hpn);have HB0 := Lib.hid hJ.w;clear hJ hx hrel hdn hpn;by_cases hend : b = m
  · have HXr := Lib.hid (show X.e = 1 by rw [← HX.out, if_pos hend])
    have g1 : ((b : Int) == (m : Int)) = true := beq_iff_eq.2 (by omega)
    clear hend HX;go_wp2_with fail
    go_region
    go_wp2_with fail;refine (HF.out (b : Int) 1 wr.drew HB0.out.drew (by decide) (by decide)).mono ?_
    rintro e w2 ⟨vv, rfl, hv, hb2⟩;have H2 := Lib.hid (And.intro hv (HB0.out.drew.trans (hb2.mono (Nat.le_trans HC.out.2.2.2.2.2 HB0.out.size))));clear hv hb2;go_wp2_with fail;go_ret;exact sb_no HXr.out (by decide) H2.out.2 H2.out.1
  · have hlt : b < m := by omega
    have g1 : ((b : Int) == (m : Int)) = false := beq_eq_false_iff_ne.2 (by omega)
    have hlt' : (b : Int) < (m : Int) := by omega
    have hx2 := HX.out;rw [if_neg hend] at hx2;obtain ⟨z, hz⟩ : ∃ z, l[b]? = some z := ⟨_, List.getElem?_eq_getElem (by rw [HC.out.2.1]; exact hlt)⟩
    have hgd : l.getD b 0 = z := by simp [List.getD, hz]
    obtain ⟨ab, ao, hAe, hcell⟩ := (HI.out wr.drew HB0.out.drew).1.cells_at (by omega)
    have b0 := hcell b z hz;rw [hgd] at hx2;have HBd2 := Lib.hid (fun W (hb : Below B w W) (h : z.toNat ≠ 0) => HBd.out W b hb hlt (by rw [hgd]; exact h))
    have HX2 := Lib.hid hx2;clear hcell hz hgd hx2 HX hend HBd;subst hAe;have hcb : ¬ c = b := by have := HC.out.1; omega
    have HBd3 := Lib.hid (fun W (hb : Below B w W) (h : z.toNat ≠ 0) => show Calls Tryz.prog 69 #[.slice (some ⟨ab, ao + b, none⟩) (m - b) (c - b), .int .i64 k, .int .i64 mem] W (BkPost (blockF S (l.drop b) k mem) W) from by
     have := HBd2.out W hb h
     rwa [if_neg hcb, Option.map_some, add_none] at this)
    have hbc : (b : Int) ≤ (c : Int) := by have := HC.out.1; omega
    have hbc' : (b : Int) ≤ (m : Int) := by omega
    clear HBd2;by_cases hz0 : z.toNat = 0
    · have HXr := Lib.hid (show X = ⟨b, dd, pesR ps, 0⟩ by rw [← HX2.out, if_pos hz0])
      rw [hz0] at b0;clear hz0 HX2;go_wp2_with fail
      go_region
      go_wp2_with fail
      go_region
      go_wp2_with fail;go_ret;refine ⟨HB0.out.drew.drew, ?_⟩;rw [HXr.out, if_pos rfl];exact ⟨D, dc, P, pc, ps, rfl, HJ.out.r.drew.drew, HJ.out.d, HJ.out.p, rfl, hlt, Nat.le_trans HJ.out.z (Nat.mul_le_mul_right _ (Nat.le_of_lt hlt)), by have := HJ.out.n; omega, HJ.out.q, HJ.out.kp.to (Below.refl _ _).drew.drew⟩
    · have hx3 := HX2.out;rw [if_neg hz0] at hx3;have x1 : ((z.toNat : Int) == 0) = false := beq_eq_false_iff_ne.2 (by omega)
      have HBk := Lib.hid (fun W (hb : Below B w W) => HBd3.out W hb hz0)
      have HW1 := Lib.hid (show Below B w wr.drew.drew.drew from HB0.out.drew.drew.drew)
      have HW2 := Lib.hid (show Below B w (wr.alloc (.cells #[.int .i64 0, .int .i64 0] 61)).drew.drew.drew from (HB0.out.alloc (Nat.le_trans HC.out.2.2.2.2.2 HB0.out.size) _).drew.drew.drew)
      have HRa := Lib.hid (show Blk (wr.alloc (.cells #[.int .i64 0, .int .i64 0] 61)).drew.drew.drew R 71 (rdrC (some ⟨ab, ao, none⟩) m c b k D dd.length dc P ps.length pc) from ((HJ.out.r.alloc _).drew.drew.drew))
      have HVa := Lib.hid (show Blk (wr.alloc (.cells #[.int .i64 0, .int .i64 0] 61)).drew.drew.drew wr.heap.size 61 #[.int .i64 0, .int .i64 0] from ((Blk.new wr _ _).drew.drew.drew))
      have hRV : ¬ R = wr.heap.size := by have := HJ.out.r.lt; omega
      have hVR : ¬ wr.heap.size = R := fun e => hRV e.symm
      obtain ⟨⟨q0, q1, q2, q3, q4⟩, _⟩ := rdr_cells HRa.out;obtain ⟨y, hy⟩ : ∃ y, z.toNat = y := ⟨_, rfl⟩;rw [hy] at b0 x1 hz0;have hbo := blockF_out S hS2 (l.drop b) k mem;have hbe := blockF_err S (l.drop b) k mem;have hbt := fun h => blockF_take S (l.drop b) k mem 1 h (Nat.le_refl _)
      rw [List.length_drop, HC.out.2.1] at hbt;obtain ⟨⟨bd, bu, bn, be⟩, hq⟩ : ∃ x, blockF S (l.drop b) k mem = x := ⟨_, rfl⟩;rw [hq] at HBk hx3 hbo hbe hbt;simp only [] at hx3 hbo hbe hbt;have HX3 := Lib.hid hx3;have HBo := Lib.hid (And.intro hbo hbt);clear hx3 hq hy HX2 HBd3 hbo hbt;obtain ⟨⟨e0, e1, e2, e3, e4⟩, _⟩ := rdr_cells HJ.out.r.drew.drew;obtain ⟨⟨o0, o1, o2, o3, o4⟩, _⟩ := rdr_cells HJ.out.r.drew.drew.drew
      by_cases h0 : be = 0
      · subst h0;have HX4 := Lib.hid (show blocksGo S l k mem fv (b + bn) (dd ++ bd) (pesR ps ++ [(bu, bd.length)]) = X by rw [← HX3.out, if_neg (show ¬ ((0 : Nat) ≠ 0) from fun h => h rfl)])
        obtain ⟨bl, hbl⟩ : ∃ x, bd.length = x := ⟨_, rfl⟩;have HBl := Lib.hid hbl;clear hbl HX3;go_wp2_with fail
        go_region
        go_wp2_with fail
        go_region
        go_wp2_with fail;go_cut [5, 6, 7, 8] (fun s5 s6 s7 s8 wy => ∃ (DA : Option Addr) (dac V : Nat), s5 = .slice DA bl dac ∧ s6 = .pointer (some ⟨V, 0, none⟩) ∧ s7 = .int .i64 bn ∧ s8 = .int .i64 0 ∧ Hid (Below wr.heap.size wr wy ∧ In wy DA bl bd ∧ Blk wy V 61 #[.int .i64 bu, .int .i64 bl] ∧ wr.heap.size ≤ V ∧ ∀ ad, DA = some ad → wr.heap.size ≤ ad.block))
        case first =>
         go_region_held3 (fun w' => w'.cell? ⟨R, 0, none⟩ = some (.slice (some ⟨ab, ao, none⟩) m c) ∧ w'.cell? ⟨R, 1, none⟩ = some (.int .i64 b) ∧ w'.cell? ⟨R, 2, none⟩ = some (.int .i64 k))
          (first | (with_reducible exact ⟨o0, o1, o2⟩) | (with_reducible exact ⟨q0, q1, q2⟩) | (with_reducible exact ⟨y0, y1, y2⟩) | go_keep)
          (first | (go_at_call 69; refine (HBk.out wr.drew.drew.drew HW1.out).mono ?_; rintro e w5 ⟨hb5, he⟩; rw [if_pos rfl] at he; simp only [] at he; rw [HBl.out] at he; obtain ⟨DA, dac, rfl, hI5, hfr5⟩ := he; have hr5 := HJ.out.r.drew.drew.drew.below hb5; obtain ⟨⟨y0, y1, y2, y3, y4⟩, _⟩ := rdr_cells hr5; have H5 := Lib.hid (show Below wr.heap.size wr w5 ∧ In w5 DA bl bd ∧ ∀ ad, DA = some ad → wr.heap.size ≤ ad.block from ⟨(Below.refl _ _).drew.drew.drew.trans hb5, hI5, fun ad had => hfr5 ad had⟩); clear hfr5; clear hb5 hr5 hI5) | (go_at_call 69; refine (HBk.out _ HW2.out).mono ?_; rintro e w5 ⟨hb5, he⟩; rw [if_pos rfl] at he; simp only [] at he; rw [HBl.out] at he; obtain ⟨DA, dac, rfl, hI5, hfr5⟩ := he; have hr5 := HRa.out.below hb5; obtain ⟨⟨y0, y1, y2, y3, y4⟩, _⟩ := rdr_cells hr5; have hv5 := HVa.out.below hb5; obtain ⟨v0, v1⟩ := hv5.two; have vf0 := hv5.frozen 0; have vf1 := hv5.frozen 1; have H5 := Lib.hid (show Below wr.heap.size wr w5 ∧ In w5 DA bl bd ∧ ∀ ad, DA = some ad → wr.heap.size ≤ ad.block from ⟨bup ((Below.refl _ _).alloc (Nat.le_refl _) _).drew.drew.drew hb5, hI5, fun ad had => Nat.le_trans ((Below.refl wr.heap.size wr).alloc (Nat.le_refl _) (.cells #[.int .i64 0, .int .i64 0] 61)).size (hfr5 ad had)⟩); clear hfr5; have HV5 := Lib.hid hv5; clear hb5 hr5 hv5 hI5))
         all_goals
          go_wp2_with fail
          go_meet
         · exact ⟨DA, dac, w5.heap.size, rfl, rfl, rfl, rfl, Lib.hid ⟨bmk_ H5.out.1 _, H5.out.2.1.below ((Below.refl _ _).alloc (Nat.le_refl _) _), Blk.new _ _ _, H5.out.1.size, H5.out.2.2⟩⟩
         · have hp := rec_put (x' := bu) (y' := bl) HV5.out;exact ⟨DA, dac, wr.heap.size, rfl, rfl, rfl, rfl, Lib.hid ⟨H5.out.1.trans (hp.2.below H5.out.1.size (fun g hg => by have hg : g = wr.heap.size := hg; omega)), H5.out.2.1.fr hp.2 (fun h0 ad had => in_far H5.out.2.1 h0 had HV5.out (by intro j v hv; rcases j with _ | _ | j <;> simp at hv <;> subst hv <;> rfl)), hp.1, Nat.le_refl _, H5.out.2.2⟩⟩
        case rest =>
         obtain ⟨DA, dac, V, rfl, rfl, rfl, rfl, hcut⟩ := hcut;obtain ⟨hbc1, hIc, hVc, hVs, hfr⟩ := hcut.out;have hRc := HJ.out.r.below hbc1;have hDc := own_below HJ.out.d hbc1;have hPc := own_below HJ.out.p hbc1;have hBw := HB0.out.trans (hbc1.mono (Nat.le_trans HC.out.2.2.2.2.2 HB0.out.size));have hDl : (Value.slice D dd.length dc).ownBlock = none ∨ ∀ g, (Value.slice D dd.length dc).ownBlock = some g → g < wr.heap.size := .inr (fun g hg => (own_lt HJ.out.d hg).2)
         have hPl : ∀ g, (Value.slice P ps.length pc).ownBlock = some g → g < wr.heap.size := fun g hg => (own_lt HJ.out.p hg).2
         obtain ⟨w6, hw6⟩ : ∃ x, (wc.alloc (.cells #[.int .i64 b, .int .i64 bu, .int .i64 bl, .int .i64 dn] 73)).drew = x := ⟨_, rfl⟩;have hb6 : Below wc.heap.size wc w6 := by rw [← hw6]; exact ((Below.refl _ _).alloc (Nat.le_refl _) _).drew
         have hR6 := hRc.below hb6;have hP6 := own_below hPc hb6;have hs6 : B ≤ w6.heap.size := Nat.le_trans HC.out.2.2.2.2.2 (Nat.le_trans hBw.size hb6.size);have hrd6 : Rd w6 4 (some ⟨wc.heap.size, 0, none⟩) 1 [.int .i64 b, .int .i64 bu, .int .i64 bl, .int .i64 dn] := by rw [← hw6]; exact rd_new wc #[.int .i64 b, .int .i64 bu, .int .i64 bl, .int .i64 dn] 73 4 rfl
         obtain ⟨⟨r0, r1, r2, r3, r4⟩, ⟨s1, s2, s3, s4⟩⟩ := rdr_cells hRc;obtain ⟨⟨ra0, ra1, ra2, ra3, ra4⟩, _⟩ := rdr_cells (hRc.alloc (.cells #[.int .i64 b, .int .i64 bu, .int .i64 bl, .int .i64 dn] 73));rw [HDn.out.2] at ra4;rw [HDn.out.1] at ra3;obtain ⟨va0, va1⟩ := (hVc.alloc (.cells #[.int .i64 b, .int .i64 bu, .int .i64 bl, .int .i64 dn] 73)).two;obtain ⟨v0, v1⟩ := hVc.two;rw [HDn.out.1] at r3
         rw [HDn.out.2] at r4 hP6;have H6 := Lib.hid (And.intro hb6 (And.intro hR6 (And.intro hs6 (And.intro hrd6 hw6))));have HCu := Lib.hid (And.intro hbc1 (And.intro hIc (And.intro hDc (And.intro hBw (And.intro hfr hPl)))));have HP6 := Lib.hid hP6;have HV6 := Lib.hid (show Blk w6 V 61 #[.int .i64 bu, .int .i64 bl] from by rw [← hw6]; exact (hVc.alloc _).drew)
         have hpn : pn ≤ b := by have := HJ.out.n; have := HDn.out.2; omega
         have hVR2 : ¬ V = R := by have := HJ.out.r.lt; omega
         have hRV2 : ¬ R = V := fun e => hVR2 e.symm
         have hRW : ¬ R = wc.heap.size := by have := hRc.lt; omega
         clear hbc1 hIc hVc hVs hfr hRc hDc hPc hBw hDl hPl hb6 hR6 hP6 hs6 hrd6 hw6 hcut c0 c1 c2 c3 c4 d0 d1 d2 d3 d4 e0 e1 e2 e3 e4 o0 o1 o2 o3 o4 q0 q1 q2 q3 q4 f1 f2 f3 f4 b0;go_wp2_with fail;go_cut [] (fun wy => ∃ (P2 : Option Addr) (pc2 : Nat), Hid (Blk wy R 71 (rdrC (some ⟨ab, ao, none⟩) m c b k D dn dc P2 (pn + 1) pc2) ∧ wy.ownsRow B 73 4 (.slice P2 (pn + 1) pc2) (pn + 1) (pesC (ps ++ [⟨b, bu, bl, dn⟩])) ∧ wy.ownsRow B 5 1 (.slice D dn dc) dn (bys dd) ∧ In wy DA bl bd ∧ Below B w wy ∧ Kp w wy))
         case first =>
          refine wp_region_held_drew (S := (fun w' => w'.cell? ⟨R, 1, none⟩ = some (.int .i64 b) ∧ w'.cell? ⟨R, 3, none⟩ = some (.slice D dn dc) ∧ w'.cell? ⟨V, 0, none⟩ = some (.int .i64 bu) ∧ w'.cell? ⟨V, 1, none⟩ = some (.int .i64 bl))) (by kernel_rfl) ⟨r1, r3, v0, v1⟩ (fun hHeld => ?_)
          refine wpAnyH_take (i := 0) (v := ?v1) rfl (by kernel_rfl) (by kernel_rfl) (by kernel_rfl) (fun _ _ _ h => h) (Or.inl ⟨by rfl, ?h1⟩) (by assumption) ?_
          case h1 => intro w hSw; (try dsimp only at hSw); go_simp; try with_reducible rfl
          try simp only [Act.put, List.getElem_toArray, List.getElem_cons_zero, List.getElem_cons_succ, List.setIfInBounds_toArray, List.set_cons_zero, List.set_cons_succ]
          refine wpAnyH_take (i := 1) (v := ?v2) rfl (by kernel_rfl) (by kernel_rfl) (by kernel_rfl) (fun _ _ _ h => h) (Or.inl ⟨by rfl, ?h2⟩) (by assumption) ?_
          case h2 => intro w hSw; (try dsimp only at hSw); go_simp; try with_reducible rfl
          try simp only [Act.put, List.getElem_toArray, List.getElem_cons_zero, List.getElem_cons_succ, List.setIfInBounds_toArray, List.set_cons_zero, List.set_cons_succ]
          refine wpAnyH_take (i := 2) (v := ?v3) rfl (by kernel_rfl) (by kernel_rfl) (by kernel_rfl) (fun _ _ _ h => h) (Or.inl ⟨by rfl, ?h3⟩) (by assumption) ?_
          case h3 => intro w hSw; (try dsimp only at hSw); go_simp; try with_reducible rfl
          try simp only [Act.put, List.getElem_toArray, List.getElem_cons_zero, List.getElem_cons_succ, List.setIfInBounds_toArray, List.set_cons_zero, List.set_cons_succ]
          refine wpAnyH_take (i := 3) (v := ?v4) rfl (by kernel_rfl) (by kernel_rfl) (by kernel_rfl) (fun _ _ _ h => h) (Or.inl ⟨by rfl, ?h4⟩) (by assumption) ?_
          case h4 => intro w hSw; (try dsimp only at hSw); go_simp; try with_reducible rfl
          try simp only [Act.put, List.getElem_toArray, List.getElem_cons_zero, List.getElem_cons_succ, List.setIfInBounds_toArray, List.set_cons_zero, List.set_cons_succ]
          refine wpAnyH_take (i := 5) (v := ?v5) rfl (by kernel_rfl) (by kernel_rfl) (by kernel_rfl) (fun _ _ _ h => h) (Or.inl ⟨by rfl, ?h5⟩) (by assumption) ?_
          case h5 => intro w hSw; (try dsimp only at hSw); go_simp; try with_reducible rfl
          try simp only [Act.put, List.getElem_toArray, List.getElem_cons_zero, List.getElem_cons_succ, List.setIfInBounds_toArray, List.set_cons_zero, List.set_cons_succ]
          refine wpAnyH_take (i := 6) (v := ?v6) rfl (by kernel_rfl) (by kernel_rfl) (by kernel_rfl) (fun _ _ _ h => h) (Or.inl ⟨by rfl, ?h6⟩) (by assumption) ?_
          case h6 => intro w hSw; (try dsimp only at hSw); go_simp; try with_reducible rfl
          try simp only [Act.put, List.getElem_toArray, List.getElem_cons_zero, List.getElem_cons_succ, List.setIfInBounds_toArray, List.set_cons_zero, List.set_cons_succ]
          refine wpAnyH_take (i := 7) (v := ?v7) rfl (by kernel_rfl) (by kernel_rfl) (by kernel_rfl) (fun _ _ _ h => h) (Or.inl ⟨by rfl, ?h7⟩) (by assumption) ?_
          case h7 => intro w hSw; (try dsimp only at hSw); go_simp; try with_reducible rfl
          try simp only [Act.put, List.getElem_toArray, List.getElem_cons_zero, List.getElem_cons_succ, List.setIfInBounds_toArray, List.set_cons_zero, List.set_cons_succ]
          refine wpAnyH_take (i := 8) (v := ?v8) rfl (by kernel_rfl) (by kernel_rfl) (by kernel_rfl) (fun _ _ _ h => h) (Or.inl ⟨by rfl, ?h8⟩) (by assumption) ?_
          case h8 => intro w hSw; (try dsimp only at hSw); go_simp; try with_reducible rfl
          try simp only [Act.put, List.getElem_toArray, List.getElem_cons_zero, List.getElem_cons_succ, List.setIfInBounds_toArray, List.set_cons_zero, List.set_cons_succ]
          refine wpAnyH_take (i := 9) (v := ?v9) rfl (by kernel_rfl) (by kernel_rfl) (by kernel_rfl) (fun _ _ _ h => h) (Or.inl ⟨by rfl, ?h9⟩) (by assumption) ?_
          case h9 => intro w hSw; (try dsimp only at hSw); go_simp; try with_reducible rfl
          try simp only [Act.put, List.getElem_toArray, List.getElem_cons_zero, List.getElem_cons_succ, List.setIfInBounds_toArray, List.set_cons_zero, List.set_cons_succ]
          refine wpAnyH_take (i := 10) (v := ?v10) rfl (by kernel_rfl) (by kernel_rfl) (by kernel_rfl) (fun _ _ _ h => h) (Or.inl ⟨by rfl, ?h10⟩) (by assumption) ?_
          case h10 => intro w hSw; (try dsimp only at hSw); go_simp; try with_reducible rfl
          try simp only [Act.put, List.getElem_toArray, List.getElem_cons_zero, List.getElem_cons_succ, List.setIfInBounds_toArray, List.set_cons_zero, List.set_cons_succ]
          refine wpAnyH_take (i := 11) (v := ?v11) rfl (by kernel_rfl) (by kernel_rfl) (by kernel_rfl) (fun _ _ _ h => h) (Or.inl ⟨by rfl, ?h11⟩) (by assumption) ?_
          case h11 => intro w hSw; (try dsimp only at hSw); go_simp; try with_reducible rfl
          try simp only [Act.put, List.getElem_toArray, List.getElem_cons_zero, List.getElem_cons_succ, List.setIfInBounds_toArray, List.set_cons_zero, List.set_cons_succ]
          refine wpAnyH_take (i := 12) (v := ?v12) rfl (by kernel_rfl) (by kernel_rfl) (by kernel_rfl) (fun _ _ _ h => h) (Or.inl ⟨by rfl, ?h12⟩) (by assumption) ?_
          case h12 => intro w hSw; (try dsimp only at hSw); go_simp; try with_reducible rfl
          try simp only [Act.put, List.getElem_toArray, List.getElem_cons_zero, List.getElem_cons_succ, List.setIfInBounds_toArray, List.set_cons_zero, List.set_cons_succ]
          refine wpAnyH_take (i := 13) (v := ?v13) rfl (by kernel_rfl) (by kernel_rfl) (by kernel_rfl) (fun _ _ _ h => h) (Or.inl ⟨by rfl, ?h13⟩) (by assumption) ?_
          case h13 => intro w hSw; (try dsimp only at hSw); go_simp; try with_reducible rfl
          try simp only [Act.put, List.getElem_toArray, List.getElem_cons_zero, List.getElem_cons_succ, List.setIfInBounds_toArray, List.set_cons_zero, List.set_cons_succ]
          refine wpAnyH_take (i := 14) (v := ?v14) rfl (by kernel_rfl) (by kernel_rfl) (by kernel_rfl) (fun _ _ _ h => h) (Or.inl ⟨by rfl, ?h14⟩) (by assumption) ?_
          case h14 => intro w hSw; (try dsimp only at hSw); go_simp; try with_reducible rfl
          try simp only [Act.put, List.getElem_toArray, List.getElem_cons_zero, List.getElem_cons_succ, List.setIfInBounds_toArray, List.set_cons_zero, List.set_cons_succ]
          refine wpAnyH_take (i := 15) (v := ?v15) rfl (by kernel_rfl) (by kernel_rfl) (by kernel_rfl) (fun _ _ _ h => h) (Or.inl ⟨by rfl, ?h15⟩) (by assumption) ?_
          case h15 => intro w hSw; (try dsimp only at hSw); go_simp; try with_reducible rfl
          try simp only [Act.put, List.getElem_toArray, List.getElem_cons_zero, List.getElem_cons_succ, List.setIfInBounds_toArray, List.set_cons_zero, List.set_cons_succ]
          refine wpAnyH_ready (rs := [4, 16]) (by kernel_rfl) (by simp) ?_
          refine AllReadyH.cons rfl (fun K' hK => ?_) (AllReadyH.cons rfl (fun K' hK => ?_) AllReadyH.nil)
          · simp only [List.getElem_toArray, List.getElem_cons_zero, List.getElem_cons_succ];go_simp;try dsimp only
            refine hK.out _ _ ⟨r1, r3, v0, v1⟩ (fun hHeld => ?_)
            clear hK K';try simp only [Act.put, List.getElem_toArray, List.getElem_cons_zero, List.getElem_cons_succ, List.setIfInBounds_toArray, List.set_cons_zero, List.set_cons_succ]
            refine wpAnyH_ready (rs := [16]) (by kernel_rfl) (by simp) ?_
            refine AllReadyH.cons rfl (fun K' hK => ?_) AllReadyH.nil
            simp only [List.getElem_toArray, List.getElem_cons_zero, List.getElem_cons_succ];go_simp;try dsimp only
            refine hK.out _ _ ⟨ra1, ra3, va0, va1⟩ (fun hHeld => ?_)
            clear hK K';try simp only [Act.put, List.getElem_toArray, List.getElem_cons_zero, List.getElem_cons_succ, List.setIfInBounds_toArray, List.set_cons_zero, List.set_cons_succ]
            refine wpAnyH_ready (rs := [17]) (by kernel_rfl) (by simp) ?_
            refine AllReadyH.cons rfl (fun K' hK => ?_) AllReadyH.nil
            refine step_append_rd (w := (wc.alloc (.cells #[.int .i64 b, .int .i64 bu, .int .i64 bl, .int .i64 dn] 73)).drew) rfl (.tmp 69) (.tmp 81) 45 rfl B 73 i0 _ 4 32 Tryz.underlying45 hi0 hp0 hp1 hp2 rfl (by decide) (.slice P pn pc) pn (pesC ps) (by simp [Act.eval]) (by rw [H6.out.2.2.2.2]; exact HP6.out) (some ⟨wc.heap.size, 0, none⟩) 1 1 [.int .i64 b, .int .i64 bu, .int .i64 bl, .int .i64 dn] (by simp [Act.eval]) (by rw [H6.out.2.2.2.2]; exact H6.out.2.2.2.1) (by intro u hu; simp at hu; rcases hu with rfl | rfl | rfl | rfl <;> rfl) (by simp only [maxLen]; omega) (by omega) (by rw [H6.out.2.2.2.2]; exact H6.out.2.2.1) ?_
            intro a1 c1 w7 hown7 hg7 hat7;rw [H6.out.2.2.2.2] at hg7;have hf7 : Fr (fun g => some g = (Value.slice P pn pc).ownBlock) w6 w7 := (Fr.refl _ _).grown hg7 (fun g hg => .inl hg.symm)
            have hR7 := H6.out.2.1.fr hf7 (own_ne HP6.out H6.out.2.1 (by decide))
            have hV7 := HV6.out.fr hf7 (own_ne HP6.out HV6.out (by decide))
            rw [HDn.out.1, HDn.out.2] at hR7;obtain ⟨⟨t0, t1, t2, t3, t4⟩, ⟨x1', x2', x3', x4'⟩⟩ := rdr_cells hR7;obtain ⟨vb0, vb1⟩ := hV7.two;have hR7b := hR7.set_ 4 (.slice a1 (pn + 1) c1);have tb1 : (w7.setCell ⟨R, 4, none⟩ (.slice a1 (pn + 1) c1)).cell? ⟨R, 1, none⟩ = some (.int .i64 b) := hR7b.cell 1;have tb3 : (w7.setCell ⟨R, 4, none⟩ (.slice a1 (pn + 1) c1)).cell? ⟨R, 3, none⟩ = some (.slice D dn dc) := hR7b.cell 3
            obtain ⟨vc0, vc1⟩ := (hV7.far (p := ⟨R, 4, none⟩) hVR2 (.slice a1 (pn + 1) c1)).two;have H7 := Lib.hid (And.intro hown7 (And.intro hf7 hR7));clear hown7 hg7 hat7 hf7 hR7 hV7 hR7b;try dsimp only
            refine hK.out _ _ ⟨t1, t3, vb0, vb1⟩ (fun hHeld => ?_)
            clear hK K';try simp only [Act.put, List.getElem_toArray, List.getElem_cons_zero, List.getElem_cons_succ, List.setIfInBounds_toArray, List.set_cons_zero, List.set_cons_succ]
            refine wpAnyH_take (i := 18) (v := ?v16) rfl (by kernel_rfl) (by kernel_rfl) (by kernel_rfl) (fun _ _ _ h => h) (Or.inl ⟨by rfl, ?h16⟩) (by assumption) ?_
            case h16 => intro w hSw; (try dsimp only at hSw); go_simp; try with_reducible rfl
            try simp only [Act.put, List.getElem_toArray, List.getElem_cons_zero, List.getElem_cons_succ, List.setIfInBounds_toArray, List.set_cons_zero, List.set_cons_succ]
            refine wpAnyH_take (i := 19) (v := ?v17) rfl (by kernel_rfl) (by kernel_rfl) (by kernel_rfl) (fun _ _ _ h => h) (Or.inl ⟨by rfl, ?h17⟩) (by assumption) ?_
            case h17 => intro w hSw; (try dsimp only at hSw); go_simp; try with_reducible rfl
            try simp only [Act.put, List.getElem_toArray, List.getElem_cons_zero, List.getElem_cons_succ, List.setIfInBounds_toArray, List.set_cons_zero, List.set_cons_succ]
            refine wpAnyH_ready (rs := [20]) (by kernel_rfl) (by simp) ?_
            refine AllReadyH.cons rfl (fun K' hK => ?_) AllReadyH.nil
            simp only [List.getElem_toArray, List.getElem_cons_zero, List.getElem_cons_succ];go_simp;try dsimp only
            refine hK.out _ _ ⟨tb1, tb3, vc0, vc1⟩ (fun hHeld => ?_)
            clear hK K';refine wpAnyH_done (by kernel_rfl) ?_ _
            go_wp2_with fail
            go_meet
            have hR8 := H7.out.2.2.set_ 4 (.slice a1 (pn + 1) c1);have hf8 : Fr (fun g => g = R) w7 (w7.setCell ⟨R, 4, none⟩ (.slice a1 (pn + 1) c1)) := Fr.set1 (Fr.refl _ _) 4 _
            have hd6 := own_below HCu.out.2.2.1 H6.out.1;have hd7 := own_fr hd6 H7.out.2.1 (fun g hg e => BT.ne (own_bt hd6 hg) (own_bt HP6.out e.symm) (by decide) rfl)
            have hi6 := HCu.out.2.1.below H6.out.1;have hPl := HCu.out.2.2.2.2.2;rw [HDn.out.2] at hPl;have hi7 := hi6.fr H7.out.2.1 (fun h0 ad had e => by have := hPl ad.block e.symm; have := HCu.out.2.2.2.2.1 ad had; omega)
            have hb7 : Below B w w7 := (HCu.out.2.2.2.1.trans (H6.out.1.mono (Nat.le_trans HC.out.2.2.2.2.2 HCu.out.2.2.2.1.size))).trans (H7.out.2.1.below H6.out.2.2.1 (fun g hg => (own_lt HP6.out hg.symm).1))
            rw [HDn.out.1] at hd7;refine ⟨a1, c1, Lib.hid ⟨hR8, ?_, own_fr hd7 hf8 (fun g hg e => own_ne hd7 H7.out.2.2 (by decide) (by rw [hg]; exact congrArg some e.symm)), hi7.fr hf8 (fun h0 ad had => in_far hi7 h0 had H7.out.2.2 (rdr_far _ _ _ _ _ _ _ _ _ _ _)), hb7.setCell (p := ⟨R, 4, none⟩) HC.out.2.2.2.1 _, (((HJ.out.kp.to HCu.out.1).to H6.out.1).fr H7.out.2.1 (fun g hg => .inr (.inr (own_bt HP6.out hg.symm)))).fr hf8 (fun g hg => .inl (by have hg : g = R := hg; rw [hg]; exact ⟨_, H7.out.2.2⟩))⟩⟩
            rw [pesC_snoc];exact own_far H7.out.1 (p := ⟨R, 4, none⟩) (own_ne H7.out.1 H7.out.2.2 (by decide)) _
          · simp only [List.getElem_toArray, List.getElem_cons_zero, List.getElem_cons_succ];go_simp;try dsimp only
            refine hK.out _ _ ⟨ra1, ra3, va0, va1⟩ (fun hHeld => ?_)
            clear hK K';try simp only [Act.put, List.getElem_toArray, List.getElem_cons_zero, List.getElem_cons_succ, List.setIfInBounds_toArray, List.set_cons_zero, List.set_cons_succ]
            refine wpAnyH_ready (rs := [4]) (by kernel_rfl) (by simp) ?_
            refine AllReadyH.cons rfl (fun K' hK => ?_) AllReadyH.nil
            simp only [List.getElem_toArray, List.getElem_cons_zero, List.getElem_cons_succ];go_simp;try dsimp only
            refine hK.out _ _ ⟨ra1, ra3, va0, va1⟩ (fun hHeld => ?_)
            clear hK K';try simp only [Act.put, List.getElem_toArray, List.getElem_cons_zero, List.getElem_cons_succ, List.setIfInBounds_toArray, List.set_cons_zero, List.set_cons_succ]
            refine wpAnyH_ready (rs := [17]) (by kernel_rfl) (by simp) ?_
            refine AllReadyH.cons rfl (fun K' hK => ?_) AllReadyH.nil
            refine step_append_rd (w := (wc.alloc (.cells #[.int .i64 b, .int .i64 bu, .int .i64 bl, .int .i64 dn] 73)).drew) rfl (.tmp 69) (.tmp 81) 45 rfl B 73 i0 _ 4 32 Tryz.underlying45 hi0 hp0 hp1 hp2 rfl (by decide) (.slice P pn pc) pn (pesC ps) (by simp [Act.eval]) (by rw [H6.out.2.2.2.2]; exact HP6.out) (some ⟨wc.heap.size, 0, none⟩) 1 1 [.int .i64 b, .int .i64 bu, .int .i64 bl, .int .i64 dn] (by simp [Act.eval]) (by rw [H6.out.2.2.2.2]; exact H6.out.2.2.2.1) (by intro u hu; simp at hu; rcases hu with rfl | rfl | rfl | rfl <;> rfl) (by simp only [maxLen]; omega) (by omega) (by rw [H6.out.2.2.2.2]; exact H6.out.2.2.1) ?_
            intro a1 c1 w7 hown7 hg7 hat7;rw [H6.out.2.2.2.2] at hg7;have hf7 : Fr (fun g => some g = (Value.slice P pn pc).ownBlock) w6 w7 := (Fr.refl _ _).grown hg7 (fun g hg => .inl hg.symm)
            have hR7 := H6.out.2.1.fr hf7 (own_ne HP6.out H6.out.2.1 (by decide))
            have hV7 := HV6.out.fr hf7 (own_ne HP6.out HV6.out (by decide))
            rw [HDn.out.1, HDn.out.2] at hR7;obtain ⟨⟨t0, t1, t2, t3, t4⟩, ⟨x1', x2', x3', x4'⟩⟩ := rdr_cells hR7;obtain ⟨vb0, vb1⟩ := hV7.two;have hR7b := hR7.set_ 4 (.slice a1 (pn + 1) c1);have tb1 : (w7.setCell ⟨R, 4, none⟩ (.slice a1 (pn + 1) c1)).cell? ⟨R, 1, none⟩ = some (.int .i64 b) := hR7b.cell 1;have tb3 : (w7.setCell ⟨R, 4, none⟩ (.slice a1 (pn + 1) c1)).cell? ⟨R, 3, none⟩ = some (.slice D dn dc) := hR7b.cell 3
            obtain ⟨vc0, vc1⟩ := (hV7.far (p := ⟨R, 4, none⟩) hVR2 (.slice a1 (pn + 1) c1)).two;have H7 := Lib.hid (And.intro hown7 (And.intro hf7 hR7));clear hown7 hg7 hat7 hf7 hR7 hV7 hR7b;try dsimp only
            refine hK.out _ _ ⟨t1, t3, vb0, vb1⟩ (fun hHeld => ?_)
            clear hK K';try simp only [Act.put, List.getElem_toArray, List.getElem_cons_zero, List.getElem_cons_succ, List.setIfInBounds_toArray, List.set_cons_zero, List.set_cons_succ]
            refine wpAnyH_take (i := 18) (v := ?v18) rfl (by kernel_rfl) (by kernel_rfl) (by kernel_rfl) (fun _ _ _ h => h) (Or.inl ⟨by rfl, ?h18⟩) (by assumption) ?_
            case h18 => intro w hSw; (try dsimp only at hSw); go_simp; try with_reducible rfl
            try simp only [Act.put, List.getElem_toArray, List.getElem_cons_zero, List.getElem_cons_succ, List.setIfInBounds_toArray, List.set_cons_zero, List.set_cons_succ]
            refine wpAnyH_take (i := 19) (v := ?v19) rfl (by kernel_rfl) (by kernel_rfl) (by kernel_rfl) (fun _ _ _ h => h) (Or.inl ⟨by rfl, ?h19⟩) (by assumption) ?_
            case h19 => intro w hSw; (try dsimp only at hSw); go_simp; try with_reducible rfl
            try simp only [Act.put, List.getElem_toArray, List.getElem_cons_zero, List.getElem_cons_succ, List.setIfInBounds_toArray, List.set_cons_zero, List.set_cons_succ]
            refine wpAnyH_ready (rs := [20]) (by kernel_rfl) (by simp) ?_
            refine AllReadyH.cons rfl (fun K' hK => ?_) AllReadyH.nil
            simp only [List.getElem_toArray, List.getElem_cons_zero, List.getElem_cons_succ];go_simp;try dsimp only
            refine hK.out _ _ ⟨tb1, tb3, vc0, vc1⟩ (fun hHeld => ?_)
            clear hK K';refine wpAnyH_done (by kernel_rfl) ?_ _
            go_wp2_with fail
            go_meet
            have hR8 := H7.out.2.2.set_ 4 (.slice a1 (pn + 1) c1);have hf8 : Fr (fun g => g = R) w7 (w7.setCell ⟨R, 4, none⟩ (.slice a1 (pn + 1) c1)) := Fr.set1 (Fr.refl _ _) 4 _
            have hd6 := own_below HCu.out.2.2.1 H6.out.1;have hd7 := own_fr hd6 H7.out.2.1 (fun g hg e => BT.ne (own_bt hd6 hg) (own_bt HP6.out e.symm) (by decide) rfl)
            have hi6 := HCu.out.2.1.below H6.out.1;have hPl := HCu.out.2.2.2.2.2;rw [HDn.out.2] at hPl;have hi7 := hi6.fr H7.out.2.1 (fun h0 ad had e => by have := hPl ad.block e.symm; have := HCu.out.2.2.2.2.1 ad had; omega)
            have hb7 : Below B w w7 := (HCu.out.2.2.2.1.trans (H6.out.1.mono (Nat.le_trans HC.out.2.2.2.2.2 HCu.out.2.2.2.1.size))).trans (H7.out.2.1.below H6.out.2.2.1 (fun g hg => (own_lt HP6.out hg.symm).1))
            rw [HDn.out.1] at hd7;refine ⟨a1, c1, Lib.hid ⟨hR8, ?_, own_fr hd7 hf8 (fun g hg e => own_ne hd7 H7.out.2.2 (by decide) (by rw [hg]; exact congrArg some e.symm)), hi7.fr hf8 (fun h0 ad had => in_far hi7 h0 had H7.out.2.2 (rdr_far _ _ _ _ _ _ _ _ _ _ _)), hb7.setCell (p := ⟨R, 4, none⟩) HC.out.2.2.2.1 _, (((HJ.out.kp.to HCu.out.1).to H6.out.1).fr H7.out.2.1 (fun g hg => .inr (.inr (own_bt HP6.out hg.symm)))).fr hf8 (fun g hg => .inl (by have hg : g = R := hg; rw [hg]; exact ⟨_, H7.out.2.2⟩))⟩⟩
            rw [pesC_snoc];exact own_far H7.out.1 (p := ⟨R, 4, none⟩) (own_ne H7.out.1 H7.out.2.2 (by decide)) _
         case rest =>
          obtain ⟨P2, pc2, hcut⟩ := hcut;obtain ⟨hRc, hPc, hDc, hIc, hBw, hKc⟩ := hcut.out;have HKc := Lib.hid hKc;have hsB := Nat.le_trans HC.out.2.2.2.2.2 hBw.size;have hzb := HJ.out.z;rw [HDn.out.1] at hzb;have hbl2 := HBl.out;have hbt := HBo.out.2 (by first | trivial | rfl)
          have hbo := HBo.out.1 (by first | trivial | rfl)
          try simp only [] at hbt hbo
          rw [hbl2] at hbo;obtain ⟨nb, hnb⟩ : ∃ x, b + bn = x := ⟨_, rfl⟩;have hnbm : nb ≤ m := by omega
          have hdl : dn + bl ≤ nb * 2097152 := by omega
          have hdl2 : dn + bl ≤ 2199023255552 := by omega
          have wn : IntKind.i64.wrap ((b : Int) + (bn : Int)) = (nb : Int) := by rw [IntWalk.i64_in _ (by omega)]; omega
          obtain ⟨⟨r0, r1, r2, r3, r4⟩, ⟨s1, s2, s3, s4⟩⟩ := rdr_cells hRc;have hrdI := hIc.1;have hsc : B ≤ wc.heap.size := hsB;have HCu2 := Lib.hid (And.intro hRc (And.intro hPc (And.intro hDc (And.intro hIc hBw))));have HN := Lib.hid (And.intro hnb (And.intro hbt (And.intro hbo (And.intro hdl hbl2))));clear hKc hRc hPc hIc hBw hsB hzb hbl2 hbt hbo hnb hcut HCu HP6 H6;go_upto_region 9 with (fail)
          go_wp2_with (at_builtin; refine wpList_append_rd (w := wc) rfl (.tmp 89) (.tmp 90) 22 rfl B 5 i1 _ 1 1 Tryz.underlying22 hi1 hy0 hy1 hy2 rfl (by decide) (.slice D dn dc) dn (bys dd) rfl hDc DA bl dac (bys bd) rfl hrdI (bys_one _) (by simp only [maxLen]; omega) (by omega) hsc ?_; intro a2 c2 w9 hown9 hg9 hat9; have hf9 : Fr (fun g => some g = (Value.slice D dn dc).ownBlock) wc w9 := (Fr.refl _ _).grown hg9 (fun g hg => .inl hg.symm); have hR9 := HCu2.out.1.fr hf9 (own_ne hDc HCu2.out.1 (by decide)); have hR10 : Blk (w9.setCell ⟨R, 3, none⟩ (.slice a2 (dn + bl) c2)) R 71 (rdrC (some ⟨ab, ao, none⟩) m c b k a2 (dn + bl) c2 P2 (pn + 1) pc2) := hR9.set_ 3 _; obtain ⟨⟨u0', u1', u2', u3', u4'⟩, ⟨y1', y2', y3', y4'⟩⟩ := rdr_cells hR10; obtain ⟨⟨t0, t1, t2, t3, t4⟩, ⟨x1', x2', x3', x4'⟩⟩ := rdr_cells hR9; have H9 := Lib.hid (And.intro hown9 (And.intro hf9 (And.intro hR9 hR10))); clear hown9 hg9 hat9 hf9 hR9 hR10)
          have hW9 := H9.out.2.2.1;have hne : ∀ {v : Value} {e : TypeId} {size n : Nat} {xs : List Value}, w9.ownsRow B e size v n xs → e ≠ 71 → some R ≠ v.ownBlock := fun o h => own_ne o hW9 h
          have hD9 := H9.out.1;have hP9 := own_fr HCu2.out.2.1 H9.out.2.1 (fun g hg e => BT.ne (own_bt HCu2.out.2.1 hg) (own_bt HCu2.out.2.2.1 e.symm) (by decide) rfl)
          have hl1 : (dd ++ bd).length = dn + bl := by rw [List.length_append, HDn.out.1, HBl.out]
          have hl2 : (ps ++ [(⟨b, bu, bl, dn⟩ : PE)]).length = pn + 1 := by rw [List.length_append, HDn.out.2]; rfl
          have hb9 := HCu2.out.2.2.2.2.trans (H9.out.2.1.below hsc (fun g hg => (own_lt HCu2.out.2.2.1 hg.symm).1))
          have hJf := HJ.out.f;have hbn := HN.out.2.1.1;have hbo := HN.out.2.2.1;have hnb := HN.out.1;have hx4 := HX4.out;rw [hnb, HBl.out] at hx4;have hbi : BlI S T Rr E B R (some ⟨ab, ao, none⟩) m c l k mem X w fv nb a2 c2 (dd ++ bd) P2 pc2 (ps ++ [⟨b, bu, bl, dn⟩]) ((w9.setCell ⟨R, 3, none⟩ (.slice a2 (dn + bl) c2)).setCell ⟨R, 1, none⟩ (.int .i64 nb)) := by
           refine ⟨?_, ?_, ?_, by rw [hl1]; exact HN.out.2.2.2.1, by rw [hl2]; omega, ?_, ?_, by omega, (HKc.out.fr H9.out.2.1 (fun g hg => .inr (.inl (own_bt HCu2.out.2.2.1 hg.symm)))).fr ((Fr.refl _ _).set1 3 _ |>.set1 1 _) (fun g hg => .inl (by have hg : g = R := hg; rw [hg]; exact ⟨_, hW9⟩)), (hb9.setCell (p := ⟨R, 3, none⟩) HC.out.2.2.2.1 _).setCell (p := ⟨R, 1, none⟩) HC.out.2.2.2.1 _, hnbm⟩
           · rw [hl1, hl2];exact H9.out.2.2.2.set_ 1 _
           · rw [hl1, bys_append];exact own_far (own_far hD9 (p := ⟨R, 3, none⟩) (hne hD9 (by decide)) _) (p := ⟨R, 1, none⟩) (hne hD9 (by decide)) _
           · rw [hl2];exact own_far (own_far hP9 (p := ⟨R, 3, none⟩) (hne hP9 (by decide)) _) (p := ⟨R, 1, none⟩) (hne hP9 (by decide)) _
           · intro p hp;rcases List.mem_append.1 hp with hp | hp
             · exact HJ.out.q p hp
             · simp at hp;subst hp;show bu < _ ∧ bl < _;omega
           · rw [show pesR (ps ++ [(⟨b, bu, bl, dn⟩ : PE)]) = pesR ps ++ [(bu, bl)] by simp [pesR]]
             exact hx4
          refine ⟨Lib.hid ⟨_, _, _, _, _, _, _, _, hbi⟩, ?_⟩;have e1 : atOf R ((w9.setCell ⟨R, 3, none⟩ (.slice a2 (dn + bl) c2)).setCell ⟨R, 1, none⟩ (.int .i64 nb)) = nb := by
           unfold atOf;rw [show World.cell? _ ⟨R, 1, none⟩ = some (.int .i64 nb) from hbi.r.cell 1]
           simp [intOf]
          have e2 : atOf R wr = b := by
           unfold atOf;rw [show wr.cell? ⟨R, 1, none⟩ = some (.int .i64 b) from HJ.out.r.cell 1]
           simp [intOf]
          rw [e1, e2];omega
      ·
       have H0e := Lib.hid h0;have HXr := Lib.hid (show X.e = be by rw [← HX3.out, if_pos h0])
       have g3 : ((be : Int) != 0) = true := by rw [bne_iff_ne]; omega
       have g4 : (be != 0) = true := by rw [bne_iff_ne]; exact h0
       have hbe1 : 1 ≤ be ∧ be ≤ 9 := by omega
       clear h0 HX3;go_wp2_with fail
       go_region
       go_wp2_with fail
       go_region
       go_wp2_with fail
       go_region_held3 (fun w' => w'.cell? ⟨R, 0, none⟩ = some (.slice (some ⟨ab, ao, none⟩) m c) ∧ w'.cell? ⟨R, 1, none⟩ = some (.int .i64 b) ∧ w'.cell? ⟨R, 2, none⟩ = some (.int .i64 k))
        (first | (with_reducible exact ⟨o0, o1, o2⟩) | (with_reducible exact ⟨q0, q1, q2⟩) | (with_reducible exact ⟨y0, y1, y2⟩) | go_keep)
        (first | (go_at_call 69; refine (HBk.out wr.drew.drew.drew HW1.out).mono ?_; rintro e w5 ⟨hb5, he⟩; rw [if_neg H0e.out] at he; subst he; have hr5 := HJ.out.r.drew.drew.drew.below hb5; obtain ⟨⟨y0, y1, y2, y3, y4⟩, _⟩ := rdr_cells hr5; have H5 := Lib.hid (show Below B w w5 ∧ Blk w5 R 71 (rdrC (some ⟨ab, ao, none⟩) m c b k D dd.length dc P ps.length pc) from ⟨HW1.out.trans (hb5.mono (Nat.le_trans HC.out.2.2.2.2.2 HW1.out.size)), hr5⟩); clear hb5 hr5) | (go_at_call 69; refine (HBk.out _ HW2.out).mono ?_; rintro e w5 ⟨hb5, he⟩; rw [if_neg H0e.out] at he; subst he; have hr5 := HRa.out.below hb5; obtain ⟨⟨y0, y1, y2, y3, y4⟩, _⟩ := rdr_cells hr5; have hv5 := HVa.out.below hb5; obtain ⟨v0, v1⟩ := hv5.two; have vf0 := hv5.frozen 0; have vf1 := hv5.frozen 1; have H5 := Lib.hid (show Below B w w5 ∧ Blk w5 R 71 (rdrC (some ⟨ab, ao, none⟩) m c b k D dd.length dc P ps.length pc) from ⟨HW2.out.trans (hb5.mono (Nat.le_trans HC.out.2.2.2.2.2 HW2.out.size)), hr5⟩); clear hb5 hr5 hv5))
       all_goals go_wp2_with fail
       all_goals
        refine (HF.out _ be _ (by first | exact H5.out.1.alloc (Nat.le_trans HC.out.2.2.2.2.2 H5.out.1.size) _ | exact (H5.out.1.setCell (p := ⟨wr.heap.size, 0, none⟩) (Nat.le_trans HC.out.2.2.2.2.2 HB0.out.size) _).setCell (p := ⟨wr.heap.size, 1, none⟩) (Nat.le_trans HC.out.2.2.2.2.2 HB0.out.size) _) hbe1.1 hbe1.2).mono ?_
        rintro e w7 ⟨vv, rfl, hv, hb7⟩;have hbz : Below B w w7 := (show Below B w _ by first | exact H5.out.1.alloc (Nat.le_trans HC.out.2.2.2.2.2 H5.out.1.size) _ | exact (H5.out.1.setCell (p := ⟨wr.heap.size, 0, none⟩) (Nat.le_trans HC.out.2.2.2.2.2 HB0.out.size) _).setCell (p := ⟨wr.heap.size, 1, none⟩) (Nat.le_trans HC.out.2.2.2.2.2 HB0.out.size) _).trans (hb7.mono (by simp; exact Nat.le_trans HC.out.2.2.2.2.2 (by first | exact Nat.le_trans H5.out.1.size (by omega) | exact H5.out.1.size)))
        have H7 := Lib.hid (And.intro hv hbz);clear hv hb7 hbz;go_wp2_with fail;go_ret;exact sb_no HXr.out H0e.out H7.out.2 H7.out.1
end Go.Proofs.YtcjehjdehdoaeaaGreatDoor
