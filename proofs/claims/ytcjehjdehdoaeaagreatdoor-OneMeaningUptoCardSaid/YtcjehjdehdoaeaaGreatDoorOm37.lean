/-
  Laws on the way to the claim (OsJ OtA). Conditions: those that each theorem states.
-/
import Derived.Test.YtcjehjdehdoaeaaGreatDoorOm36
import Derived.Test.YtcjehjdehdoaeaaGreatDoorOm32
import Derived.LaidEql
import Derived.Stop.Asserts
import Derived.RowKitTokens
set_option linter.unusedVariables false
set_option linter.unusedSimpArgs false
set_option maxRecDepth 1000000
set_option maxHeartbeats 16000000
namespace Go.Proofs.YtcjehjdehdoaeaaGreatDoor
open Go.RowKit
theorem blockF_bh (S : Sums) (b : List UInt8) (kind : Nat) (mem : Int) : blockF S b kind mem = if (bhF S b mem).e ≠ 0 then .no 0 (bhF S b mem).e else blockD S b kind (hdLen b) (bhF S b mem) := by
 unfold blockF bhF;by_cases h1 : b.length < hdLen b
 · simp [h1, HR.no]
 · simp only [h1, if_false];by_cases h2 : (headF S (b.take (hdLen b))).e = 0
   · simp only [h2, ne_eq, not_true, if_false];by_cases h3 : mem < ((headF S (b.take (hdLen b))).p.dict : Int)
     · simp [h3, HR.no]
     · simp [h3, h2]
   · simp [h2, HR.no]
theorem bhF_ok (S : Sums) (b : List UInt8) (mem : Int) (h : (bhF S b mem).e = 0) : readF (bhF S b mem).fl = some (bhF S b mem).p ∧ -1 ≤ (bhF S b mem).packed ∧ -1 ≤ (bhF S b mem).size ∧ ((bhF S b mem).p.dict : Int) ≤ mem ∧ hdLen b ≤ b.length := by
 unfold bhF at h ⊢;split
 · rename_i h1; rw [if_pos h1] at h; simp [HR.no] at h
 rename_i h1;rw [if_neg h1] at h;split
 · rename_i h2; rw [if_pos h2] at h; exact absurd h h2
 rename_i h2;rw [if_neg h2] at h;split
 · rename_i h3; rw [if_pos h3] at h; simp [HR.no] at h
 rename_i h3;rw [if_neg h3] at h;obtain ⟨a1, a2, a3⟩ := headF_read S (b.take (hdLen b)) h;exact ⟨a1, a2, a3, by omega, by omega⟩
def BkPost (r : BR) (w : World) (e : Ending) (w' : World) : Prop :=
 Below w.heap.size w w' ∧ if r.e = 0 then ∃ A c, e = .returned (.tuple #[.slice A r.data.length c, .agg #[.int .i64 r.unp, .int .i64 r.data.length], .int .i64 r.n, .int .i64 0]) ∧ In w' A r.data.length r.data ∧ ∀ ad, A = some ad → w.heap.size ≤ ad.block
 else e = .returned (.tuple #[.slice none 0 0, .agg #[.int .i64 0, .int .i64 0], .int .i64 r.n, .int .i64 r.e])
theorem bk_no {a : Act} {w wz : World} {W n k : Nat} {r : BR} (hr : r = BR.no n k) (hk : k ≠ 0)
 (ht : a.tmps[6]? = some (.slice none 0 0) ∧ a.tmps[7]? = some (.pointer (some ⟨W, 0, none⟩)) ∧ a.tmps[8]? = some (.int .i64 (n : Int)) ∧ a.tmps[9]? = some (.int .i64 (k : Int))) (hd : a.defers = [])
 (hW : Blk wz W 61 #[.int .i64 0, .int .i64 0]) (hb : Below w.heap.size w wz) : bodyPost Tryz.prog Tryz.f69 (BkPost r w) .ret a wz := by
 obtain ⟨c0, c1⟩ := hW.two;refine bodyPost_ret (v := .tuple #[.slice none 0 0, .agg #[.int .i64 0, .int .i64 0], .int .i64 n, .int .i64 k]) (by simp [results, Tryz.results69, go_sem, ht.1, ht.2.1, ht.2.2.1, ht.2.2.2, c0, c1]) hd ⟨hb, ?_⟩
 rw [hr, if_neg (show ¬ (BR.no n k).e = 0 from hk)]
 rfl
theorem rec_put {W : Nat} {w : World} {x y x' y' : Int} (h : Blk w W 61 #[.int .i64 x, .int .i64 y]) :
 Blk ((w.setCell ⟨W, 0, none⟩ (.int .i64 x')).setCell ⟨W, 1, none⟩ (.int .i64 y')) W 61 #[.int .i64 x', .int .i64 y'] ∧ Fr (fun g => g = W) w ((w.setCell ⟨W, 0, none⟩ (.int .i64 x')).setCell ⟨W, 1, none⟩ (.int .i64 y')) :=
 ⟨(h.set_ 0 _).set_ 1 _, Fr.set1 (Fr.set1 (Fr.refl _ _) 0 _) 1 _⟩
theorem bDec_any (S : Sums) (T R : Nat → Int) (hS : S.c32 = crc32) (hS2 : S.dl = deltaL) (hS3 : S.sum = ckSum T R) (A : Option Addr) (m c : Nat) (l : List UInt8) (kind : Nat) (mem : Int) (w : World) (hI : In w A m l) (hc : m ≤ c) (hc63 : c ≤ 9223372036854775807) (h1 : 1 ≤ m) (hm : m ≤ 1048576) (h0 : (l.getD 0 0).toNat ≠ 0)
 (hA : ∀ ad, A = some ad → ad.block < w.heap.size) (hk : kindOk kind) (hL : LaidS T R w) (hl : Laid w) (hM : LaidM w) :
 Calls Tryz.prog 69 #[.slice A m c, .int .i64 kind, .int .i64 mem] w (BkPost (blockF S l kind mem) w) := by
 have hlm := hI.len;obtain ⟨X, hX⟩ : ∃ z, blockF S l kind mem = z := ⟨_, rfl⟩;rw [hX];rw [blockF_bh] at hX;obtain ⟨W, hW⟩ : ∃ x, w.heap.size = x := ⟨_, rfl⟩;obtain ⟨w1, hw1⟩ : ∃ x, w.alloc (.cells #[.int .i64 0, .int .i64 0] 61) = x := ⟨_, rfl⟩;have hb1 : Below w.heap.size w w1 := by rw [← hw1]; exact (Below.refl _ _).alloc (Nat.le_refl _) _
 have hW1 : Blk w1 W 61 #[.int .i64 0, .int .i64 0] := by rw [← hw1]; exact Blk.new_at hW.symm
 have HRd := Lib.hid (ckRead_any kind w1 (hL.f.below hb1));rw [show ckReadE kind = 0 from if_pos hk] at HRd
 have HBh := Lib.hid (fun w2 (hb2 : Below w.heap.size w w2) => bhdr_any S hS A m c l mem w2 (hI.below hb2) hc hc63 h1 h0 (hL.c.below hb2))
 have hok := bhF_ok S l mem;rw [hlm] at hok;have HI := Lib.hid (And.intro hI (And.intro hA (And.intro hL (And.intro hl (And.intro hM hk)))));have HC := Lib.hid (And.intro hc (And.intro hc63 hm));obtain ⟨N, hN⟩ : ∃ x, hdLen l = x := ⟨_, rfl⟩;obtain ⟨G, hG⟩ : ∃ x, bhF S l mem = x := ⟨_, rfl⟩;rw [hN, hG] at HBh hX hok;have HX := Lib.hid hX;have HK := Lib.hid hok;have HW := Lib.hid (And.intro hw1 hW);have H1 := Lib.hid (And.intro hb1 hW1)
 clear hI hlm hX hw1 hW hb1 hW1 hok hN hG hA hL hl hM hk hc hc63 h1 hm h0;go_enter Tryz.func69, Tryz.ntmps69;go_upto_region 1 with (fail);rw [HW.out.1, HW.out.2];go_wp2_with fail;refine HRd.out.mono ?_;rintro e w2 ⟨rfl, hb2⟩;have HB2 := Lib.hid (H1.out.1.trans (hb2.mono H1.out.1.size));have HW2 := Lib.hid (H1.out.2.below hb2);have HBh2 := Lib.hid (HBh.out w2 HB2.out);clear hb2 HBh HRd;go_wp2_with fail
 refine HBh2.out.mono ?_;rintro e w3 ⟨hb3, he⟩;have HB3 := Lib.hid (HB2.out.trans (hb3.mono HB2.out.size));have HW3 := Lib.hid (HW2.out.below hb3);clear hb3 HBh2;by_cases hG0 : G.e = 0
 · rw [if_pos hG0] at he;obtain ⟨Fl, fc, rfl, hF, hn8⟩ := he;obtain ⟨hrd, hp1, hs1, hmem, hNm⟩ := HK.out hG0;have HX2 := Lib.hid (show blockD S l kind N G = X by rw [← HX.out, if_neg (fun h => h hG0)])
   obtain ⟨ge, gp, gs, gf, gq⟩ := G;simp only [] at hG0 hrd hp1 hs1 hmem hF hn8 ⊢;subst hG0;obtain ⟨fn, hfn⟩ : ∃ x, gf.length = x := ⟨_, rfl⟩;rw [hfn] at hF hn8 ⊢;obtain ⟨V, hV⟩ : ∃ x, w3.heap.size = x := ⟨_, rfl⟩;obtain ⟨w4, hw4⟩ : ∃ x, w3.alloc (.cells #[.int .i64 gp, .int .i64 gs, .slice Fl fn fc, .int .i64 N] 91) = x := ⟨_, rfl⟩;have hb4 : Below w3.heap.size w3 w4 := by rw [← hw4]; exact (Below.refl _ _).alloc (Nat.le_refl _) _
   have hV4 : Blk w4 V 91 (hdV gp gs Fl fn fc N) := by rw [← hw4]; exact Blk.new_at hV.symm
   have hW4 := HW3.out.below hb4;have hb := HB3.out.trans (hb4.mono HB3.out.size);obtain ⟨A2, hA2⟩ : ∃ x, (if c = N then A else A.map (·.add N)) = x := ⟨_, rfl⟩
   have hI4 := (HI.out.1.below hb).cut (k := N) hNm HC.out.1;rw [hA2] at hI4;have hA4 : ∀ ad, A2 = some ad → ad.block < w4.drew.heap.size := fun ad had => by
    rw [← hA2] at had;have hs := hb.size;show _ < w4.heap.size;split at had
    · exact Nat.lt_of_lt_of_le (HI.out.2.1 _ had) hs
    · obtain ⟨x, hx1, hx2⟩ := Option.map_eq_some_iff.1 had;rw [← hx2, block_add];exact Nat.lt_of_lt_of_le (HI.out.2.1 _ hx1) hs
   have hlow := HI.out.2.2.2.1;have hCD := CDecode_any S hS2 A2 (m - N) (c - N) (l.drop N) mem gp gs Fl fn fc gf gq w4.drew (hI4.below (Below.refl _ _).drew) (by have := HC.out; omega) hA4 (hlow.low (hb.drew) hlow.1) (HI.out.2.2.2.2.1.low (hb.drew) HI.out.2.2.2.2.1.1) (by have := HC.out; omega) hrd hmem ((hF.below hb4).below (Below.refl _ _).drew) (by omega) hp1 hs1
   have hDn : (dataF S (l.drop N) gq gp gs).n ≤ m - N := by
    have h1 : (dataF S (l.drop N) gq gp gs).n = (rowF (l.drop N) gq.dict gp gs).n := by unfold dataF; split <;> rfl
    have h2 := rowF_len (l.drop N) gq.dict gp gs;rw [List.length_drop, HI.out.1.len] at h2;omega
   have hDo := dataF_out S hS2 (l.drop N) gq gp gs;rw [List.length_drop, HI.out.1.len] at hDo;unfold blockD at HX2;simp only [] at HX2;obtain ⟨D, hD⟩ : ∃ x, dataF S (l.drop N) gq gp gs = x := ⟨_, rfl⟩;rw [hD] at hCD hDn hDo HX2;obtain ⟨dn, de, dd⟩ := D;simp only [] at hDn hDo HX2;have HCD := Lib.hid hCD;have HQ := Lib.hid (And.intro hW4 (And.intro hb (And.intro hV4 (And.intro hV hw4))));have c0 : w4.drew.cell? ⟨V, 0, none⟩ = some (.int .i64 gp) := hV4.cell 0
   have c1 : w4.drew.cell? ⟨V, 1, none⟩ = some (.int .i64 gs) := hV4.cell 1;have c2 : w4.drew.cell? ⟨V, 2, none⟩ = some (.slice Fl fn fc) := hV4.cell 2;have c3 : w4.drew.cell? ⟨V, 3, none⟩ = some (.int .i64 N) := hV4.cell 3;have hNc : (N : Int) ≤ (m : Int) := by omega
   have HDo := Lib.hid (show dd.length ≤ 140737488351232 by have := HC.out; omega)
   have hm6 := HC.out.2.2;have HNm := Lib.hid hNm;have HfV := Lib.hid (show W ≠ V by have := HW3.out.lt; omega)
   clear hF hn8 hrd hp1 hs1 hmem hfn hV hw4 hb4 hV4 hW4 hb hI4 hA4 hlow hCD hD hDo HX HK hNm;unfold hdV;by_cases hde : de = 0
   · subst hde;go_upto_region 7 with (fail);rw [HQ.out.2.2.2.1, HQ.out.2.2.2.2]
     go_region_held3 (fun w' => w'.cell? ⟨V, 0, none⟩ = some (.int .i64 gp) ∧ w'.cell? ⟨V, 1, none⟩ = some (.int .i64 gs) ∧ w'.cell? ⟨V, 2, none⟩ = some (.slice Fl fn fc) ∧ w'.cell? ⟨V, 3, none⟩ = some (.int .i64 N))
      (first | (with_reducible exact ⟨c0, c1, c2, c3⟩) | (with_reducible exact ⟨d0, d1, d2, d3⟩) | go_keep)
      (first | (go_at_call 87; refine HCD.out.mono ?_; rintro e w5 ⟨hb5, he⟩; rw [if_pos rfl] at he; obtain ⟨DA, dc, rfl, hID⟩ := he; obtain ⟨⟨d0, d1, d2, d3⟩, _⟩ := hd_cells (HQ.out.2.2.1.drew.below hb5); have H5 := Lib.hid (And.intro hb5 hID); clear hb5 hID))
     have hW5 := HQ.out.1.drew.below H5.out.1;have hB5 := HQ.out.2.1.drew.trans (H5.out.1.mono HQ.out.2.1.drew.size);have HX5 := Lib.hid (show blockT S l kind dd (N + dn) = X by rw [← HX2.out, if_neg (fun h => h rfl)])
     obtain ⟨a, ha⟩ : ∃ x, N + dn = x := ⟨_, rfl⟩;rw [ha] at HX5;unfold blockT at HX5;have ham : a ≤ m := by have := HNm.out; omega
     have wN : IntKind.i64.wrap ((N : Int) + (dn : Int)) = (a : Int) := by rw [IntWalk.i64_in _ (by omega)]; omega
     have hg3 := padI_le a;have HPad := Lib.hid (Pad_any a w5 (by omega))
     obtain ⟨g, hg⟩ : ∃ x, padI a = x := ⟨_, rfl⟩;rw [hg] at hg3 HPad HX5;have HZ := Lib.hid (zeros_any A m c l a g w5 (HI.out.1.below hB5) HC.out.1 ham hg3);have hze := zerosF_take l a g m;rw [HI.out.1.len] at hze;have hze2 := zerosF_err l a g;obtain ⟨ze, hzeq⟩ : ∃ x, zerosF l a g = x := ⟨_, rfl⟩;rw [hzeq] at HZ HX5 hze hze2;obtain ⟨r0, r1⟩ := hW5.two;have f0 := hW5.frozen 0;have f1 := hW5.frozen 1
     have HW5 := Lib.hid hW5;have HB5 := Lib.hid hB5;have HD := Lib.hid H5.out.2.1;have HFh := Lib.hid (fun ad (had : DA = some ad) => show w.heap.size ≤ ad.block from Nat.le_trans HQ.out.2.1.size (H5.out.2.2 ad had))
     obtain ⟨dk, hdk⟩ : ∃ x, dd.length = x := ⟨_, rfl⟩;have HDk := Lib.hid hdk;rw [hdk] at HD ⊢;clear hW5 hB5 ha hg hzeq hdk HX2 hDn;by_cases hz0 : ze = 0
     · have hpm : a + g ≤ m := (hze hz0 ham ham).1;have HX6 := Lib.hid (show blockS S l kind dd a (a + g) = X by have := HX5.out; rw [if_neg (fun h => h hz0)] at this; exact this)
       subst hz0;obtain ⟨pt, hpt⟩ : ∃ x, a + g = x := ⟨_, rfl⟩;have wP : IntKind.i64.wrap ((a : Int) + (g : Int)) = (pt : Int) := by rw [IntWalk.i64_in _ (by omega)]; omega
       rw [hpt] at HX6 hpm;have HSz := Lib.hid (fun w' (hb : Below w.heap.size w w') => ckSize_any kind w' (HI.out.2.2.1.z.below hb) HI.out.2.2.2.2.2)
       have hsz : ckSize kind ≤ 32 := by rcases HI.out.2.2.2.2.2 with h | h | h | h <;> rw [h] <;> decide
       unfold blockS at HX6;rw [HI.out.1.len, hS3] at HX6;obtain ⟨sz, hszq⟩ : ∃ x, ckSize kind = x := ⟨_, rfl⟩;rw [hszq] at HSz hsz HX6;obtain ⟨u, hu⟩ : ∃ x, a + sz = x := ⟨_, rfl⟩;have wS : IntKind.i64.wrap ((a : Int) + (sz : Int)) = (u : Int) := by rw [IntWalk.i64_in _ (by omega)]; omega
       obtain ⟨rr, hrr⟩ : ∃ x, m - pt = x := ⟨_, rfl⟩;have wL : IntKind.i64.wrap ((m : Int) - (pt : Int)) = (rr : Int) := by rw [IntWalk.i64_in _ (by omega)]; omega
       rw [hu, hrr] at HX6;obtain ⟨Q, hQ⟩ : ∃ x, w5.heap.size = x := ⟨_, rfl⟩;obtain ⟨w6, hw6⟩ : ∃ x, w5.alloc (.cells #[.int .i64 u, .int .i64 dk] 61) = x := ⟨_, rfl⟩;have hb6 : Below w5.heap.size w5 w6 := by rw [← hw6]; exact (Below.refl _ _).alloc (Nat.le_refl _) _
       have hQ6 : Blk w6 Q 61 #[.int .i64 u, .int .i64 dk] := by rw [← hw6]; exact Blk.new_at hQ.symm
       have hW6 := HW5.out.below hb6;have hWQ : W ≠ Q := by have := HW5.out.lt; omega
       have HB6 := Lib.hid (HB5.out.trans (hb6.mono HB5.out.size));have HD6 := Lib.hid (HD.out.below hb6);have H6 := Lib.hid (And.intro hW6 (And.intro hQ6 (And.intro hWQ (And.intro hQ hw6))));have HPt := Lib.hid (And.intro hpt (And.intro hu (And.intro hrr hszq)));have hmn : 0 ≤ (m : Int) := by omega
       clear hpt hu hrr hszq hQ hw6 hb6 hQ6 hW6 hWQ hze hze2 HX5;by_cases hlt : rr < sz
       · have HXr := Lib.hid (show X = BR.no pt 1 by rw [← HX6.out, if_pos hlt])
         have k1 : (rr : Int) < (sz : Int) := by omega
         have k2 : decide ((rr : Int) < (sz : Int)) = true := decide_eq_true k1;obtain ⟨r0, r1⟩ := H6.out.1.two;have f0 := H6.out.1.frozen 0;have f1 := H6.out.1.frozen 1;clear hlt HX6;go_wp2_with fail;refine HPad.out.mono ?_;rintro e wx ⟨rfl, hwx⟩;rw [hwx];clear hwx;go_wp2_with fail;refine HZ.out.mono ?_;rintro e wx ⟨rfl, hwx⟩;rw [hwx];clear hwx;go_wp2_with fail;refine (HSz.out w5 HB5.out).mono ?_
         rintro e wx ⟨rfl, hwx⟩;rw [hwx];clear hwx;go_upto_region 19 with (fail);rw [H6.out.2.2.2.1, H6.out.2.2.2.2];go_wp2_with fail;exact bk_no (n := pt) (k := 1) HXr.out (by decide) ⟨rfl, rfl, rfl, rfl⟩ rfl (rec_put H6.out.1).1 (HB6.out.trans ((rec_put H6.out.1).2.below HB6.out.size (fun g hg => by have hg : g = W := hg; have := HW.out.2; omega)))
       · have k1 : ¬ (rr : Int) < (sz : Int) := by omega
         have k2 : decide ((rr : Int) < (sz : Int)) = false := decide_eq_false k1;have HX7 := Lib.hid (show (if sameE (ckSum T R kind dd) ((l.drop pt).take sz) ≠ 0 then BR.no pt (sameE (ckSum T R kind dd) ((l.drop pt).take sz)) else ⟨dd, u, pt + sz, 0⟩) = X by have := HX6.out; rw [if_neg hlt] at this; exact this)
         obtain ⟨q, hq⟩ : ∃ x, pt + sz = x := ⟨_, rfl⟩;have wE : IntKind.i64.wrap ((pt : Int) + (sz : Int)) = (q : Int) := by rw [IntWalk.i64_in _ (by omega)]; omega
         rw [hq] at HX7;have hqm : q ≤ m ∧ pt ≤ q := by have := HPt.out; omega
         have y2 : (pt : Int) ≤ (q : Int) := by omega
         have y3 : (q : Int) ≤ (c : Int) := by have := HC.out; omega
         have hqs : q - pt = sz := by omega
         obtain ⟨A3, hA3⟩ : ∃ x, (if c = pt then A else A.map (·.add pt)) = x := ⟨_, rfl⟩
         have hI3 := ((HI.out.1.below HB6.out).cut (k := pt) hpm HC.out.1).take (k := sz) (by have := HPt.out; omega)
         rw [hA3] at hI3;have HSa := Lib.hid (Same_any T R kind DA A3 dk dc sz (c - pt) dd ((l.drop pt).take sz) w6 HD6.out hI3 (HI.out.2.2.1.below HB6.out) HI.out.2.2.2.2.2);obtain ⟨se, hse⟩ : ∃ x, sameE (ckSum T R kind dd) ((l.drop pt).take sz) = x := ⟨_, rfl⟩;rw [hse] at HSa HX7;clear hlt HX6 hI3 hq hse;go_wp2_with fail;refine HPad.out.mono ?_;rintro e wx ⟨rfl, hwx⟩;rw [hwx];clear hwx;go_wp2_with fail
         refine HZ.out.mono ?_;rintro e wx ⟨rfl, hwx⟩;rw [hwx];clear hwx;go_wp2_with fail;refine (HSz.out w5 HB5.out).mono ?_;rintro e wx ⟨rfl, hwx⟩;rw [hwx];clear hwx;go_upto_region 19 with (fail);rw [H6.out.2.2.2.1, H6.out.2.2.2.2];go_wp2_with fail;refine HSa.out.mono ?_;rintro e w7 ⟨rfl, hb7⟩;have hW7 := H6.out.1.below hb7;have hQ7 := H6.out.2.1.below hb7;have HB7 := Lib.hid (HB6.out.trans (hb7.mono HB6.out.size))
         have HD7 := Lib.hid (HD6.out.below hb7);obtain ⟨r0, r1⟩ := hW7.two;obtain ⟨t0, t1⟩ := hQ7.two;have f0 := hW7.frozen 0;have f1 := hW7.frozen 1;have HW7 := Lib.hid hW7;have hWQ := H6.out.2.2.1;have hQW : ¬ Q = W := fun e => hWQ e.symm
         clear hb7 hW7 hQ7;by_cases hse : se = 0
         · subst hse;have HXr := Lib.hid (show X = ⟨dd, u, q, 0⟩ by rw [← HX7.out, if_neg (fun h => h rfl)])
           clear HX7;go_wp2_with fail
           go_region
           all_goals
            go_wp2_with fail;obtain ⟨z0, z1⟩ := (rec_put (x' := u) (y' := dk) HW7.out).1.drew.two;refine bodyPost_ret (v := .tuple #[.slice DA dk dc, .agg #[.int .i64 u, .int .i64 dk], .int .i64 q, .int .i64 0]) (by simp [results, Tryz.results69, go_sem, z0, z1]) rfl ?_
            have hf := (rec_put (x' := u) (y' := dk) HW7.out).2.drew;refine ⟨HB7.out.trans (hf.below HB7.out.size (fun g hg => by have hg : g = W := hg; have := HW.out.2; omega)), ?_⟩
            rw [HXr.out, if_pos rfl];simp only [];rw [HDk.out];exact ⟨DA, dc, rfl, HD7.out.fr hf (fun h0 ad had => in_far HD7.out h0 had HW7.out (by intro j v hv; rcases j with _ | _ | j <;> simp at hv <;> subst hv <;> rfl)), HFh.out⟩
         · have HXr := Lib.hid (show X = BR.no pt se by rw [← HX7.out, if_pos hse])
           have H0 := Lib.hid hse;have x1 : ((se : Int) != 0) = true := by rw [bne_iff_ne]; omega
           have x2 : (se != 0) = true := by rw [bne_iff_ne]; exact hse
           clear hse HX7;go_wp2_with fail;exact bk_no (n := pt) (k := se) HXr.out H0.out ⟨rfl, rfl, rfl, rfl⟩ rfl (rec_put HW7.out).1 (HB7.out.trans ((rec_put HW7.out).2.below HB7.out.size (fun g hg => by have hg : g = W := hg; have := HW.out.2; omega)))
     · have HXr := Lib.hid (show X = BR.no a ze by rw [← HX5.out, if_pos hz0])
       have H0 := Lib.hid hz0;have x1 : ((ze : Int) != 0) = true := by rw [bne_iff_ne]; omega
       have x2 : (ze != 0) = true := by rw [bne_iff_ne]; exact hz0
       clear hz0 HX5 hze hze2;go_wp2_with fail;refine HPad.out.mono ?_;rintro e wx ⟨rfl, hwx⟩;rw [hwx];clear hwx;go_wp2_with fail;refine HZ.out.mono ?_;rintro e wx ⟨rfl, hwx⟩;rw [hwx];clear hwx;go_wp2_with fail;exact bk_no (n := a) (k := ze) HXr.out H0.out ⟨rfl, rfl, rfl, rfl⟩ rfl (rec_put HW5.out).1 (HB5.out.trans ((rec_put HW5.out).2.below HB5.out.size (fun g hg => by have hg : g = W := hg; have := HW.out.2; omega)))
   · have HXr := Lib.hid (show X = BR.no (N + dn) de by rw [← HX2.out, if_pos hde])
     have H0 := Lib.hid hde;obtain ⟨a, ha⟩ : ∃ x, N + dn = x := ⟨_, rfl⟩;rw [ha] at HXr;have wN : IntKind.i64.wrap ((N : Int) + (dn : Int)) = (a : Int) := by rw [IntWalk.i64_in _ (by omega)]; omega
     have x1 : ((de : Int) != 0) = true := by rw [bne_iff_ne]; omega
     have x2 : (de != 0) = true := by rw [bne_iff_ne]; exact hde
     clear ha;go_upto_region 7 with (fail);rw [HQ.out.2.2.2.1, HQ.out.2.2.2.2]
     go_region_held3 (fun w' => w'.cell? ⟨V, 0, none⟩ = some (.int .i64 gp) ∧ w'.cell? ⟨V, 1, none⟩ = some (.int .i64 gs) ∧ w'.cell? ⟨V, 2, none⟩ = some (.slice Fl fn fc) ∧ w'.cell? ⟨V, 3, none⟩ = some (.int .i64 N))
      (first | (with_reducible exact ⟨c0, c1, c2, c3⟩) | (with_reducible exact ⟨d0, d1, d2, d3⟩) | go_keep)
      (first | (go_at_call 87; refine HCD.out.mono ?_; rintro e w5 ⟨hb5, he⟩; rw [if_neg H0.out] at he; obtain rfl := he; obtain ⟨⟨d0, d1, d2, d3⟩, _⟩ := hd_cells (HQ.out.2.2.1.drew.below hb5); have H5 := Lib.hid hb5; clear hb5))
     have hW5 := HQ.out.1.drew.below H5.out;obtain ⟨r0, r1⟩ := hW5.two;have f0 := hW5.frozen 0;have f1 := hW5.frozen 1;have HW5 := Lib.hid hW5;have HB5 := Lib.hid (HQ.out.2.1.drew.trans (H5.out.mono HQ.out.2.1.drew.size));clear hW5 hde;go_wp2_with fail;exact bk_no (n := a) (k := de) HXr.out H0.out ⟨rfl, rfl, rfl, rfl⟩ rfl (rec_put HW5.out).1 (HB5.out.trans ((rec_put HW5.out).2.below HB5.out.size (fun g hg => by have hg : g = W := hg; have := HW.out.2; omega)))
 · rw [if_neg hG0] at he;subst he;have HXr := Lib.hid (show X = BR.no 0 G.e by rw [← HX.out, if_pos hG0])
   obtain ⟨k, hk⟩ : ∃ x, G.e = x := ⟨_, rfl⟩;rw [hk] at HXr hG0 ⊢;have x1 : ((k : Int) != 0) = true := by rw [bne_iff_ne]; omega
   have x2 : (k != 0) = true := by rw [bne_iff_ne]; exact hG0
   have H0 := Lib.hid hG0;obtain ⟨w4, hw4⟩ : ∃ x, w3.alloc (.cells #[.int .i64 0, .int .i64 0, .slice none 0 0, .int .i64 0] 91) = x := ⟨_, rfl⟩;have hb4 : Below w3.heap.size w3 w4 := by rw [← hw4]; exact (Below.refl _ _).alloc (Nat.le_refl _) _
   have hW4 := HW3.out.below hb4;obtain ⟨c0, c1⟩ := hW4.two;have f0 := hW4.frozen 0;have f1 := hW4.frozen 1;have HQ := Lib.hid (And.intro hW4 (And.intro (HB3.out.trans (hb4.mono HB3.out.size)) hw4));clear hG0 hk HX hW4 hw4 hb4;unfold hdV;go_upto_region 5 with (fail);rw [HQ.out.2.2];go_wp2_with fail;exact bk_no (n := 0) (k := k) HXr.out H0.out ⟨rfl, rfl, rfl, rfl⟩ rfl (rec_put HQ.out.1).1 (HQ.out.2.1.trans ((rec_put HQ.out.1).2.below HQ.out.2.1.size (fun g hg => by have hg : g = W := hg; have := HW.out.2; omega)))
end Go.Proofs.YtcjehjdehdoaeaaGreatDoor
namespace Go.Proofs.YtcjehjdehdoaeaaGreatDoor
open Go.RowKit Go.Extern.Stop Go.Stop Go.Extern
def gE : Nat → Nat
 | 1 => 1 | 2 => 0 | 3 => 2 | 4 => 3 | 5 => 4 | 6 => 5 | 7 => 6 | 8 => 7 | _ => 8
def eV (E : Nat → Addr) (k : Nat) : Value := .iface 407 (.pointer (some (E k)))
structure LaidE (E : Nat → Addr) (w : World) : Prop where
 c : ∀ k, 1 ≤ k → k ≤ 9 → gE k < w.heap.size ∧ w.cell? ⟨gE k, 0, none⟩ = some (eV E k)
 b : ∀ k, 1 ≤ k → k ≤ 9 → ∃ cs t, w.heap[(E k).block]? = some (.cells cs t (0, 0))
 d : ∀ i j, 1 ≤ i → i ≤ 9 → 1 ≤ j → j ≤ 9 → E i = E j → i = j
theorem LaidE.below {E : Nat → Addr} {w w' : World} (h : LaidE E w) (hb : Below w.heap.size w w') : LaidE E w' :=
 ⟨fun k h1 h2 => ⟨Nat.lt_of_lt_of_le (h.c k h1 h2).1 hb.size, (hb.cell (p := ⟨gE k, 0, none⟩) (h.c k h1 h2).1).trans (h.c k h1 h2).2⟩,
  fun k h1 h2 => by
   obtain ⟨cs, t, e⟩ := h.b k h1 h2;have hlt : (E k).block < w.heap.size := by
    rcases Nat.lt_or_ge (E k).block w.heap.size with h | h
    · exact h
    · rw [Array.getElem?_eq_none h] at e; cases e
   exact ⟨cs, t, (hb.block _ hlt).trans e⟩, h.d⟩
theorem isTypeOf (v : Value) (w : World) : (Extern.ReflectliteType.typeOf #[.iface 407 v]).run Tryz.prog w = .ok (.iface 171 (.agg #[.pointer (some ⟨20, 407, none⟩)])) w := by kernel_rfl
def cmpM : Array Value → Sem Value := Extern.ReflectliteType.method fun t => do Go.Extern.Rtype.noPackHeld "Comparable" t; pure (.bool (← typeInfo t).comparable)
theorem isComparable (w : World) : (cmpM #[.agg #[.pointer (some ⟨20, 407, none⟩)]]).run Tryz.prog w = .ok (.bool true) w := by kernel_rfl
theorem isMethodComparable (v : Value) (w : World) : (Go.method 558 171 v "Comparable").run Tryz.prog w = .ok (271, v) w := by kernel_rfl
theorem isComp : (Tryz.prog.info? 407).map (·.comparable) = some true := by kernel_rfl
theorem isSize : (Tryz.prog.info? 444).map (·.size) = some 1 := by kernel_rfl
theorem noIsE (v : Value) (xT : TypeId) (w : World) : (Instr.typeAssert (.iface 407 v) xT 173 true).run Tryz.prog w = .ok (.tuple #[.nilIface, .bool false]) w := run_typeAssert_lacksB Tryz.underlying173 (by kernel_rfl) (by kernel_rfl) v xT w
theorem noUnwrapE (v : Value) (xT : TypeId) (w : World) : (Instr.typeAssert (.iface 407 v) xT 176 true).run Tryz.prog w = .ok (.tuple #[.nilIface, .bool false]) w := run_typeAssert_lacksB Tryz.underlying176 (by kernel_rfl) (by kernel_rfl) v xT w
theorem noUnwrapsE (v : Value) (xT : TypeId) (w : World) : (Instr.typeAssert (.iface 407 v) xT 178 true).run Tryz.prog w = .ok (.tuple #[.nilIface, .bool false]) w := run_typeAssert_lacksB Tryz.underlying178 (by kernel_rfl) (by kernel_rfl) v xT w
theorem noIsF (v : Value) (xT : TypeId) (w : World) : (Instr.typeAssert (.iface 80 v) xT 173 true).run Tryz.prog w = .ok (.tuple #[.nilIface, .bool false]) w := run_typeAssert_lacksB Tryz.underlying173 (by kernel_rfl) (by kernel_rfl) v xT w
theorem hasUnwrapF (v : Value) (xT : TypeId) (w : World) : (Instr.typeAssert (.iface 80 v) xT 176 true).run Tryz.prog w = .ok (.tuple #[.iface 80 v, .bool true]) w := run_typeAssert_hasB Tryz.underlying176 (by kernel_rfl) v xT w
theorem methodUnwrap (v : Value) (w : World) : (Go.method 558 80 v "Unwrap").run Tryz.prog w = .ok (265, v) w := by kernel_rfl
theorem is_fault_same (F : Nat) (b : Addr) (w : World) (h1 : w.cell? ⟨F, 1, none⟩ = some (.iface 407 (.pointer (some b)))) :
 Calls Tryz.prog 45 #[.iface 80 (.pointer (some ⟨F, 0, none⟩)), .iface 407 (.pointer (some b))] w fun e w' => e = .returned (.bool true) ∧ w' = w := by
 obtain ⟨i, hi, hcmp⟩ := Option.map_eq_some_iff.1 isComp;obtain ⟨j, hj, hjs⟩ := Option.map_eq_some_iff.1 isSize;have h8 := @run_callFunc_extern Tryz.prog 66 _ Extern.ReflectliteType.typeOf Tryz.func66 (by kernel_rfl) (by kernel_rfl) (by kernel_rfl) (by kernel_rfl)
 have h32 := @run_callFunc_extern Tryz.prog 271 _ cmpM Tryz.func271 (by kernel_rfl) (by kernel_rfl) (by kernel_rfl) (by kernel_rfl)
 have tT := isTypeOf;have cT := isComparable;have mR := isMethodComparable;have nE := noIsE;have uE := noUnwrapE;have vE := noUnwrapsE;have nW := noIsF;have uW := hasUnwrapF;have mU := methodUnwrap;have heq := run_eql_iface_ptr_same (P := Tryz.prog) w b Tryz.underlying30 Tryz.underlying407 hi hcmp hj;have hty := run_eql_iface_types (P := Tryz.prog) 80 407 (.pointer (some ⟨F, 0, none⟩)) (.pointer (some b)) Tryz.underlying30 (by decide) w
 go_enter Tryz.func45, Tryz.ntmps45
 go_wp2
 refine wp_loop_rounds 2 ?_;rw [rounds_succ]
 go_wp2
 rw [rounds_succ]
 go_wp2
 go_ret;exact ⟨rfl, rfl⟩
theorem is_fault_other (F : Nat) (a b : Addr) (ca cb : Array Value) (ta tb : TypeId) (w : World) (h1 : w.cell? ⟨F, 1, none⟩ = some (.iface 407 (.pointer (some a)))) (hne : a ≠ b) (ha : w.heap[a.block]? = some (.cells ca ta (0, 0))) (hb : w.heap[b.block]? = some (.cells cb tb (0, 0))) :
 Calls Tryz.prog 45 #[.iface 80 (.pointer (some ⟨F, 0, none⟩)), .iface 407 (.pointer (some b))] w fun e w' => e = .returned (.bool false) ∧ w' = w := by
 obtain ⟨i, hi, hcmp⟩ := Option.map_eq_some_iff.1 isComp;obtain ⟨j, hj, hjs⟩ := Option.map_eq_some_iff.1 isSize;have h8 := @run_callFunc_extern Tryz.prog 66 _ Extern.ReflectliteType.typeOf Tryz.func66 (by kernel_rfl) (by kernel_rfl) (by kernel_rfl) (by kernel_rfl)
 have h32 := @run_callFunc_extern Tryz.prog 271 _ cmpM Tryz.func271 (by kernel_rfl) (by kernel_rfl) (by kernel_rfl) (by kernel_rfl)
 have tT := isTypeOf;have cT := isComparable;have mR := isMethodComparable;have nE := noIsE;have uE := noUnwrapE;have vE := noUnwrapsE;have nW := noIsF;have uW := hasUnwrapF;have mU := methodUnwrap;have heq := run_eql_iface_ptr_other (P := Tryz.prog) w Tryz.underlying30 Tryz.underlying407 hi hcmp hj (by rw [hjs]; decide) hne ha hb
 have hty := run_eql_iface_types (P := Tryz.prog) 80 407 (.pointer (some ⟨F, 0, none⟩)) (.pointer (some b)) Tryz.underlying30 (by decide) w
 go_enter Tryz.func45, Tryz.ntmps45
 go_wp2
 refine wp_loop_rounds 2 ?_;rw [rounds_succ]
 go_wp2
 rw [rounds_succ]
 go_wp2
 go_ret;exact ⟨rfl, rfl⟩
def kdC (E : Nat → Addr) : Array Value := #[eV E 1, .int .i64 1, eV E 2, .int .i64 2, eV E 3, .int .i64 3, eV E 4, .int .i64 4, eV E 5, .int .i64 5, eV E 6, .int .i64 6, eV E 7, .int .i64 7, eV E 8, .int .i64 8, eV E 9, .int .i64 9]
theorem kinds_any (E : Nat → Addr) (w : World) (h : LaidE E w) :
 Calls Tryz.prog 27 #[] w fun e w' => e = .returned (.slice (some ⟨w.heap.size, 0, none⟩) 9 9) ∧ w' = w.alloc (.cells (kdC E) 79) := by
 have c1 := (h.c 1 (by decide) (by decide)).2
 have c2 := (h.c 2 (by decide) (by decide)).2
 have c3 := (h.c 3 (by decide) (by decide)).2
 have c4 := (h.c 4 (by decide) (by decide)).2
 have c5 := (h.c 5 (by decide) (by decide)).2
 have c6 := (h.c 6 (by decide) (by decide)).2
 have c7 := (h.c 7 (by decide) (by decide)).2
 have c8 := (h.c 8 (by decide) (by decide)).2
 have c9 := (h.c 9 (by decide) (by decide)).2
 simp only [gE, eV] at c1 c2 c3 c4 c5 c6 c7 c8 c9;unfold kdC eV;clear h;go_enter Tryz.func27, Tryz.ntmps27;go_wp2_with fail;go_ret;exact ⟨rfl, rfl⟩
end Go.Proofs.YtcjehjdehdoaeaaGreatDoor
