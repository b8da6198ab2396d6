/-
  Laws on the way to the claim (OuR). Conditions: those that each theorem states.
-/
import Derived.Test.YtcjehjdehdoaeaaGreatDoorOm47
set_option linter.unusedVariables false
set_option linter.unusedSimpArgs false
set_option maxRecDepth 1000000
set_option maxHeartbeats 16000000
namespace Go.Proofs.YtcjehjdehdoaeaaGreatDoor
open Go.RowKit
def blP (S : Sums) (c : Cfg) (row d : List UInt8) : List UInt8 := (hdP S (filsP c) ++ row) ++ List.replicate (padI ((hdP S (filsP c)).length + row.length)) 0 ++ S.sum c.ck d
theorem fils_ok (c : Cfg) : (∀ f ∈ filsP c, f.1 < 9223372036854775808 ∧ f.2.length ≤ 1048576) ∧ 1 ≤ (filsP c).length ∧ (filsP c).length ≤ 4 ∧ (hdB (filsP c)).length ≤ 40 := by
 have h1 := (viN_pos 3).2;have h2 := (viN_pos 33).2;have h3 := (viN_pos 1).2;unfold filsP;split
 · refine ⟨fun f hf => ?_, by simp, by simp, ?_⟩
   · simp at hf;subst hf;exact ⟨by simp, by simp⟩
   · simp [hdB, fiP, viP_len];omega
 · refine ⟨fun f hf => ?_, by simp, by simp, ?_⟩
   · simp at hf;rcases hf with rfl | rfl <;> exact ⟨by simp, by simp⟩
   · simp [hdB, fiP, viP_len];omega
theorem hdP_len (S : Sums) (c : Cfg) : 6 ≤ (hdP S (filsP c)).length ∧ (hdP S (filsP c)).length ≤ 64 := by
 have h0 := hdG_len (filsP c) [0, UInt8.ofNat ((filsP c).length - 1)];have h0 : 2 ≤ (hdB (filsP c)).length := h0;have h := (fils_ok c).2.2.2;have h2 := padI_le (hdB (filsP c)).length;unfold hdP hdQ;rw [List.length_append, List.length_set, List.length_append, List.length_replicate, leN_length];omega
theorem ckSum_len (T R : Nat → Int) (k : Nat) (d : List UInt8) : (ckSum T R k d).length ≤ 64 := by
 unfold ckSum
 (repeat' split) <;> simp [leN_length, shaSum, outN_len]
def BePost (S : Sums) (c : Cfg) (row d : List UInt8) (w : World) (e : Ending) (w' : World) : Prop :=
 ∃ A n ca, e = .returned (.tuple #[.slice A n ca, .agg #[.int .i64 ((hdP S (filsP c)).length + row.length + (S.sum c.ck d).length : Nat), .int .i64 d.length], .int .i64 0]) ∧ n = (blP S c row d).length ∧ w'.ownsRow w.heap.size 5 1 (.slice A n ca) n (bys (blP S c row d)) ∧ Below w.heap.size w w'
theorem bEnc_any (S : Sums) (T Rr : Nat → Int) (hS : S.c32 = crc32) (hS3 : S.sum = ckSum T Rr) (c : Cfg) (h : c.Ok) (A : Option Addr) (m ca : Nat) (l row : List UInt8) (w : World) (hI : In w A m l) (hm : m ≤ c.blk) (hrl : row.length ≤ 1000000000000)
 (hR : ∀ W, Below w.heap.size w W → Calls Tryz.prog 32 #[.slice A m ca, .agg #[.int .i64 c.ck, .int .i64 c.dl, .int .i64 c.lc, .int .i64 c.lp, .int .i64 c.pb, .int .i64 c.dict, .int .i64 c.blk, .int .i64 c.mode]] W (Gv row W)) (hl : LaidS T Rr w) (hB : LaidB w) :
 Calls Tryz.prog 20 #[.slice A m ca, .agg #[.int .i64 c.ck, .int .i64 c.dl, .int .i64 c.lc, .int .i64 c.lp, .int .i64 c.pb, .int .i64 c.dict, .int .i64 c.blk, .int .i64 c.mode]] w (BePost S c row l w) := by
 have hlm := hI.len;have hmb := h.b.2;obtain ⟨hf1, hf2, hf3, hf4⟩ := fils_ok c;have HL := Lib.hid (fun W => Legal_any c h W)
 have HOf := Lib.hid (fun W => cOf_any c h W)
 have HPu := Lib.hid (fun A cc W (hi : FlsIn A (filsP c).length (filsP c) W) (hb : Below w.heap.size w W) => hPut_any S hS A (filsP c).length cc (filsP c) W hi hf2 hf3 hf1 (by have := padI_le (hdB (filsP c)).length; omega) (hB.below hb) (hl.c.below hb))
 have HR := Lib.hid hR;have HCk := Lib.hid (fun W (hb : Below w.heap.size w W) => ckSum_any T Rr c.ck W.heap.size 1 A m ca l (W.alloc (.cells #[.slice A m ca] 22)) ((Blk.new _ _ _).cell 0) ((hI.below hb).below ((Below.refl _ _).alloc (Nat.le_refl _) _)) ((hl.below hb).below ((Below.refl _ _).alloc (Nat.le_refl _) _)) h.k)
 have hh64 := hdP_len S c;have HPost : Hid (∀ e w', (∃ A n ca, e = .returned (.tuple #[.slice A n ca, .agg #[.int .i64 ((hdP S (filsP c)).length + row.length + (ckSum T Rr c.ck l).length : Nat), .int .i64 m], .int .i64 0]) ∧ n = (hdP S (filsP c)).length + row.length + padI ((hdP S (filsP c)).length + row.length) + (ckSum T Rr c.ck l).length ∧ w'.ownsRow w.heap.size 5 1 (.slice A n ca) n (bys ((hdP S (filsP c) ++ row) ++ List.replicate (padI ((hdP S (filsP c)).length + row.length)) 0 ++ ckSum T Rr c.ck l)) ∧ Below w.heap.size w w') → BePost S c row l w e w') := Lib.hid (by
  rintro e w' ⟨A, n, ca, rfl, rfl, ho, hb⟩;refine ⟨A, _, ca, by rw [hS3, hlm], ?_, ?_, hb⟩
  · unfold blP; rw [hS3]; simp only [List.length_append, List.length_replicate]
  · unfold blP; rw [hS3]; exact ho)
 have hsl : (ckSum T Rr c.ck l).length ≤ 64 := ckSum_len T Rr c.ck l;obtain ⟨hd, hhd⟩ : ∃ x, hdP S (filsP c) = x := ⟨_, rfl⟩;obtain ⟨fl, hfl⟩ : ∃ x, filsP c = x := ⟨_, rfl⟩;rw [hhd] at HPost hh64;obtain ⟨sm, hsm⟩ : ∃ x, ckSum T Rr c.ck l = x := ⟨_, rfl⟩;rw [hsm] at HPost HCk hsl;rw [hfl] at HOf;have HHd := Lib.hid (And.intro hhd hfl);have k1 : ¬ ((c.blk : Int) < (m : Int)) := by omega
 obtain ⟨w1, hw1⟩ : ∃ x, (w.alloc (.cells #[.int .i64 c.ck, .int .i64 c.dl, .int .i64 c.lc, .int .i64 c.lp, .int .i64 c.pb, .int .i64 c.dict, .int .i64 c.blk, .int .i64 c.mode] 26)).alloc (.cells #[.int .i64 0, .int .i64 0] 61) = x := ⟨_, rfl⟩;obtain ⟨g, hg⟩ : ∃ x, w.heap.size = x := ⟨_, rfl⟩;have hb1 : Below w.heap.size w w1 := by rw [← hw1]; exact ((Below.refl _ _).alloc (Nat.le_refl _) _).alloc (by simp) _
 have hk1 : Blk w1 g 26 #[.int .i64 c.ck, .int .i64 c.dl, .int .i64 c.lc, .int .i64 c.lp, .int .i64 c.pb, .int .i64 c.dict, .int .i64 c.blk, .int .i64 c.mode] := by rw [← hw1]; exact (Blk.new_at hg.symm).alloc _
 have hr1 : Blk w1 (g + 1) 61 #[.int .i64 0, .int .i64 0] := by rw [← hw1]; exact Blk.new_at (by simp [hg])
 have HW := Lib.hid (And.intro hw1 (And.intro hg (And.intro hb1 (And.intro hk1 hr1))));have HGx := Lib.hid (fun W (hb : Below w1.heap.size w1 W) => cfg_cells (hk1.below hb))
 obtain ⟨c0, c1, c2, c3, c4, c5, c6, c7⟩ := cfg_cells hk1;clear hw1 hg hb1 hk1 hr1 hI hR hl hB hhd hfl hsm hf1 hf2 hf3 hf4 h hm;go_enter Tryz.func20, Tryz.ntmps20;go_upto_region 1 with (fail);rw [HW.out.1, HW.out.2.1];go_wp2_with fail;refine (HL.out w1).mono ?_;rintro e w2 ⟨rfl, hb2⟩;have HB2 := Lib.hid hb2;obtain ⟨d0, d1, d2, d3, d4, d5, d6, d7⟩ := HGx.out w2 hb2;clear hb2 c0 c1 c2 c3 c4 c5 c6 c7
 go_wp2_with fail;refine (HOf.out w2).mono ?_;rintro e w3 ⟨A3, c3', rfl, hi3, hb3⟩;have HB3 := Lib.hid (bup HB2.out hb3);rw [← HHd.out.2] at hi3 ⊢;have HP3 := Lib.hid (HPu.out A3 c3' w3 hi3 (bup HW.out.2.2.1 HB3.out));rw [HHd.out.2] at HP3 ⊢;rw [show hdP S fl = hd by rw [← HHd.out.2, HHd.out.1]] at HP3
 obtain ⟨fn, hfn⟩ : ∃ x, fl.length = x := ⟨_, rfl⟩;rw [hfn] at HP3 ⊢;clear hi3 hb3 hfn d0 d1 d2 d3 d4 d5 d6 d7;go_wp2_with fail;refine HP3.out.mono ?_;rintro e w4 ⟨A4, c4', rfl, ho4, hb4⟩;have HB4 := Lib.hid (bup HB3.out hb4);have HO4 := Lib.hid (own_mono ho4 (Nat.le_trans HW.out.2.2.1.size HB3.out.size));obtain ⟨hn, hhn⟩ : ∃ x, hd.length = x := ⟨_, rfl⟩;rw [hhn] at HO4 HPost hh64 ⊢;have HHn := Lib.hid hhn
 obtain ⟨d0, d1, d2, d3, d4, d5, d6, d7⟩ := HGx.out w4 HB4.out;clear ho4 hb4 hhn;go_wp2_with fail;refine (HR.out w4 (bup HW.out.2.2.1 HB4.out)).mono ?_;rintro e w5 ⟨A5, c5', rfl, ho5, hb5⟩;have HB5 := Lib.hid (bup HB4.out hb5);have HI5 := Lib.hid (in_own ho5 (by omega))
 have HO5 := Lib.hid (own_below HO4.out hb5);obtain ⟨rn, hrn⟩ : ∃ x, row.length = x := ⟨_, rfl⟩;rw [hrn] at HI5 HPost hrl ⊢;have HRn := Lib.hid hrn;have HC5 := Lib.hid (HCk.out w5 (bup HW.out.2.2.1 HB5.out));obtain ⟨c0, c1, c2, c3, c4, c5, c6, c7⟩ := HGx.out w5 HB5.out;clear ho5 hb5 hrn d0 d1 d2 d3 d4 d5 d6 d7;go_wp2_with fail;refine HC5.out.mono ?_;rintro e w6 ⟨A6, n6, ca6, rfl, hi6, hb6, hfr6⟩;have hn6 := hi6.len
 obtain ⟨w5a, hw5a⟩ : ∃ x, w5.alloc (.cells #[.slice A m ca] 22) = x := ⟨_, rfl⟩;have hba : Below w5.heap.size w5 w5a := by rw [← hw5a]; exact (Below.refl _ _).alloc (Nat.le_refl _) _
 rw [hw5a] at hb6 hfr6;have hb56 := bup hba hb6;have HB6 := Lib.hid (bup HB5.out hb56);have HI6 := Lib.hid (And.intro hi6 (HI5.out.below hb56));have HO6 := Lib.hid (own_below HO5.out hb56);have hs6 := (bup HW.out.2.2.1 HB6.out).size;have HF6 := Lib.hid (fun ad (had : A6 = some ad) (g' : Nat) (hg' : (Value.slice A4 hn c4').ownBlock = some g') => show ad.block ≠ g' from by have h1 := hfr6 ad had; have h2 := (own_lt HO5.out hg').2; have h3 := hba.size; omega)
 clear hi6 hb6 hw5a hba hb56 hfr6;subst hn6;obtain ⟨n6, hn6⟩ : ∃ x, sm.length = x := ⟨_, rfl⟩;rw [hn6] at HI6 HPost hsl ⊢;have HN6 := Lib.hid hn6;clear hn6 c0 c1 c2 c3 c4 c5 c6 c7;have x1 : IntKind.i64.wrap ((hn : Int) + (rn : Int) + (n6 : Int)) = ((hn + rn + n6 : Nat) : Int) := by rw [IntWalk.i64_in _ (by omega)]; omega
 go_upto_region 19 with (at_builtin; refine wpList_byt (w := w6) rfl (.tmp 67) (.tmp 68) rfl w.heap.size A4 hn c4' hd rfl HO6.out A5 rn c5' row rfl HI6.out.2 hs6 (by omega) ?_; intro A7 c7 w7 ho7 hb7 hg7 hat7)
 have hf7 : Fr (fun j => some j = (Value.slice A4 hn c4').ownBlock) w6 w7 := (Fr.refl _ _).grown hg7 (fun g hg => .inl hg.symm)
 have hr7 := (HW.out.2.2.2.2.below HB6.out).fr hf7 (own_ne HO6.out (HW.out.2.2.2.2.below HB6.out) (by decide))
 obtain ⟨V, hV⟩ : ∃ x, w7.heap.size = x := ⟨_, rfl⟩;have nVg : ¬ V = g + 1 := fun e => by have h2 := HW.out.2.2.2.2.lt; have h3 := HB6.out.size; have h4 := hb7.size; omega
 obtain ⟨q, hq⟩ : ∃ x, hn + rn = x := ⟨_, rfl⟩;obtain ⟨w8, hw8⟩ : ∃ x, w7.alloc (.cells #[.int .i64 ((q : Int) + (n6 : Int)), .int .i64 m] 61) = x := ⟨_, rfl⟩;have hb8 : Below w7.heap.size w7 w8 := by rw [← hw8]; exact (Below.refl _ _).alloc (Nat.le_refl _) _
 have hV8 : Blk w8 V 61 #[.int .i64 ((q : Int) + (n6 : Int)), .int .i64 m] := by rw [← hw8]; exact Blk.new_at hV.symm
 rw [hq] at ho7 HPost hat7;have HF7 := Lib.hid (fun (_ : 0 < n6) ad (had : A6 = some ad) (e : some ad.block = (Value.slice A7 q c7).ownBlock) => show False from by
  rcases hat7 with h1 | h1
  · exact HF6.out ad had _ (h1 ▸ e.symm) rfl
  · have h2 := HI6.out.1.2.1 ‹0 < n6› ad had;rw [h1] at e;injection e with e;omega)
 have hi7 := HI6.out.1.fr hf7 (fun _ ad had e => HF6.out ad had _ e.symm rfl)
 have H8 := Lib.hid (And.intro hw8 (And.intro hV (And.intro hV8 (And.intro (own_below ho7 hb8) (And.intro (hr7.below hb8) (And.intro (bup ((bup HW.out.2.2.1 HB6.out).trans hb7) hb8) (hi7.below hb8)))))));have HPd := Lib.hid (fun W => Pad_any q W (by omega))
 have HQ := Lib.hid hq;have hpd := padI_le q;obtain ⟨pd, hpde⟩ : ∃ x, padI q = x := ⟨_, rfl⟩;rw [hpde] at HPd hpd HPost;have x2 : IntKind.i64.wrap ((q : Int) + (n6 : Int)) = (q : Int) + (n6 : Int) := IntWalk.i64_in _ (by omega)
 have HNe : Hid (0 < q) := Lib.hid (by omega)
 have hqb : q ≤ 1000000000064 := by omega
 clear hb7 hg7 hat7 ho7 hf7 hr7 hV hq hw8 hb8 hV8 hi7 hpde x1;rw [HQ.out];go_wp2_with fail;rw [H8.out.1, H8.out.2.1];go_wp2_with fail;refine (HPd.out w8).mono ?_;rintro e wz ⟨rfl, hwz⟩;rw [hwz];clear hwz;go_upto_region 21 with (at_builtin; refine wpList_bmk (w := w8) rfl (.tmp 78) (.tmp 81) rfl w.heap.size q c7 pd A7 (hd ++ row) rfl rfl H8.out.2.2.2.1 HNe.out (by omega) H8.out.2.2.2.2.2.1.size ?_; intro A9 c9 w9 ho9 hb9 hf9)
 have hV9 := H8.out.2.2.1.fr hf9 (own_ne H8.out.2.2.2.1 H8.out.2.2.1 (by decide))
 have hR9 := H8.out.2.2.2.2.1.fr hf9 (own_ne H8.out.2.2.2.1 H8.out.2.2.2.2.1 (by decide))
 have hi9 := H8.out.2.2.2.2.2.2.fr hf9 (fun h0 ad had e => HF7.out h0 ad had e)
 have H9 := Lib.hid (And.intro ho9 (And.intro hV9 (And.intro hR9 (And.intro hi9 (H8.out.2.2.2.2.2.1.trans hb9)))));have v0 : w9.cell? ⟨V, 0, none⟩ = some (.int .i64 ((q : Int) + (n6 : Int))) := hV9.cell 0;have v1 : w9.cell? ⟨V, 1, none⟩ = some (.int .i64 m) := hV9.cell 1;have v2 : w9.drew.cell? ⟨V, 0, none⟩ = some (.int .i64 ((q : Int) + (n6 : Int))) := v0;have v3 : w9.drew.cell? ⟨V, 1, none⟩ = some (.int .i64 m) := v1
 clear ho9 hb9 hf9 hV9 hR9 hi9
 go_region_law (
  (refine step_byt (w := w9.drew) rfl (.tmp 83) (.tmp 84) rfl w.heap.size A9 (q + pd) c9 (hd ++ row ++ List.replicate pd 0) (by simp [Act.eval, Act.put]) H9.out.1.drew A6 n6 ca6 sm (by simp [Act.eval, Act.put]) (H9.out.2.2.2.1.below (Below.refl _ _).drew) H9.out.2.2.2.2.size (by omega) ?_
   intro A10 c10 w10 ho10 hb10 hf10;have hV10 := H9.out.2.1.drew.fr hf10 (own_ne H9.out.1.drew H9.out.2.1.drew (by decide))
   have hR10 := H9.out.2.2.1.drew.fr hf10 (own_ne H9.out.1.drew H9.out.2.2.1.drew (by decide))
   have u0 : w10.cell? ⟨V, 0, none⟩ = some (.int .i64 ((q : Int) + (n6 : Int))) := hV10.cell 0;have u1 : w10.cell? ⟨V, 1, none⟩ = some (.int .i64 m) := hV10.cell 1;have r0 : w10.cell? ⟨g + 1, 0, none⟩ = some (.int .i64 0) := hR10.cell 0;have r1 : w10.cell? ⟨g + 1, 1, none⟩ = some (.int .i64 0) := hR10.cell 1;have fr0 := hR10.frozen 0;have fr1 := hR10.frozen 1;have H10 := Lib.hid (And.intro ho10 (And.intro (H9.out.2.2.2.2.drew.trans hb10) hR10))
   clear ho10 hb10 hf10 hV10 hR10))
 all_goals
  go_wp2_with fail;have hk11 := (H10.out.2.2.set_ 0 (.int .i64 ((q : Int) + (n6 : Int)))).set_ 1 (.int .i64 m);have hgw : w.heap.size ≤ g + 1 := by have := HW.out.2.1; omega
  have hb11 := (H10.out.2.1.setCell (p := ⟨g + 1, 0, none⟩) hgw (.int .i64 ((q : Int) + (n6 : Int)))).setCell (p := ⟨g + 1, 1, none⟩) hgw (.int .i64 m);have hl : (hd ++ row ++ List.replicate pd 0 ++ sm).length = q + pd + n6 := by simp only [List.length_append, List.length_replicate]; rw [HHn.out, HRn.out, HN6.out, HQ.out]
  have ho11 := own_far (own_far H10.out.1 (p := ⟨g + 1, 0, none⟩) (own_ne H10.out.1 H10.out.2.2 (by decide)) (.int .i64 ((q : Int) + (n6 : Int)))) (p := ⟨g + 1, 1, none⟩) (own_ne H10.out.1 H10.out.2.2 (by decide)) (.int .i64 m)
  have H11 := Lib.hid (And.intro hk11 (And.intro hb11 ho11));clear hk11 hb11 hl ho11;obtain ⟨w11, hw11⟩ : ∃ x, (w10.setCell ⟨g + 1, 0, none⟩ (.int .i64 ((q : Int) + (n6 : Int)))).setCell ⟨g + 1, 1, none⟩ (.int .i64 m) = x := ⟨_, rfl⟩;rw [hw11] at H11 ⊢;have e0 := H11.out.1.cell 0;have e1 := H11.out.1.cell 1;refine bodyPost_ret (v := .tuple #[.slice A10 (q + pd + n6) c10, .agg #[.int .i64 ((q : Int) + (n6 : Int)), .int .i64 m], .int .i64 0]) (by simp [results, Tryz.results20, go_sem, e0, e1]) rfl ?_
  exact HPost.out _ _ ⟨A10, q + pd + n6, c10, by simp, rfl, H11.out.2.2, H11.out.2.1⟩
end Go.Proofs.YtcjehjdehdoaeaaGreatDoor
