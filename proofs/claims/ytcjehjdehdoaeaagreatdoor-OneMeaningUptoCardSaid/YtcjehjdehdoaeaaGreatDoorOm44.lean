/-
  Laws on the way to the claim (OuE OuF). Conditions: those that each theorem states.
-/
import Derived.Test.YtcjehjdehdoaeaaGreatDoorOm43
import Derived.ArgAppend
set_option linter.unusedVariables false
set_option linter.unusedSimpArgs false
set_option maxRecDepth 1000000
set_option maxHeartbeats 16000000
namespace Go.Proofs.YtcjehjdehdoaeaaGreatDoor
open Go.RowKit
theorem flags_any (A : Option Addr) (n c : Nat) (w : World) (h1 : 1 ≤ n) (h4 : n ≤ 4) :
 Calls Tryz.prog 51 #[.agg #[.int .i64 (-1), .int .i64 (-1), .slice A n c, .int .i64 0]] w fun e w' => e = .returned (.int .u8 ((UInt8.ofNat (n - 1)).toNat : Int)) ∧ Below w.heap.size w w' := by
 have w1 : IntKind.i64.wrap ((n : Int) - 1) = (n : Int) - 1 := IntWalk.i64_in _ (by omega)
 have w2 : ((n : Int) - 1) % 256 = (n : Int) - 1 := by omega
 have e : ((UInt8.ofNat (n - 1)).toNat : Int) = (n : Int) - 1 := by rw [UInt8.toNat_ofNat']; omega
 rw [e];have HB := Lib.hid (fun o => (Below.refl w.heap.size w).alloc (Nat.le_refl _) o)
 clear h1 h4 e;go_enter Tryz.func51, Tryz.ntmps51;go_wp2_with fail;go_ret;exact ⟨rfl, HB.out _⟩
theorem told_no (b : Nat) (w : World) : Calls Tryz.prog 52 #[.pointer (some ⟨b, 0, none⟩), .int .i64 (-1)] w fun e w' => e = .returned (.tuple #[]) ∧ w' = w := by
 go_enter Tryz.func52, Tryz.ntmps52;go_wp2_with fail
 first | go_end0 | refine bodyPost_ret (results_none rfl _ _ _) rfl ?_
 exact ⟨rfl, rfl⟩
def hdG (b : List UInt8) (fl : List (Nat × List UInt8)) : List UInt8 := fl.foldl (fun b f => b ++ fiP f.1 f.2) b
theorem hdG_snoc (b : List UInt8) (fl : List (Nat × List UInt8)) (f : Nat × List UInt8) : hdG b (fl ++ [f]) = hdG b fl ++ fiP f.1 f.2 := by simp [hdG]
theorem hdG_len (fl : List (Nat × List UInt8)) (b : List UInt8) : b.length ≤ (hdG b fl).length := by
 induction fl generalizing b with
 | nil => exact Nat.le_refl _
 | cons f t ih => have := ih (b ++ fiP f.1 f.2); rw [List.length_append] at this; exact Nat.le_trans (Nat.le_add_right _ _) this
theorem hdG_le (fl : List (Nat × List UInt8)) (b : List UInt8) (i : Nat) : (hdG b (fl.take i)).length ≤ (hdG b fl).length := by
 have := hdG_len (fl.drop i) (hdG b (fl.take i));have e : hdG (hdG b (fl.take i)) (fl.drop i) = hdG b fl := by unfold hdG; rw [← List.foldl_append, List.take_append_drop]
 rw [e] at this;exact this
theorem hPut_any (S : Sums) (hS : S.c32 = crc32) (A : Option Addr) (n c : Nat) (fl : List (Nat × List UInt8)) (w : World) (hI : FlsIn A n fl w) (h1 : 1 ≤ n) (h4 : n ≤ 4)
 (hf : ∀ f ∈ fl, f.1 < 9223372036854775808 ∧ f.2.length ≤ 1048576) (hsz : (hdB fl).length + padI (hdB fl).length + 4 ≤ 1024) (hB : LaidB w) (hC : LaidC w) :
 Calls Tryz.prog 31 #[.agg #[.int .i64 (-1), .int .i64 (-1), .slice A n c, .int .i64 0], .int .i64 0] w (Gv (hdP S fl) w) := by
 have hln := hI.len;have hB0 : hdB fl = hdG [0, UInt8.ofNat (n - 1)] fl := by rw [← hln]; rfl
 obtain ⟨F, hFe⟩ : ∃ x, hdP S fl = x := ⟨_, rfl⟩;rw [hFe];have hF : F = hdQ (hdG [0, UInt8.ofNat (n - 1)] fl) ++ leN 4 (crc32 (hdQ (hdG [0, UInt8.ofNat (n - 1)] fl))) := by rw [← hFe]; unfold hdP; rw [hS, hB0]
 rw [hB0] at hsz;obtain ⟨w1, hw1⟩ : ∃ x, w.alloc (.cells #[.int .i64 (-1), .int .i64 (-1), .slice A n c, .int .i64 0] 91) = x := ⟨_, rfl⟩;obtain ⟨g, hg⟩ : ∃ x, w.heap.size = x := ⟨_, rfl⟩;have hb1 : Below w.heap.size w w1 := by rw [← hw1]; exact (Below.refl _ _).alloc (Nat.le_refl _) _
 have hk1 : Blk w1 g 91 #[.int .i64 (-1), .int .i64 (-1), .slice A n c, .int .i64 0] := by rw [← hw1]; exact Blk.new_at hg.symm
 have HW := Lib.hid (And.intro hw1 (And.intro hg (And.intro hb1 hk1)));have HI := Lib.hid (And.intro hI (And.intro hB (And.intro hC (And.intro hf (And.intro hsz hF)))));obtain ⟨c0, c1, c2, c3⟩ := hk1.four;have k1 : ¬ (n : Int) < 1 := by omega
 have k2 : ¬ (4 : Int) < (n : Int) := by omega
 clear hFe hF hw1 hg hb1 hk1 hI hf hsz hB hC hB0;go_enter Tryz.func31, Tryz.ntmps31;go_upto_region 1 with (fail);rw [HW.out.1, HW.out.2.1];go_wp2_with fail;refine (NewWriter_any w1).mono ?_;rintro e w2 ⟨rfl, hW2, hb2⟩;obtain ⟨b, hb⟩ : ∃ x, w1.heap.size = x := ⟨_, rfl⟩;rw [hb] at hW2 ⊢;have HGB : Hid (g < b) := Lib.hid (by rw [← hb]; exact HW.out.2.2.2.lt)
 have hk2 := HW.out.2.2.2.below hb2;have HB2 := Lib.hid (bup HW.out.2.2.1 hb2);obtain ⟨d0, d1, d2, d3⟩ := hk2.four;have HH2 := Lib.hid hk2;have HW2 := Lib.hid hW2;clear hk2 hb2 hW2 hb c0 c1 c2 c3;go_wp2_with fail;refine (flags_any A n c w2 h1 h4).mono ?_;rintro e w3 ⟨rfl, hb3⟩;obtain ⟨z, hz⟩ : ∃ z, UInt8.ofNat (n - 1) = z := ⟨_, rfl⟩;rw [hz] at HI ⊢;have HW3 := Lib.hid (HW2.out.below hb3);have HH3 := Lib.hid (HH2.out.below hb3)
 have HB3 := Lib.hid (bup HB2.out hb3);clear hb3 hz d0 d1 d2 d3;obtain ⟨d0, d1, d2, d3⟩ := HH3.out.four;obtain ⟨w4, hw4⟩ : ∃ x, w3.alloc (.cells #[.int .u8 0, .int .u8 (z.toNat : Int)] 5) = x := ⟨_, rfl⟩;have hb4 : Below w3.heap.size w3 w4 := by rw [← hw4]; exact (Below.refl _ _).alloc (Nat.le_refl _) _
 have HP := Lib.hid (WPut_any b b [] (some ⟨w3.heap.size, 0, none⟩) 2 2 [0, z] w4 (HW3.out.below hb4) (by rw [← hw4]; exact in_new (w := w3) (r := [0, z]) rfl (by simp)) (by simp))
 have HB4 := Lib.hid (bup HB3.out hb4);have HH4 := Lib.hid (HH3.out.below hb4);have HE4 := Lib.hid hw4;clear hb4 hw4;go_wp2_with fail;rw [HE4.out];refine HP.out.mono ?_;rintro e w5 ⟨rfl, hW5, hb5⟩;have hgb := HGB.out;have hH5 := HH4.out.same (hb5.block g hgb);obtain ⟨e0, e1, e2, e3⟩ := hH5.four;have HW5 := Lib.hid hW5;have HB5 := Lib.hid (HB4.out.trans (hb5.mono (by have := HGB.out; have := HW.out.2.1; omega)))
 clear hW5 hb5 hH5 hgb d0 d1 d2 d3 k1 k2;go_wp2_with fail;refine (told_no b w5).mono ?_;rintro e wz ⟨rfl, hwz⟩;rw [hwz];clear hwz;go_wp2_with fail;refine (told_no b w5).mono ?_;rintro e wz ⟨rfl, hwz⟩;rw [hwz];clear hwz;go_wp2_with fail
 go_loopw [58] (fun s58 wr => ∃ i : Nat, s58 = .int .i64 (i : Int) ∧ i ≤ n ∧ Hid (Below w.heap.size w wr ∧ Wt b b (hdG [0, z] (fl.take i)) wr)) (fun s58 _ => n - (intOf s58).toNat)
 case atStart => exact ⟨0, rfl, Nat.zero_le _, Lib.hid ⟨HB5.out, HW5.out⟩⟩
 case round =>
  clear HB5 HW5 e0 e1 e2 e3;obtain ⟨i, rfl, hi, H⟩ := hrel;by_cases hin : i < n
  · have hin' : (i : Int) < (n : Int) := by omega
    obtain ⟨ab, ao, Ai, ci, rfl, q0, q1, q2, q3, q4⟩ := (HI.out.1.below H.out.1).c i hin;obtain ⟨⟨id, ps⟩, hfe⟩ : ∃ z, fl.getD i (0, []) = z := ⟨_, rfl⟩;rw [hfe] at q0 q1 q2 q4;simp only [] at q0 q1 q2 q4;have hfi : fl[i]? = some (id, ps) := by rw [← hfe, List.getD, List.getElem?_eq_getElem (by omega)]; rfl
    have hfb := HI.out.2.2.2.1 (id, ps) (List.mem_of_getElem? hfi);simp only [] at hfb;have HSn := Lib.hid (show hdG [0, z] (fl.take (i + 1)) = hdG [0, z] (fl.take i) ++ fiP id ps by rw [List.take_add_one, hfi]; exact hdG_snoc _ _ _)
    have HLe := Lib.hid (show (hdG [0, z] (fl.take (i + 1))).length ≤ 1024 from Nat.le_trans (hdG_le fl [0, z] (i + 1)) (by have := HI.out.2.2.2.2.1; omega))
    obtain ⟨k, hkk⟩ : ∃ z, ps.length = z := ⟨_, rfl⟩;rw [hkk] at q1 q2 hfb;obtain ⟨V, hV⟩ : ∃ z, wr.heap.size = z := ⟨_, rfl⟩;obtain ⟨w2', hw2⟩ : ∃ z, wr.alloc (.cells #[.int .u64 id, .slice Ai k ci] 116) = z := ⟨_, rfl⟩;have hb2 : Below wr.heap.size wr w2' := by rw [← hw2]; exact (Below.refl _ _).alloc (Nat.le_refl _) _
    have hF2 : Blk w2' V 116 #[.int .u64 id, .slice Ai k ci] := by rw [← hw2]; exact Blk.new_at hV.symm
    obtain ⟨p0, p1⟩ := hF2.two;have HPut := Lib.hid (cPut_any id Ai k ci ps w2' hfb.1 (q2.below hb2) hfb.2 ((HI.out.2.1.below H.out.1).below hb2));have HQ := Lib.hid (And.intro hw2 hV);have HB2' := Lib.hid (And.intro (bup H.out.1 hb2) (H.out.2.below hb2));clear q2 q3 q4 hfe hfi hfb hkk hw2 hV hb2 hF2;go_wp2_with fail;rw [HQ.out.1, HQ.out.2];go_wp2_with fail;refine HPut.out.mono ?_;rintro e w6 ⟨A6, c6, rfl, ho6, hb6⟩
    have hl6 : (fiP id ps).length ≤ 1024 := by have := HLe.out; rw [HSn.out, List.length_append] at this; omega
    have HWP := Lib.hid (WPut_any b b (hdG [0, z] (fl.take i)) A6 (fiP id ps).length c6 (fiP id ps) w6 (HB2'.out.2.below hb6) (in_own ho6 (by omega)) (by have := HLe.out; rw [HSn.out, List.length_append] at this; omega))
    rw [← HSn.out] at HWP;have HB6 := Lib.hid (bup HB2'.out.1 hb6);obtain ⟨fl', hfl⟩ : ∃ z, (fiP id ps).length = z := ⟨_, rfl⟩;rw [hfl] at HWP ⊢;clear ho6 hb6 hl6 hfl;go_wp2_with fail;refine HWP.out.mono ?_;rintro e w7 ⟨rfl, hW7, hb7⟩;have H7 := Lib.hid (And.intro (HB6.out.trans (hb7.mono (by have := HGB.out; have := HW.out.2.1; omega))) hW7)
    clear hW7 hb7;go_wp2_with fail
    go_roundw
    case rel => exact ⟨i + 1, by go_num, by omega, H7⟩
    case measure => simp [intOf]; omega
  · obtain rfl : i = n := by omega
    have hin' : ¬ (i : Int) < (i : Int) := by omega
    have hW := H.out.2;rw [List.take_of_length_le (by omega)] at hW
    have HWt := Lib.hid hW;have hsz := HI.out.2.2.2.2.1;have hF := HI.out.2.2.2.2.2;obtain ⟨body, hbody⟩ : ∃ x, hdG [0, z] fl = x := ⟨_, rfl⟩;rw [hbody] at HWt hsz hF;have HFx := Lib.hid hF;obtain ⟨m, hm⟩ : ∃ x, body.length = x := ⟨_, rfl⟩;rw [hm] at hsz;have hm2 : 2 ≤ m := by rw [← hm, ← hbody]; exact hdG_len fl [0, z]
    have hpd : padI m ≤ 3 := by unfold padI; omega
    have HPd := Lib.hid (fun W => Pad_any m W (by omega))
    have HLn := Lib.hid (WLen_any b b body wr HWt.out);rw [hm] at HLn;have HM := Lib.hid hm;obtain ⟨pd, hpde⟩ : ∃ x, padI m = x := ⟨_, rfl⟩;rw [hpde] at hpd hsz HPd;have HPE := Lib.hid hpde;clear hm hpde hbody hW hF;go_wp2_with fail;refine HLn.out.mono ?_;rintro e wz ⟨rfl, hwz⟩;rw [hwz];clear hwz;go_wp2_with fail;refine HLn.out.mono ?_;rintro e wz ⟨rfl, hwz⟩;rw [hwz];clear hwz;go_wp2_with fail;refine (HPd.out wr).mono ?_
    rintro e wz ⟨rfl, hwz⟩;rw [hwz];clear hwz;obtain ⟨q, hq⟩ : ∃ x, m + pd = x := ⟨_, rfl⟩;have x1 : IntKind.i64.wrap ((m : Int) + (pd : Int)) = (q : Int) := by rw [IntWalk.i64_in _ (by omega)]; omega
    have x2 : IntKind.i64.wrap ((q : Int) + 4) = (q : Int) + 4 := IntWalk.i64_in _ (by omega)
    have x3 : ¬ (1024 : Int) < (q : Int) + 4 := by omega
    have x4 : IntKind.i64.wrap (1024 - ((q : Int) + 4)) = 1024 - ((q : Int) + 4) := IntWalk.i64_in _ (by omega)
    have x5 : ¬ (1024 - ((q : Int) + 4)) / 4 < 0 := by omega
    have x6 : (0 : Int) ≤ 1024 - ((q : Int) + 4) := by omega
    have HZ := Lib.hid (WZeros_any b b body pd wr HWt.out (by rw [HM.out]; omega) (by omega))
    have HQ := Lib.hid hq;clear hq;go_wp2_with fail;refine HLn.out.mono ?_;rintro e wz ⟨rfl, hwz⟩;rw [hwz];clear hwz;go_wp2_with fail;refine (HPd.out wr).mono ?_;rintro e wz ⟨rfl, hwz⟩;rw [hwz];clear hwz;go_wp2_with fail;refine HZ.out.mono ?_;rintro e w8 ⟨rfl, hW8, hb8⟩;have hl8 : (body ++ List.replicate pd 0).length = q := by rw [List.length_append, List.length_replicate, HM.out, HQ.out]
    have HBy := Lib.hid (WBytes_any b b _ w8 hW8 (by rw [hl8]; omega))
    rw [hl8] at HBy;have HB8 := Lib.hid (H.out.1.trans (hb8.mono (by have := HGB.out; have := HW.out.2.1; omega)))
    clear hW8 hb8 HZ HPd HLn x1 x3 x4 x5 x6;go_wp2_with fail;refine HBy.out.mono ?_;rintro e w9 ⟨rfl, ho9, hb9⟩;obtain ⟨R, hR⟩ : ∃ x, w8.heap.size = x := ⟨_, rfl⟩;have hk9 := (blk_of_own ho9).1;have hB9 := bup HB8.out hb9;have hs8 := HB8.out.size;rw [hR] at hk9 hs8 ⊢;have f9 := hk9.frozen 0;have c9 := (hk9.cell 0).trans (bys_at (by rw [hl8, ← HQ.out]; omega))
    obtain ⟨y, hy⟩ : ∃ y, UInt8.ofNat ((m + pd + 4) / 4 - 1) = y := ⟨_, rfl⟩;have HX5 : Hid (((q : Int) + 4) / 4 - 1 = (y.toNat : Int)) := Lib.hid (by rw [← hy, UInt8.toNat_ofNat', HQ.out]; omega)
    have x6 : IntKind.i64.wrap (((q : Int) + 4) / 4 - 1) = ((q : Int) + 4) / 4 - 1 := IntWalk.i64_in _ (by omega)
    have x7 : (0 : Int) < (q : Int) := by have := HQ.out; omega
    have x8 : (0 : Int) ≤ (q : Int) + 4 := by omega
    obtain ⟨hb, hhb⟩ : ∃ x, hdQ body = x := ⟨_, rfl⟩;have hb0 : hb = (body ++ List.replicate pd 0).set 0 y := by rw [← hhb, ← hy, ← HM.out, ← HPE.out, ← HM.out]; rfl
    have hhl : hb.length = q := by rw [hb0, List.length_set, hl8]
    have hk10 := hk9.set_ 0 (.int .u8 (y.toNat : Int));rw [show (bys (body ++ List.replicate pd 0)).toArray.setIfInBounds 0 (.int .u8 (y.toNat : Int)) = (bys hb).toArray by rw [hb0]; simp [bys, List.map_set]] at hk10
    have hB10 := hB9.setCell (p := ⟨R, 0, none⟩) hs8 (.int .u8 (y.toNat : Int));obtain ⟨w10, hw10⟩ : ∃ x, w9.setCell ⟨R, 0, none⟩ (.int .u8 (y.toNat : Int)) = x := ⟨_, rfl⟩;rw [hw10] at hk10 hB10;have HFy := Lib.hid (show F = hb ++ leN 4 (crc32 hb) by rw [HFx.out, hhb])
    have H10 := Lib.hid (And.intro hw10 (And.intro hk10 (And.intro hB10 (And.intro hhl hs8))));clear hhb hb0 hhl hk10 hB10 hw10 hl8 ho9 hb9 hk9 hB9 hR hs8 hy;go_wp2_with fail;rw [HX5.out, H10.out.1];refine (NewWriter_any w10).mono ?_;rintro e w11 ⟨rfl, hW11, hb11⟩;obtain ⟨b2, hb2⟩ : ∃ x, w10.heap.size = x := ⟨_, rfl⟩;rw [hb2] at hW11 ⊢;have hBs : w.heap.size ≤ b2 := by rw [← hb2]; exact H10.out.2.2.1.size
    have hB11 := bup H10.out.2.2.1 hb11;have hk11 := H10.out.2.1.below hb11;obtain ⟨G, hG⟩ : ∃ x, w11.heap.size = x := ⟨_, rfl⟩;obtain ⟨w12, hw12⟩ : ∃ x, w11.alloc (.cells #[.slice (some ⟨R, 0, none⟩) q q] 22) = x := ⟨_, rfl⟩;have hb12 : Below w11.heap.size w11 w12 := by rw [← hw12]; exact (Below.refl _ _).alloc (Nat.le_refl _) _
    have hk12 := hk11.below hb12;have ho12 := own_blk hk12 (B := w.heap.size) H10.out.2.2.2.2 (by rw [H10.out.2.2.2.1]; omega)
    rw [H10.out.2.2.2.1] at ho12;have hin12 := in_own ho12 (by omega)
    have HSm := Lib.hid (Sum32_any G 1 (some ⟨R, 0, none⟩) q q hb w12 (by rw [← hw12, ← hG]; exact (Blk.new _ _ _).cell 0) hin12 (HI.out.2.2.1.below (bup hB11 hb12)))
    have hcl := crc32_lt hb;obtain ⟨sm, hsm⟩ : ∃ s, crc32 hb = s := ⟨_, rfl⟩;rw [hsm] at HSm hcl HFy;have hwr : (sm : Int) % 18446744073709551616 = (sm : Int) := by omega
    have HLo := Lib.hid (WLow_any b2 b2 [] sm 4 w12 (hW11.below hb12) (by decide) (by decide))
    have H12 := Lib.hid (And.intro hw12 (And.intro hG (And.intro ho12 (And.intro (bup hB11 hb12) hBs))));have HB13 : Hid (R < b2) := Lib.hid (by rw [← hb2]; exact H10.out.2.1.lt)
    clear hW11 hb11 hb2 hB11 hk11 hG hw12 hb12 hk12 ho12 hin12 hsm hBs;go_wp2_with fail;rw [H12.out.1, H12.out.2.1];refine HSm.out.mono ?_;rintro e wz ⟨rfl, hwz⟩;rw [hwz];clear hwz;go_wp2_with fail;refine HLo.out.mono ?_;rintro e w13 ⟨rfl, hW13, hb13⟩;have HBy2 := Lib.hid (WBytes_any b2 b2 _ w13 hW13 (by simp [leN_length]))
    rw [List.nil_append, leN_length] at HBy2;have ho13 := own_fr H12.out.2.2.1 (S := fun k => b2 ≤ k) ⟨hb13.os, hb13.tape, hb13.output, hb13.size, fun i hi hn => hb13.block i (by omega)⟩ (fun g hg => by have h1 := HB13.out; simp [Value.ownBlock] at hg; omega)
    have H13 := Lib.hid (And.intro ho13 (H12.out.2.2.2.1.trans (hb13.mono H12.out.2.2.2.2)));clear hW13 hb13 ho13;go_wp2_with fail;refine HBy2.out.mono ?_;rintro e w14 ⟨rfl, ho14, hb14⟩;have H14 := Lib.hid (And.intro (own_below H13.out.1 hb14) (And.intro (in_own ho14 (by decide)) (bup H13.out.2 hb14)))
    have hs14 := H14.out.2.2.size;clear ho14 hb14;go_wp2_with (at_builtin; refine wpList_byt rfl (.tmp 115) (.tmp 117) rfl w.heap.size _ q q hb rfl H14.out.1 _ 4 4 (leN 4 sm) rfl H14.out.2.1 hs14 (by omega) ?_; intro A' c' w15 ho15 hb15 hg15 hat15)
    go_wp2_with fail;refine bodyPost_ret (v := .tuple #[.slice A' (q + 4) c', .int .i64 0]) (by simp [results, Tryz.results31, go_sem]) rfl ?_
    have hl : F.length = q + 4 := by rw [HFy.out, List.length_append, leN_length, H10.out.2.2.2.1]
    refine ⟨A', c', by rw [hl], ?_, H14.out.2.2.trans hb15⟩
    rw [hl, HFy.out];exact ho15
theorem own_form {w : World} {B : Nat} {e : TypeId} {size n : Nat} {v : Value} {xs : List Value} (h : w.ownsRow B e size v n xs) : ∃ A c, v = .slice A n c := by
 rcases h.2 with ⟨rfl, rfl⟩ | ⟨g, cap, cur, rfl, _⟩
 · have := h.1;exact ⟨_, _, rfl⟩
 · exact ⟨_, _, rfl⟩
theorem wpList_bgrow {ops : Array Oper} {rest : List Oper} {o : Oper} {a : Act} {Q : Exit → Act → World → Prop} (w : World) (hgd : o.guard = none) (s x : Operand)
 (ho : o.op = .call { callee := .builtin .append, args := #[s, x], argTypes := #[22, 22] }) (A : Addr) (n c : Nat) (l : List UInt8) (hs : a.eval s = .slice (some A) n c) (hI : Rd w 1 (some A) n (bys l))
 (A2 : Addr) (m c2 : Nat) (r : List UInt8) (hx : a.eval x = .slice (some A2) m c2) (hr : In w (some A2) m r) (hc : c < n + m) (hlen : n + m ≤ 140737488351232) (h0 : 0 < n) (hm : 0 < m)
 (h : ∀ A' c' w', w'.ownsRow w.heap.size 5 1 (.slice A' (n + m) c') (n + m) (bys (l ++ r)) → Below w.heap.size w w' → wpList Tryz.prog ops Q rest (a.put o.dst (.slice A' (n + m) c')) w') : wpList Tryz.prog ops Q (o :: rest) a w := by
 obtain ⟨i0, hi0, hz0, hz1, hz2⟩ := info_parts infou8;have cells : ∀ {A : Addr} {n : Nat} {l : List UInt8}, Rd w 1 (some A) n (bys l) → 0 < n → ∀ j u, (bys l)[j]? = some u → w.cell? (A.add j) = some u := fun hI h0 => by
  obtain ⟨ad, e1, hc⟩ := hI.2 h0;cases e1;exact hc
 refine wpList_append_grows w hgd s x 22 ho 5 i0 _ 1 1 Tryz.underlying22 hi0 hz0 hz1 hz2 rfl (by decide) (some A) n c (bys l) hs (fun h => by cases h) hI.1 (fun b hb => by injection hb with hb; subst hb; exact cells hI h0) A2 m c2 (bys r) hx hr.1.1 (cells hr.1 hm) (bys_one _) hc (by unfold maxLen; omega) (by omega) ?_
 intro v' w' ho' hg';obtain ⟨A', c', rfl⟩ := own_form ho';rw [← bys_append] at ho';exact h A' c' w' ho' (Below.grown (Below.refl _ w) hg' (Nat.le_refl _) fun k hk => by cases hk)
theorem rd_arr (w : World) (t : TypeId) (l : List UInt8) (cs : Array Value) (hcs : cs.toList = bys l) : Rd (w.alloc (.cells cs t)) 1 (some ⟨w.heap.size, 0, none⟩) l.length (bys l) :=
 ⟨by rw [bys_length, Nat.mul_one], fun _ => ⟨_, rfl, fun j u hu => by
  have := (Blk.new w t cs).cell j;rw [add_none, Nat.zero_add, this, ← Array.getElem?_toList, hcs];exact hu⟩⟩
theorem Header_any (S : Sums) (hS : S.c32 = crc32) (k : Nat) (w : World) (hk : kindOk k) (hC : LaidC w) (hF : LaidF w) : Calls Tryz.prog 19 #[.int .i64 k] w (Gv (frP S k) w) := by
 have HK := Lib.hid (isKind_any k w hF);obtain ⟨F, hFe⟩ : ∃ x, frP S k = x := ⟨_, rfl⟩;rw [hFe];have hF0 : F = magic ++ [0, UInt8.ofNat k] ++ leN 4 (crc32 [0, UInt8.ofNat k]) := by rw [← hFe]; unfold frP; rw [hS]
 obtain ⟨z, hz⟩ : ∃ z, UInt8.ofNat k = z := ⟨_, rfl⟩;have hzn : k = z.toNat := by rw [← hz, UInt8.toNat_ofNat']; have := kind_256 hk; omega
 rw [hz] at hF0;subst hzn;rw [decide_eq_true hk] at HK;have wz : (z.toNat : Int) % 256 = (z.toNat : Int) := by have := z.toNat_lt; omega
 have HF := Lib.hid (And.intro hF0 hC);clear hFe hF0 hz hk hC hF;go_enter Tryz.func19, Tryz.ntmps19;go_wp2_with fail;refine HK.out.mono ?_;rintro e w1 ⟨rfl, hw1⟩;obtain ⟨w2, hw2⟩ : ∃ x, w1.alloc (.cells #[.int .u8 253, .int .u8 55, .int .u8 122, .int .u8 88, .int .u8 90, .int .u8 0] 85) = x := ⟨_, rfl⟩;obtain ⟨w3, hw3⟩ : ∃ x, w2.alloc (.cells #[.int .u8 0, .int .u8 (z.toNat : Int)] 5) = x := ⟨_, rfl⟩
 have hs2 : w2.heap.size = w1.heap.size + 1 := by rw [← hw2]; simp
 have hb2 : Below w1.heap.size w1 w2 := by rw [← hw2]; exact (Below.refl _ _).alloc (Nat.le_refl _) _
 have hb3 : Below w2.heap.size w2 w3 := by rw [← hw3]; exact (Below.refl _ _).alloc (Nat.le_refl _) _
 have hr2 : Rd w2 1 (some ⟨w1.heap.size, 0, none⟩) 6 (bys magic) := by rw [← hw2]; exact rd_arr w1 85 magic _ rfl
 have hr3 : Rd w3 1 (some ⟨w1.heap.size, 0, none⟩) 6 (bys magic) := by
  have hk : Blk w3 w1.heap.size 85 #[.int .u8 253, .int .u8 55, .int .u8 122, .int .u8 88, .int .u8 90, .int .u8 0] := by rw [← hw3, ← hw2]; exact (Blk.new _ _ _).alloc _
  exact ⟨rfl, fun _ => ⟨_, rfl, fun j u hu => by rw [add_none, Nat.zero_add, hk.cell j, ← Array.getElem?_toList]; exact hu⟩⟩
 have hi3 : In w3 (some ⟨w1.heap.size + 1, 0, none⟩) 2 [0, z] := by rw [← hw3, ← hs2]; exact in_new (w := w2) (r := [0, z]) rfl (by simp)
 have HA := Lib.hid (And.intro hw2 (And.intro hw3 (And.intro hr3 (And.intro hi3 (bup (bup hw1 hb2) hb3)))));clear hr2 hr3 hi3 hb2 hb3 hw2 hw3 hs2 hw1;go_upto_region 5 with (fail);rw [HA.out.1, HA.out.2.1];go_wp2_with (at_builtin; refine wpList_bgrow w3 rfl (.tmp 13) (.tmp 14) rfl ⟨w1.heap.size, 0, none⟩ 6 6 magic rfl HA.out.2.2.1 ⟨w1.heap.size + 1, 0, none⟩ 2 2 [0, z] rfl HA.out.2.2.2.1 (by decide) (by decide) (by decide) (by decide) ?_; intro A4 c4 w4 ho4 hb4)
 have hi4 := HA.out.2.2.2.1.below hb4;have hb14 := bup HA.out.2.2.2.2 hb4;have HS := Lib.hid (fsum_any _ 2 2 _ w4 hi4 (HF.out.2.below hb14));have H4 := Lib.hid (And.intro (own_mono ho4 HA.out.2.2.2.2.size) hb14);clear ho4 hb4 hi4 hb14;go_wp2_with fail;refine HS.out.mono ?_;rintro e w5 ⟨R, rfl, ho5, hb5⟩;have H5 := Lib.hid (And.intro (own_below H4.out.1 hb5) (And.intro (in_own ho5 (by decide)) (bup H4.out.2 hb5)))
 have hs5 := H5.out.2.2.size;clear ho5 hb5;go_wp2_with (at_builtin; refine wpList_byt rfl (.tmp 15) (.tmp 17) rfl w.heap.size _ 8 c4 (magic ++ [0, z]) rfl H5.out.1 _ 4 4 (leN 4 (crc32 [0, z])) rfl H5.out.2.1 hs5 (by decide) ?_; intro A' c' w6 ho6 hb6 hg6 hat6)
 go_wp2_with fail;refine bodyPost_ret (v := .tuple #[.slice A' 12 c', .int .i64 0]) (by simp [results, Tryz.results19, go_sem]) rfl ?_
 have hl : F.length = 12 := by rw [HF.out.1, List.length_append, leN_length]; rfl
 refine ⟨A', c', by rw [hl], ?_, H5.out.2.2.trans hb6⟩
 rw [hl, HF.out.1];exact ho6
theorem Footer_any (S : Sums) (hS : S.c32 = crc32) (k n : Nat) (w : World) (hk : kindOk k) (h4 : 4 ≤ n) (hm : n % 4 = 0) (hn : n ≤ 17179869184) (hC : LaidC w) (hF : LaidF w) : Calls Tryz.prog 22 #[.int .i64 k, .int .i64 n] w (Gv (bkP S k n) w) := by
 have HK := Lib.hid (isKind_any k w hF);obtain ⟨F, hFe⟩ : ∃ x, bkP S k n = x := ⟨_, rfl⟩;rw [hFe];have hF0 : F = leN 4 (crc32 (leN 4 (n / 4 - 1) ++ [0, UInt8.ofNat k])) ++ (leN 4 (n / 4 - 1) ++ [0, UInt8.ofNat k]) ++ [89, 90] := by rw [← hFe]; unfold bkP; rw [hS]
 obtain ⟨z, hz⟩ : ∃ z, UInt8.ofNat k = z := ⟨_, rfl⟩;have hzn : k = z.toNat := by rw [← hz, UInt8.toNat_ofNat']; have := kind_256 hk; omega
 rw [hz] at hF0;subst hzn;rw [decide_eq_true hk] at HK;have wz : (z.toNat : Int) % 256 = (z.toNat : Int) := by have := z.toNat_lt; omega
 obtain ⟨q, hq⟩ : ∃ x, n / 4 - 1 = x := ⟨_, rfl⟩;rw [hq] at hF0;have x1 : ¬ (n : Int) < 4 := by omega
 have x2 : (n : Int) % 4 = 0 := by omega
 have x3 : ¬ (17179869184 : Int) < (n : Int) := by omega
 have HX4 : Hid ((n : Int) / 4 - 1 = (q : Int)) := Lib.hid (by omega)
 have x5 : IntKind.i64.wrap ((n : Int) / 4 - 1) = (n : Int) / 4 - 1 := IntWalk.i64_in _ (by omega)
 have x6 : ((n : Int) / 4 - 1) % 18446744073709551616 = (n : Int) / 4 - 1 := by omega
 obtain ⟨mid, hmid⟩ : ∃ x, leN 4 q ++ [0, z] = x := ⟨_, rfl⟩;rw [hmid] at hF0;have hml : mid.length = 6 := by rw [← hmid, List.length_append, leN_length]; rfl
 have HF := Lib.hid (And.intro hF0 (And.intro hC (And.intro hmid hml)));clear hFe hF0 hz hk hC hF hq h4 hm hn hmid hml;go_enter Tryz.func22, Tryz.ntmps22;go_wp2_with fail;refine HK.out.mono ?_;rintro e w1 ⟨rfl, hb1⟩;have HB1 := Lib.hid hb1;clear hb1;go_wp2_with fail;refine (NewWriter_any w1).mono ?_;rintro e w2 ⟨rfl, hW2, hb2⟩;obtain ⟨b, hb⟩ : ∃ x, w1.heap.size = x := ⟨_, rfl⟩;rw [hb] at hW2 ⊢;have hB2 := bup HB1.out hb2
 have hwb : w.heap.size ≤ b := by rw [← hb]; exact HB1.out.size
 have HLo := Lib.hid (WLow_any b b [] q 4 w2 hW2 (by decide) (by decide))
 have HB2 := Lib.hid (And.intro hB2 hwb);clear hb2 hW2 hb hB2 hwb;go_wp2_with fail;rw [HX4.out];refine HLo.out.mono ?_;rintro e w3 ⟨rfl, hW3, hb3⟩;obtain ⟨w4, hw4⟩ : ∃ x, w3.alloc (.cells #[.int .u8 0, .int .u8 (z.toNat : Int)] 5) = x := ⟨_, rfl⟩;have hb4 : Below w3.heap.size w3 w4 := by rw [← hw4]; exact (Below.refl _ _).alloc (Nat.le_refl _) _
 have HP := Lib.hid (WPut_any b b _ (some ⟨w3.heap.size, 0, none⟩) 2 2 [0, z] w4 (hW3.below hb4) (by rw [← hw4]; exact in_new (w := w3) (r := [0, z]) rfl (by simp)) (by simp [leN_length]))
 rw [List.nil_append, HF.out.2.2.1] at HP;have HB3 := Lib.hid (bup (HB2.out.1.trans (hb3.mono HB2.out.2)) hb4);have HE4 := Lib.hid hw4;clear hb3 hW3 hb4 hw4 HLo;go_wp2_with fail;rw [HE4.out];refine HP.out.mono ?_;rintro e w5 ⟨rfl, hW5, hb5⟩;have HBy := Lib.hid (WBytes_any b b _ w5 hW5 (by rw [HF.out.2.2.2]; decide))
 rw [HF.out.2.2.2] at HBy;have HB5 := Lib.hid (HB3.out.trans (hb5.mono HB2.out.2));clear hW5 hb5 HP;go_wp2_with fail;refine HBy.out.mono ?_;rintro e w6 ⟨rfl, ho6, hb6⟩;have HB6 := Lib.hid (bup HB5.out hb6);have HI6 := Lib.hid (in_own ho6 (by decide))
 obtain ⟨w7, hw7⟩ : ∃ x, w6.alloc (.cells #[.int .u8 89, .int .u8 90] 110) = x := ⟨_, rfl⟩;have hb7 : Below w6.heap.size w6 w7 := by rw [← hw7]; exact (Below.refl _ _).alloc (Nat.le_refl _) _
 have hk7 : Blk w7 w6.heap.size 110 #[.int .u8 89, .int .u8 90] := by rw [← hw7]; exact Blk.new _ _ _
 have H7 := Lib.hid (And.intro hw7 (And.intro hk7 (And.intro (bup HB6.out hb7) (HI6.out.below hb7))));clear hb6 ho6 HBy hb7 hk7 hw7;go_upto_region 10 with (fail);rw [H7.out.1];have HM := Lib.hid (fun W (hk : Blk W w6.heap.size 110 #[.int .u8 89, .int .u8 90]) => show In W (some ⟨w6.heap.size, 0, none⟩) 2 [89, 90] from ⟨⟨rfl, fun _ => ⟨_, rfl, fun j u hu => by rw [add_none, Nat.zero_add, hk.cell j, ← Array.getElem?_toList]; exact hu⟩⟩, fun _ ad had => by injection had with had; rw [← had]; exact hk.lt, by decide⟩)
 have HS := Lib.hid (fun W (h : Below w7.heap.size w7 W) => fsum_any _ 6 6 mid W (H7.out.2.2.2.below h) (HF.out.2.1.below (bup H7.out.2.2.1 h)))
 go_region_held3 (fun _ => True)
  (exact trivial)
  (first | (go_at_call 29; refine (HS.out w7.drew (Below.refl _ _).drew).mono ?_; rintro e w8 ⟨R, rfl, ho8, hb8⟩; have hb8' : Below w7.heap.size w7 w8 := bup (Below.refl _ _).drew hb8; have H8 := Lib.hid (And.intro (own_mono ho8 (show w.heap.size ≤ w7.heap.size from H7.out.2.2.1.size)) hb8')) | (refine step_byt (w := w8) rfl (.tmp 39) (.tmp 40) rfl w.heap.size _ 4 4 (leN 4 (crc32 mid)) (by simp [Act.eval]) H8.out.1 _ 6 6 mid (by simp [Act.eval]) (H7.out.2.2.2.below H8.out.2) (Nat.le_trans H7.out.2.2.1.size H8.out.2.size) (by decide) ?_; intro A9 c9 w9 ho9 hb9 hf9; have H9 := Lib.hid (And.intro ho9 (And.intro hb9 hf9))) | (refine step_byt (w := w9) rfl (.tmp 41) (.tmp 42) rfl w.heap.size A9 (4 + 6) c9 (leN 4 (crc32 mid) ++ mid) (by simp [Act.eval]) H9.out.1 (some ⟨w6.heap.size, 0, none⟩) 2 2 [89, 90] (by simp [Act.eval]) (HM.out w9 ((H7.out.2.1.below H8.out.2).fr H9.out.2.2 (own_ne H8.out.1 (H7.out.2.1.below H8.out.2) (by decide)))) (Nat.le_trans (Nat.le_trans H7.out.2.2.1.size H8.out.2.size) H9.out.2.1.size) (by decide) ?_; intro A10 c10 w10 ho10 hb10 hf10; have H10 := Lib.hid (And.intro ho10 hb10)))
 go_wp2_with fail;refine bodyPost_ret (v := .tuple #[.slice A10 12 c10, .int .i64 0]) (by simp [results, Tryz.results22, go_sem]) rfl ?_
 have hl : F.length = 12 := by rw [HF.out.1, List.length_append, List.length_append, leN_length, HF.out.2.2.2]; rfl
 refine ⟨A10, c10, by rw [hl], ?_, (bup H7.out.2.2.1 H8.out.2).trans (H9.out.2.1.trans H10.out.2)⟩
 rw [hl, HF.out.1];exact H10.out.1
end Go.Proofs.YtcjehjdehdoaeaaGreatDoor
