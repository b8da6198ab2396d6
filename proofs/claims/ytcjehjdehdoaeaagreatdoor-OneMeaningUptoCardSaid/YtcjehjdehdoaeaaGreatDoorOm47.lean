/-
  Laws on the way to the claim (OuN OuO OuP OuQ). Conditions: those that each theorem states.
-/
import Derived.Test.YtcjehjdehdoaeaaGreatDoorOm46
import Derived.Room.AppendZeros
set_option linter.unusedVariables false
set_option linter.unusedSimpArgs false
set_option maxRecDepth 1000000
set_option maxHeartbeats 16000000
namespace Go.Proofs.YtcjehjdehdoaeaaGreatDoor
open Go.RowKit
theorem rs_cells {A : Option Addr} {m ca E R : Nat} {w : World} (h : Blk w R 225 (rsC A m ca E)) : w.cell? ⟨R, 0, none⟩ = some (.int .i64 1) ∧ w.cell? ⟨R, 1, none⟩ = some (.int .i64 m) ∧ w.cell? ⟨R, 2, none⟩ = some (.int .i64 m) ∧ w.cell? ⟨R, 3, none⟩ = some (.int .i64 0) ∧ w.cell? ⟨R, 4, none⟩ = some (.int .i64 0) ∧ w.cell? ⟨R, 5, none⟩ = some (.int .i64 0) ∧ w.cell? ⟨R, 6, none⟩ = some (.slice A m ca) ∧ w.cell? ⟨R, 7, none⟩ = some (.pointer (some ⟨E, 0, none⟩)) ∧ w.cell? ⟨R, 8, none⟩ = some (.int .i64 0) ∧ w.cell? ⟨R, 9, none⟩ = some (.int .i64 1) ∧ w.cell? ⟨R, 10, none⟩ = some (.int .i64 1) ∧ w.cell? ⟨R, 11, none⟩ = some (.int .i64 1) ∧ w.cell? ⟨R, 12, none⟩ = some (.int .i64 1) :=
 ⟨h.cell 0, h.cell 1, h.cell 2, h.cell 3, h.cell 4, h.cell 5, h.cell 6, h.cell 7, h.cell 8, h.cell 9, h.cell 10, h.cell 11, h.cell 12⟩
def WrPost (P m : Nat) (l : List UInt8) (w : World) (e : Ending) (w' : World) : Prop :=
 e = .returned (.tuple #[]) ∧ ∃ O oc cs, Blk w' P 160 cs ∧ cs[15]? = some (.slice O (3 + m) oc) ∧ w'.ownsRow w.heap.size 5 1 (.slice O (3 + m) oc) (3 + m) (bys (1 :: beN 2 (m - 1) ++ l)) ∧ Fr (fun k => k = P) w w'
theorem wr_fin {c : Cfg} {A O : Option Addr} {m ca E E' P oc : Nat} {l : List UInt8} {w wc : World} (h : Blk wc P 160 ((pkC c A m ca E).setIfInBounds 15 (.slice O (3 + m) oc))) (o : wc.ownsRow w.heap.size 5 1 (.slice O (3 + m) oc) (3 + m) (bys (1 :: beN 2 (m - 1) ++ l))) (f : Fr (fun k => k = P) w wc) :
 WrPost P m l w (.returned (.tuple #[])) (((((((((wc.setCell ⟨P, 9, none⟩ (.pointer (some ⟨E', 0, none⟩))).setCell ⟨P, 10, none⟩ (.int .i64 0)).setCell ⟨P, 11, none⟩ (.int .i64 1)).setCell ⟨P, 12, none⟩ (.int .i64 1)).setCell ⟨P, 13, none⟩ (.int .i64 1)).setCell ⟨P, 14, none⟩ (.int .i64 1)).setCell ⟨P, 16, none⟩ (.bool true)).setCell ⟨P, 17, none⟩ (.bool false)).setCell ⟨P, 18, none⟩ (.bool false)).drew := by
 have h9 : ((pkC c A m ca E).setIfInBounds 15 (.slice O (3 + m) oc))[15]? = some (.slice O (3 + m) oc) := by simp [pkC]
 obtain ⟨cs, hcs⟩ : ∃ x, (pkC c A m ca E).setIfInBounds 15 (.slice O (3 + m) oc) = x := ⟨_, rfl⟩;rw [hcs] at h h9;have hk := ((((((((h.set_ 9 (.pointer (some ⟨E', 0, none⟩))).set_ 10 (.int .i64 0)).set_ 11 (.int .i64 1)).set_ 12 (.int .i64 1)).set_ 13 (.int .i64 1)).set_ 14 (.int .i64 1)).set_ 16 (.bool true)).set_ 17 (.bool false)).set_ 18 (.bool false);have hf := (((((((((Fr.refl (fun k => k = P) wc).set1 9 (.pointer (some ⟨E', 0, none⟩))).set1 10 (.int .i64 0)).set1 11 (.int .i64 1)).set1 12 (.int .i64 1)).set1 13 (.int .i64 1)).set1 14 (.int .i64 1)).set1 16 (.bool true)).set1 17 (.bool false)).set1 18 (.bool false)
 exact ⟨rfl, O, oc, _, hk.drew, by rw [← h9]; simp, own_fr o hf.drew (fun g hg e => own_ne o h (by decide) (by rw [hg]; exact congrArg some (Eq.symm e))), f.trans hf.drew⟩
theorem write_raw (c : Cfg) (A : Option Addr) (m ca E P Q B : Nat) (x : TbX) (t : Tb) (wb eb : Nat) (r : Option Nat) (l : List UInt8) (w : World) (h : Blk w P 160 (pkC c A m ca E)) (hE : En B E x t wb eb r c.dict [] w) (hI : In w A m l) (hc : m ≤ ca) (hA : ∀ ad, A = some ad → ad.block < w.heap.size) (h0 : c.mode = 0) (hm : m ≤ 65536) (h1 : 1 ≤ m)
 (hQ : Blk w Q 220 #[.func (.func 82) #[.pointer (some ⟨P, 0, none⟩)] #[], .func (.func 83) #[.pointer (some ⟨P, 0, none⟩)] #[]]) :
 Calls Tryz.prog 81 #[.pointer (some ⟨P, 0, none⟩), .int .i64 0, .int .i64 m, .slice (some ⟨Q, 0, none⟩) 2 2] w (WrPost P m l w) := by
 have HRaw := Lib.hid (fun W (hb : Below w.heap.size w W) => raw_first c A m ca E P B x t wb eb r l W (h.below hb) (hE.below hb) (hI.below hb) hc (fun ad had => Nat.lt_of_lt_of_le (hA ad had) hb.size) (by omega) h1)
 have HTr := Lib.hid (fun W (hb : Below w.heap.size w W) => tried_raw c A m ca E P 0 m W (h.below hb) h0)
 have HCp := Lib.hid (fun W => show Calls Tryz.prog 102 #[.agg #[.int .i64 1, .int .i64 m, .int .i64 m, .int .i64 0, .int .i64 0, .int .i64 0]] W fun e w' => ∃ A c, e = .returned (.tuple #[.slice A 3 c, .int .i64 0]) ∧ w'.ownsRow W.heap.size 5 1 (.slice A 3 c) 3 (bys (1 :: beN 2 (m - 1))) ∧ Below W.heap.size W w' from by
  have hl : (UInt8.ofNat 1 :: beN 2 (m - 1)).length = 3 := by simp [beN]
  have := CPut_raw 1 m W (.inl rfl) h1 hm;unfold Gv at this;rw [hl] at this;exact this)
 have HX := Lib.hid (And.intro h (And.intro hI (And.intro hA (And.intro hQ hm))));have x1 : IntKind.i64.wrap (3 + (m : Int)) = 3 + (m : Int) := IntWalk.i64_in _ (by omega)
 clear h hE hI hc hA h0 h1 hQ;go_enter Tryz.func81, Tryz.ntmps81;go_wp2_with fail
 go_loopw [8, 9, 20] (fun s8 s9 s20 wr => ∃ i : Nat, s20 = .int .i64 (i : Int) ∧ i ≤ 2 ∧ ((i = 0 ∧ s8 = .pointer none ∧ s9 = .int .i64 0 ∧ Hid (Below w.heap.size w wr)) ∨ (1 ≤ i ∧ ∃ R E', s8 = .pointer (some ⟨R, 0, none⟩) ∧ s9 = .int .i64 (3 + (m : Int)) ∧ Hid (Below w.heap.size w wr ∧ Blk wr R 225 (rsC A m ca E'))))) (fun _ _ s20 _ => 2 - (intOf s20).toNat)
 case atStart => exact ⟨0, rfl, by decide, .inl ⟨rfl, rfl, rfl, Lib.hid (Below.refl _ _)⟩⟩
 case round =>
  obtain ⟨i, rfl, hi, hrel⟩ := hrel;rcases hrel with ⟨rfl, rfl, rfl, HJ⟩ | ⟨hi1, R, E', rfl, rfl, HJ⟩
  · have q0 := (HX.out.2.2.2.1.below HJ.out).cell 0;have HRw := Lib.hid (HRaw.out wr HJ.out);go_wp2_with fail;refine HRw.out.mono ?_;rintro e w2 ⟨R, E', rfl, hR2, hb2⟩;obtain ⟨a0, a1, a2, a3, a4, a5, a6, a7, a8, a9, a10, a11, a12⟩ := rs_cells hR2;have H2 := Lib.hid (And.intro (bup HJ.out hb2) hR2);clear hb2 hR2 q0;go_wp2_with fail;refine (HCp.out w2).mono ?_;rintro e w3 ⟨A3, c3, rfl, _, hb3⟩;have hR3 := H2.out.2.below hb3
    obtain ⟨d0, d1, d2, d3, d4, d5, d6, d7, d8, d9, d10, d11, d12⟩ := rs_cells hR3;have H3 := Lib.hid (And.intro (bup H2.out.1 hb3) hR3);clear hb3 hR3 a0 a1 a2 a3 a4 a5 a6 a7 a8 a9 a10 a11 a12;go_wp2_with fail
    go_roundw
    case rel => exact ⟨1, by go_num, by decide, .inr ⟨Nat.le_refl _, R, E', rfl, rfl, H3⟩⟩
    case measure => simp [intOf]
  · by_cases hi2 : i = 1
    · subst hi2;have q1 := (HX.out.2.2.2.1.below HJ.out.1).cell 1;have HT := Lib.hid (HTr.out wr HJ.out.1);go_wp2_with fail;refine HT.out.mono ?_;rintro e wz ⟨rfl, hwz⟩;rw [hwz];clear hwz q1;go_wp2_with fail
      go_roundw
      case rel => exact ⟨2, by go_num, by decide, .inr ⟨by decide, R, E', rfl, rfl, HJ⟩⟩
      case measure => simp [intOf]
    · obtain rfl : i = 2 := by omega
      obtain ⟨a0, a1, a2, a3, a4, a5, a6, a7, a8, a9, a10, a11, a12⟩ := rs_cells HJ.out.2;clear hi hi1 hi2;go_wp2_with fail;refine (HCp.out wr).mono ?_;rintro e w3 ⟨A3, c3, rfl, ho3, hb3⟩;have H3 := Lib.hid (And.intro (bup HJ.out.1 hb3) (And.intro (HJ.out.2.below hb3) (own_mono ho3 HJ.out.1.size)));clear hb3 ho3 a0 a1 a2 a3 a4 a5 a6 a7 a8 a9 a10 a11 a12;go_upto_region 14 with (fail);have hP3 := (HX.out.1.below H3.out.1).drew
      have hR3 := H3.out.2.1.drew;obtain ⟨_, _, _, _, _, _, _, _, e15, _, _, _⟩ := pk_cells hP3;have b6 : World.cell? _ ⟨R, 6, none⟩ = some (.slice A m ca) := hR3.cell 6;have HPR := Lib.hid (And.intro hP3 hR3);have hs3 := H3.out.1.size;have hmm := HX.out.2.2.2.2;clear hP3 hR3;go_cut [] (fun wy => ∃ (A5 : Option Addr) (c5 : Nat), Hid (Blk wy P 160 ((pkC c A m ca E).setIfInBounds 15 (.slice A5 (3 + m) c5)) ∧ Blk wy R 225 (rsC A m ca E') ∧ wy.ownsRow w.heap.size 5 1 (.slice A5 (3 + m) c5) (3 + m) (bys (1 :: beN 2 (m - 1) ++ l)) ∧ Fr (fun k => k = P) w wy))
      case first =>
       go_region_law (first
        | (refine step_byt (w := w3.drew) rfl (.tmp 70) (.tmp 71) rfl w.heap.size none 0 0 [] (by simp [Act.eval]) (World.ownsRow_nil _ _ _ _) A3 3 c3 (1 :: beN 2 (m - 1)) (by simp [Act.eval]) (in_own H3.out.2.2.drew (by decide)) hs3 (by decide) ?_
           intro A4 c4 w4 ho4 hb4 hf4;have hP4 := HPR.out.1.fr hf4 (by simp [Value.ownBlock])
           have hR4 := HPR.out.2.fr hf4 (by simp [Value.ownBlock])
           have g6 : w4.cell? ⟨R, 6, none⟩ = some (.slice A m ca) := hR4.cell 6;have H4 := Lib.hid (And.intro ho4 (And.intro hb4 (And.intro hP4 (And.intro hR4 hf4))));clear ho4 hb4 hf4 hP4 hR4)
        | (refine step_byt (w := w4) rfl (.tmp 72) (.tmp 76) rfl w.heap.size A4 (0 + 3) c4 ([] ++ (1 :: beN 2 (m - 1))) (by simp [Act.eval]) H4.out.1 A m ca l (by simp [Act.eval]) ((HX.out.2.1.below H3.out.1.drew).fr H4.out.2.2.2.2 (fun _ ad had => by simp [Value.ownBlock])) (Nat.le_trans hs3 H4.out.2.1.size) (by omega) ?_
           intro A5 c5 w5 ho5 hb5 hf5;have hP5 := H4.out.2.2.1.fr hf5 (own_ne H4.out.1 H4.out.2.2.1 (by decide))
           have hR5 := H4.out.2.2.2.1.fr hf5 (own_ne H4.out.1 H4.out.2.2.2.1 (by decide))
           have y0 : w5.cell? ⟨P, 15, none⟩ = some (.slice none 0 0) := hP5.cell 15;have y1 := hP5.frozen 15;have H5 := Lib.hid (And.intro ho5 (And.intro (H4.out.2.1.trans hb5) (And.intro hP5 hR5)));clear ho5 hb5 hf5 hP5 hR5))
       all_goals
        go_wp2_with fail
        go_meet
        have ho := H5.out.1;have hl : 0 + 3 + m = 3 + m := by omega
        rw [List.nil_append, hl] at ho;have hf : Fr (fun k => k = P) w w5 := Fr.of_below ((H3.out.1.drew).trans H5.out.2.1)
        refine ⟨A5, c5, Lib.hid ⟨H5.out.2.2.1.set_ 15 _, H5.out.2.2.2.far (p := ⟨P, 15, none⟩) (fun e => BT.ne ⟨_, H5.out.2.2.2⟩ ⟨_, H5.out.2.2.1⟩ (by decide) e) _, own_far ho (p := ⟨P, 15, none⟩) (own_ne ho H5.out.2.2.1 (by decide)) _, hf.set1 15 _⟩⟩
      case rest =>
       obtain ⟨A5, c5, hcut⟩ := hcut;have HC := Lib.hid hcut.out;obtain ⟨a0, a1, a2, a3, a4, a5, a6, a7, a8, a9, a10, a11, a12⟩ := rs_cells HC.out.2.1.drew;obtain ⟨b0, b1, b2, b3, b4, b5, b6, b7, b8, b9, b10, b11, b12⟩ := rs_cells HC.out.2.1;have nPR : ¬ R = P := fun e => BT.ne ⟨_, HC.out.2.1⟩ ⟨_, HC.out.1⟩ (by decide) e
       have nRP : ¬ P = R := fun e => nPR e.symm
       have hk := HC.out.1;have p9 : wc.cell? ⟨P, 9, none⟩ = some (.pointer (some ⟨E, 0, none⟩)) := hk.cell 9;have p10 : wc.cell? ⟨P, 10, none⟩ = some (.int .i64 0) := hk.cell 10;have p11 : wc.cell? ⟨P, 11, none⟩ = some (.int .i64 1) := hk.cell 11;have p12 : wc.cell? ⟨P, 12, none⟩ = some (.int .i64 1) := hk.cell 12;have p13 : wc.cell? ⟨P, 13, none⟩ = some (.int .i64 1) := hk.cell 13;have p14 : wc.cell? ⟨P, 14, none⟩ = some (.int .i64 1) := hk.cell 14
       have p16 : wc.cell? ⟨P, 16, none⟩ = some (.bool false) := hk.cell 16;have p17 : wc.cell? ⟨P, 17, none⟩ = some (.bool false) := hk.cell 17;have p18 : wc.cell? ⟨P, 18, none⟩ = some (.bool false) := hk.cell 18;have f9 := hk.frozen 9;have f10 := hk.frozen 10;have f11 := hk.frozen 11;have f12 := hk.frozen 12;have f13 := hk.frozen 13;have f14 := hk.frozen 14;have f16 := hk.frozen 16;have f17 := hk.frozen 17
       have f18 := hk.frozen 18;clear hk hcut;go_wp2_with fail
       go_region_held3 (fun w' => w'.cell? ⟨R, 7, none⟩ = some (.pointer (some ⟨E', 0, none⟩)) ∧ w'.cell? ⟨R, 8, none⟩ = some (.int .i64 0) ∧ w'.cell? ⟨R, 9, none⟩ = some (.int .i64 1) ∧ w'.cell? ⟨R, 10, none⟩ = some (.int .i64 1) ∧ w'.cell? ⟨R, 11, none⟩ = some (.int .i64 1) ∧ w'.cell? ⟨R, 12, none⟩ = some (.int .i64 1))
        (first | (with_reducible exact ⟨a7, a8, a9, a10, a11, a12⟩) | go_keep)
        (fail)
       go_wp2_with fail
       go_end0
       exact wr_fin HC.out.1 HC.out.2.2.1 HC.out.2.2.2
def rawR (l : List UInt8) : List UInt8 := 1 :: beN 2 (l.length - 1) ++ l ++ [0]
theorem cfg_cells {ck dl lc lp pb dict blk mode : Int} {g : Nat} {w : World} (h : Blk w g 26 #[.int .i64 ck, .int .i64 dl, .int .i64 lc, .int .i64 lp, .int .i64 pb, .int .i64 dict, .int .i64 blk, .int .i64 mode]) : w.cell? ⟨g, 0, none⟩ = some (.int .i64 ck) ∧ w.cell? ⟨g, 1, none⟩ = some (.int .i64 dl) ∧ w.cell? ⟨g, 2, none⟩ = some (.int .i64 lc) ∧ w.cell? ⟨g, 3, none⟩ = some (.int .i64 lp) ∧ w.cell? ⟨g, 4, none⟩ = some (.int .i64 pb) ∧ w.cell? ⟨g, 5, none⟩ = some (.int .i64 dict) ∧ w.cell? ⟨g, 6, none⟩ = some (.int .i64 blk) ∧ w.cell? ⟨g, 7, none⟩ = some (.int .i64 mode) := ⟨h.cell 0, h.cell 1, h.cell 2, h.cell 3, h.cell 4, h.cell 5, h.cell 6, h.cell 7⟩
theorem Enc_raw (c : Cfg) (h : c.Ok) (h0 : c.mode = 0) (A : Option Addr) (m ca : Nat) (l : List UInt8) (w : World) (hI : In w A m l) (hc : m ≤ ca) (hA : ∀ ad, A = some ad → ad.block < w.heap.size) (h1 : 1 ≤ m) (hm : m ≤ 65536) :
 Calls Tryz.prog 55 #[.slice A m ca, .agg #[.int .i64 c.ck, .int .i64 c.dl, .int .i64 c.lc, .int .i64 c.lp, .int .i64 c.pb, .int .i64 c.dict, .int .i64 c.blk, .int .i64 c.mode]] w (Gv (rawR l) w) := by
 have hlm := hI.len;have HG := Lib.hid (fun W => good_any c h W)
 have HN := Lib.hid (fun W => ENew_any c.lc c.lp c.pb c.dict W h.l h.p (by have := h.i; omega) (by have := h.i; omega))
 obtain ⟨w1, hw1⟩ : ∃ x, w.alloc (.cells #[.int .i64 c.ck, .int .i64 c.dl, .int .i64 c.lc, .int .i64 c.lp, .int .i64 c.pb, .int .i64 c.dict, .int .i64 c.blk, .int .i64 c.mode] 26) = x := ⟨_, rfl⟩;obtain ⟨g, hg⟩ : ∃ x, w.heap.size = x := ⟨_, rfl⟩;have hb1 : Below w.heap.size w w1 := by rw [← hw1]; exact (Below.refl _ _).alloc (Nat.le_refl _) _
 have hk1 : Blk w1 g 26 #[.int .i64 c.ck, .int .i64 c.dl, .int .i64 c.lc, .int .i64 c.lp, .int .i64 c.pb, .int .i64 c.dict, .int .i64 c.blk, .int .i64 c.mode] := by rw [← hw1]; exact Blk.new_at hg.symm
 have HW := Lib.hid (And.intro hw1 (And.intro hg (And.intro hb1 hk1)));have HX := Lib.hid (And.intro hI (And.intro hc (And.intro hA (And.intro h1 (And.intro hm (And.intro h0 hlm))))));have k1 : ¬ (2147483648 : Int) < (m : Int) := by omega
 obtain ⟨c0, c1, c2, c3, c4, c5, c6, c7⟩ := cfg_cells hk1;clear hw1 hg hb1 hk1 hI hc hA hlm h h0;go_enter Tryz.func55, Tryz.ntmps55;go_upto_region 1 with (fail);rw [HW.out.1, HW.out.2.1];go_wp2_with fail;refine (HG.out w1).mono ?_;rintro e w2 ⟨rfl, hb2⟩;have HB2 := Lib.hid (And.intro (bup HW.out.2.2.1 hb2) (HW.out.2.2.2.below hb2));obtain ⟨d0, d1, d2, d3, d4, d5, d6, d7⟩ := cfg_cells HB2.out.2;clear hb2 c0 c1 c2 c3 c4 c5 c6 c7
 go_wp2_with fail;refine (HN.out w2).mono ?_;rintro e w3 ⟨E, x, wb, eb, rfl, hE3, hb3⟩;have HB3 := Lib.hid (And.intro (bup HB2.out.1 hb3) (And.intro (HB2.out.2.below hb3) hE3));obtain ⟨c0, c1, c2, c3, c4, c5, c6, c7⟩ := cfg_cells HB3.out.2.1.drew;clear hb3 hE3 d0 d1 d2 d3 d4 d5 d6 d7;go_upto_region 8 with (fail)
 go_region_held3 (fun w' => w'.cell? ⟨g, 0, none⟩ = some (.int .i64 c.ck) ∧ w'.cell? ⟨g, 1, none⟩ = some (.int .i64 c.dl) ∧ w'.cell? ⟨g, 2, none⟩ = some (.int .i64 c.lc) ∧ w'.cell? ⟨g, 3, none⟩ = some (.int .i64 c.lp) ∧ w'.cell? ⟨g, 4, none⟩ = some (.int .i64 c.pb) ∧ w'.cell? ⟨g, 5, none⟩ = some (.int .i64 c.dict) ∧ w'.cell? ⟨g, 6, none⟩ = some (.int .i64 c.blk) ∧ w'.cell? ⟨g, 7, none⟩ = some (.int .i64 c.mode))
  (first | (with_reducible exact ⟨c0, c1, c2, c3, c4, c5, c6, c7⟩) | (with_reducible exact ⟨d0, d1, d2, d3, d4, d5, d6, d7⟩) | go_keep)
  (first | (go_at_call 80; refine (SNew_agg w3.drew).mono ?_; rintro e w4 ⟨rfl, hb4⟩; have HB4 := Lib.hid (And.intro (bup HB3.out.1.drew hb4) (And.intro (HB3.out.2.1.drew.below hb4) (HB3.out.2.2.below (bup (Below.refl _ _).drew hb4)))); obtain ⟨d0, d1, d2, d3, d4, d5, d6, d7⟩ := cfg_cells HB4.out.2.1; have ne4 : ¬ g = w4.heap.size := (by have := HB4.out.2.1.lt; omega); clear hb4))
 go_wp2_with fail;obtain ⟨P, hP⟩ : ∃ x, w4.heap.size = x := ⟨_, rfl⟩;obtain ⟨w5, hw5⟩ : ∃ x, w4.alloc (.cells #[.int .i64 c.ck, .int .i64 c.dl, .int .i64 c.lc, .int .i64 c.lp, .int .i64 c.pb, .int .i64 c.dict, .int .i64 c.blk, .int .i64 c.mode, .slice A m ca, .pointer (some ⟨E, 0, none⟩), .int .i64 0, .int .i64 1, .int .i64 1, .int .i64 1, .int .i64 1, .slice none 0 0, .bool false, .bool false, .bool false] 160) = x := ⟨_, rfl⟩
 have hb5 : Below w4.heap.size w4 w5 := by rw [← hw5]; exact (Below.refl _ _).alloc (Nat.le_refl _) _
 have hP5 : Blk w5 P 160 (pkC c A m ca E) := by rw [← hw5]; exact Blk.new_at hP.symm
 have H5 := Lib.hid (And.intro (bup HB4.out.1 hb5) (And.intro hP5 (HB4.out.2.2.below hb5)));have HPw : Hid (w.heap.size ≤ P) := Lib.hid (by rw [← hP]; exact HB4.out.1.size)
 rw [hw5, hP];clear hb5 hP5 hw5 hP ne4 d0 d1 d2 d3 d4 d5 d6 d7 c0 c1 c2 c3 c4 c5 c6 c7
 go_loopw [9] (fun s9 wr => (s9 = .int .i64 0 ∧ wr = w5) ∨ (s9 = .int .i64 65536 ∧ Hid (∃ O oc cs, Blk wr P 160 cs ∧ cs[15]? = some (.slice O (3 + m) oc) ∧ wr.ownsRow w.heap.size 5 1 (.slice O (3 + m) oc) (3 + m) (bys (1 :: beN 2 (m - 1) ++ l)) ∧ Below w.heap.size w wr))) (fun s9 _ => 65536 - (intOf s9).toNat)
 case atStart => exact .inl ⟨rfl, rfl⟩
 case round =>
  have hm1 := HX.out.2.2.2.1;have hm2 := HX.out.2.2.2.2.1;rcases hrel with ⟨rfl, rfl⟩ | ⟨rfl, HJ⟩
  · have y1 : (0 : Int) < (m : Int) := by omega
    have HMn : Hid (min (65536 : Int) (m : Int) = (m : Int)) := Lib.hid (by omega)
    obtain ⟨Q, hQ⟩ : ∃ x, wr.heap.size = x := ⟨_, rfl⟩;obtain ⟨w6, hw6⟩ : ∃ x, wr.alloc (.cells #[.func (.func 82) #[.pointer (some ⟨P, 0, none⟩)] #[], .func (.func 83) #[.pointer (some ⟨P, 0, none⟩)] #[]] 220) = x := ⟨_, rfl⟩;have hb6 : Below wr.heap.size wr w6 := by rw [← hw6]; exact (Below.refl _ _).alloc (Nat.le_refl _) _
    have hQ6 : Blk w6 Q 220 #[.func (.func 82) #[.pointer (some ⟨P, 0, none⟩)] #[], .func (.func 83) #[.pointer (some ⟨P, 0, none⟩)] #[]] := by rw [← hw6]; exact Blk.new_at hQ.symm
    have hB6 := bup H5.out.1 hb6;have HWr := Lib.hid (write_raw c A m ca E P Q _ x _ wb eb none l w6 (H5.out.2.1.below hb6) (H5.out.2.2.below hb6) (HX.out.1.below hB6) HX.out.2.1 (fun ad had => Nat.lt_of_lt_of_le (HX.out.2.2.1 ad had) hB6.size) HX.out.2.2.2.2.2.1 hm2 hm1 hQ6)
    have H6 := Lib.hid (And.intro hB6 (And.intro hw6 hQ));clear hb6 hQ6 hB6 hw6 hQ;go_wp2_with fail;rw [H6.out.2.1, H6.out.2.2, HMn.out];refine HWr.out.mono ?_;rintro e w7 hh;obtain ⟨rfl, O, oc, cs, hk7, h15, ho7, hf7⟩ := hh;have H7 := Lib.hid (show ∃ O oc cs, Blk w7 P 160 cs ∧ cs[15]? = some (.slice O (3 + m) oc) ∧ w7.ownsRow w.heap.size 5 1 (.slice O (3 + m) oc) (3 + m) (bys (1 :: beN 2 (m - 1) ++ l)) ∧ Below w.heap.size w w7 from
     ⟨O, oc, cs, hk7, h15, own_mono ho7 H6.out.1.size, H6.out.1.trans (hf7.below H6.out.1.size (fun k hk => by have hk : k = P := hk; have := HPw.out; omega))⟩)
    clear hk7 h15 ho7 hf7;go_wp2_with fail
    go_roundw
    case rel => exact .inr ⟨rfl, H7⟩
    case measure => simp [intOf]
  · have y1 : ¬ (65536 : Int) < (m : Int) := by omega
    obtain ⟨O, oc, cs, hk, h15, ho, hb⟩ := HJ.out;have p15 := (hk.cell 15).trans h15;have hs := hb.size;have HO := Lib.hid (And.intro (own_below ho ((Below.refl _ _).alloc (Nat.le_refl _) (.cells #[.int .u8 0] 5))) (hb.alloc hb.size (.cells #[.int .u8 0] 5)));have HI := Lib.hid (in_new (w := wr) (r := [0]) (cs := #[.int .u8 0]) rfl (by simp))
    clear hk h15 ho hb HJ;go_wp2_with (at_builtin; refine wpList_byt (w := wr.alloc (.cells #[.int .u8 0] 5)) rfl (.tmp 55) (.tmp 56) rfl w.heap.size O (3 + m) oc (1 :: beN 2 (m - 1) ++ l) rfl HO.out.1 (some ⟨wr.heap.size, 0, none⟩) 1 1 [0] rfl HI.out HO.out.2.size (by omega) ?_; intro A' c' w9 ho9 hb9 hg9 hat9)
    go_wp2_with fail;refine bodyPost_ret (v := .tuple #[.slice A' (3 + m + 1) c', .int .i64 0]) (by simp [results, Tryz.results55, go_sem]) rfl ?_
    have hl : (rawR l).length = 3 + m + 1 := by unfold rawR; rw [List.length_append, List.length_append, HX.out.2.2.2.2.2.2]; simp [beN]
    refine ⟨A', c', by rw [hl], ?_, HO.out.2.trans hb9⟩
    rw [hl, show rawR l = (1 :: beN 2 (m - 1) ++ l) ++ [0] by unfold rawR; rw [HX.out.2.2.2.2.2.2]]
    exact ho9
theorem zc_list (k : Nat) : (Builtin.zeroCells (Value.int .u8 0).cells k).toList = bys (List.replicate k 0) := by
 apply List.ext_getElem?;intro j;simp only [Builtin.zeroCells, Value.cells, bys, List.getElem?_map, List.getElem?_replicate, Array.getElem?_toList, Array.getElem?_map];by_cases hj : j < k
 · rw [if_pos hj, Array.getElem?_eq_getElem (by simpa using hj)]
   simp [Nat.mod_one]
 · rw [if_neg hj, Array.getElem?_eq_none (by simpa using hj)]
   rfl
theorem run_append_mk {w : World} (B n c k : Nat) (A : Option Addr) (l : List UInt8) (ty : TypeId) (hown : w.ownsRow B 5 1 (.slice A n c) n (bys l)) (h0 : 0 < n) (hlen : n + k ≤ 1099511627776) (hB : B ≤ w.heap.size) :
 ∃ A' c' w', (Builtin.append_ #[22, 3] ty #[.slice A n c, .int .i64 k]).run Tryz.prog w = .ok (.slice A' (n + k) c') w' ∧ w'.ownsRow B 5 1 (.slice A' (n + k) c') (n + k) (bys (l ++ List.replicate k 0)) ∧ w.grownBy w' (Value.slice A n c).ownBlock := by
 obtain ⟨i0, hi, hz, hz1, hz2⟩ := info_parts infou8;have ht := Tryz.underlying22;have htn := Tryz.underlying3;have hw : IntKind.i64.wrap (k : Int) = k := IntWalk.i64_in _ (by omega)
 have hneg : ¬ ((k : Int) < 0) := by omega
 have h48 : ¬ (281474976710656 < (k : Int)) := by omega
 have hnews : (bys (List.replicate k 0)).length = k := by simp [bys]
 have hone : ∀ u ∈ bys (List.replicate k 0), u.oneCell' = true := bys_one _;have hll : (bys l).length = n := by have := hown.1; omega
 rcases hown.2 with ⟨hv, _⟩ | ⟨g, cap, cur, hv, hbg, hg, hnc, hcm, hcs, htake⟩
 · injection hv with _ h2 _;omega
 · injection hv with e1 e2 e3;subst e1 e3;by_cases hroom : n + k ≤ c
   · have hfit : n * 1 + (bys (List.replicate k 0)).length ≤ cur.size := by rw [hnews, hcs]; omega
     have hst := run_storeCells_at Tryz.prog g (n * 1) 5 (bys (List.replicate k 0)) 0 cur w hg (by simpa using hfit) hone
     simp only [Nat.add_zero, Nat.mul_one, List.append_assoc] at hst;have z0 : IntKind.i64.wrap 0 = 0 := rfl;have hrun : (Builtin.append_ #[22, 3] ty #[.slice (some ⟨g, 0, none⟩) n c, .int .i64 k]).run Tryz.prog w = .ok (.slice (some ⟨g, 0, none⟩) (n + k) c) (if k = 0 then w else w.setRow g (cur.toList.take (n * 1) ++ bys (List.replicate k 0) ++ cur.toList.drop (n * 1 + (bys (List.replicate k 0)).length)).toArray) := by
      by_cases hk : k = 0
      · subst hk;simp [Builtin.append_, run_underlying ht, run_underlying htn, sizeOf, typeInfo, hi, asInt, asIntOf, z0, hnc, Addr.add_lit, storeCells]
      · simp [Builtin.append_, run_underlying ht, run_underlying htn, sizeOf, typeInfo, zeroValue, hi, hz, hz1, hz2, asInt, asIntOf, hw, hneg, h48, hroom, hk, Addr.add_lit, zc_list, hst]
     refine ⟨_, _, _, hrun, ?_, ?_⟩
     · by_cases hk : k = 0
       · subst hk;rw [if_pos rfl];simpa using hown
       · rw [if_neg hk];refine ⟨by rw [bys_append, List.length_append, hll, hnews, Nat.mul_one], .inr ⟨g, c, _, rfl, hbg, setRow_heap w g cur _ _ _ hg, hroom, hcm, ?_, ?_⟩⟩
         · simp only [List.size_toArray, List.length_append, List.length_take, List.length_drop, Array.length_toList];omega
         · rw [htake, bys_append, Nat.mul_one, show n + k = (bys l ++ bys (List.replicate k 0)).length by rw [List.length_append, hll, hnews]]
           exact List.take_left
     · split
       · exact ⟨rfl, rfl, rfl, Nat.le_refl _, fun _ _ _ => rfl⟩
       · exact ⟨rfl, rfl, rfl, by simp, fun j _ hj => setRow_other w g j _ (fun e => hj (by simp [Value.ownBlock, e]))⟩
   · have holds : ∀ j u, (bys l)[j]? = some u → w.cell? ((⟨g, 0, none⟩ : Addr).add j) = some u := World.ownsRow.cells hown (g := g) rfl;have hf := run_firstCells_some (P := Tryz.prog) w.drew 1 n ⟨g, 0, none⟩ n c (bys l) (by rw [hll, Nat.mul_one]) (by simpa using holds)
     have hk : k ≠ 0 := by omega
     have h63 : ¬ (9223372036854775807 < ((n : Int) + (k : Int))) := by omega
     have hgs : ¬ (281474976710656 < Builtin.nextslicecap (n + k) c) := by
      have := growslice_fits (need := n + k) (old := c) (bytes := 1) (by omega) (by omega)
      omega
     have hrun : (Builtin.append_ #[22, 3] ty #[.slice (some ⟨g, 0, none⟩) n c, .int .i64 k]).run Tryz.prog w = .ok (.slice (some ⟨w.heap.size, 0, none⟩) (n + k) (grownCap w (n + k) c 5)) (w.drew.alloc (.cells ((bys l).toArray ++ (Builtin.zeroCells (Value.int .u8 0).cells k ++ Builtin.zeroCells (Value.int .u8 0).cells (grownCap w (n + k) c 5 - (n + k)))) 5)) := by
      simp [Builtin.append_, run_underlying ht, run_underlying htn, sizeOf, typeInfo, zeroValue, hi, hz, hz1, hz2, asInt, asIntOf, hw, hneg, h48, hroom, hk, h63, hgs, Question.forced, hf, newRow, grownCap]
     have hge := grownCap_ge w (n + k) c 5;refine ⟨_, _, _, hrun, ⟨by rw [bys_append, List.length_append, hll, hnews, Nat.mul_one], .inr ⟨w.heap.size, _, _, rfl, hB, heap_alloc_new w.drew _, hge, grownCap_le_maxLen w (n + k) c 5 (by unfold maxLen; omega), ?_, ?_⟩⟩, ⟨rfl, rfl, rfl, by simp, fun j hj _ => heap_alloc_old w.drew _ hj⟩⟩
     · simp only [Array.size_append, List.size_toArray, size_zeroCells, Value.cells, hll];simp;omega
     · rw [Array.toList_append, Array.toList_append, zc_list, bys_append, ← List.append_assoc, Nat.mul_one, show n + k = (bys l ++ bys (List.replicate k 0)).length by rw [List.length_append, hll, hnews]]
       exact List.take_left
theorem wpList_bmk {ops : Array Oper} {rest : List Oper} {o : Oper} {a : Act} {Q : Exit → Act → World → Prop} {w : World} (hgd : o.guard = none) (s x : Operand)
 (ho : o.op = .call { callee := .builtin .append, args := #[s, x], argTypes := #[22, 3] }) (B n c k : Nat) (A : Option Addr) (l : List UInt8) (hs : a.eval s = .slice A n c) (hx : a.eval x = .int .i64 k) (hown : w.ownsRow B 5 1 (.slice A n c) n (bys l)) (h0 : 0 < n) (hlen : n + k ≤ 1099511627776) (hB : B ≤ w.heap.size)
 (h : ∀ A' c' w', w'.ownsRow B 5 1 (.slice A' (n + k) c') (n + k) (bys (l ++ List.replicate k 0)) → Below B w w' → Fr (fun j => some j = (Value.slice A n c).ownBlock) w w' → wpList Tryz.prog ops Q rest (a.put o.dst (.slice A' (n + k) c')) w') : wpList Tryz.prog ops Q (o :: rest) a w := by
 refine wpList_plain hgd fun _ hK => ?_
 obtain ⟨A', c', w', hr, h2, h3⟩ := run_append_mk B n c k A l o.type hown h0 hlen hB;unfold Oper.wp execOp;simp only [ho, resolve, invoke, builtin, Sem.run_bind, Sem.run_pure, Result.andThen_ok, List.map_toArray, List.map_cons, List.map_nil, hs, hx, hr];exact hK _ _ (h A' c' w' h2 (Below.grown (Below.refl _ w) h3 hB fun j hj => (own_lt hown hj).1) ((Fr.refl _ _).grown h3 fun g hg => .inl hg.symm))
theorem cEnc_0 (c : Cfg) (h : c.Ok) (h0 : c.dl = 0) (A : Option Addr) (m ca : Nat) (row : List UInt8) (w : World)
 (hR : ∀ W, Below w.heap.size w W → Calls Tryz.prog 55 #[.slice A m ca, .agg #[.int .i64 c.ck, .int .i64 c.dl, .int .i64 c.lc, .int .i64 c.lp, .int .i64 c.pb, .int .i64 c.dict, .int .i64 c.blk, .int .i64 c.mode]] W (Gv row W)) :
 Calls Tryz.prog 32 #[.slice A m ca, .agg #[.int .i64 c.ck, .int .i64 c.dl, .int .i64 c.lc, .int .i64 c.lp, .int .i64 c.pb, .int .i64 c.dict, .int .i64 c.blk, .int .i64 c.mode]] w (Gv row w) := by
 have HL := Lib.hid (fun W => Legal_any c h W)
 have HR := Lib.hid hR;have q0 : ((c.dl : Int) != 0) = false := by rw [bne_eq_false_iff_eq]; omega
 obtain ⟨w1, hw1⟩ : ∃ x, w.alloc (.cells #[.int .i64 c.ck, .int .i64 c.dl, .int .i64 c.lc, .int .i64 c.lp, .int .i64 c.pb, .int .i64 c.dict, .int .i64 c.blk, .int .i64 c.mode] 26) = x := ⟨_, rfl⟩;obtain ⟨g, hg⟩ : ∃ x, w.heap.size = x := ⟨_, rfl⟩;have hb1 : Below w.heap.size w w1 := by rw [← hw1]; exact (Below.refl _ _).alloc (Nat.le_refl _) _
 have hk1 : Blk w1 g 26 #[.int .i64 c.ck, .int .i64 c.dl, .int .i64 c.lc, .int .i64 c.lp, .int .i64 c.pb, .int .i64 c.dict, .int .i64 c.blk, .int .i64 c.mode] := by rw [← hw1]; exact Blk.new_at hg.symm
 have HW := Lib.hid (And.intro hw1 (And.intro hg (And.intro hb1 hk1)));obtain ⟨c0, c1, c2, c3, c4, c5, c6, c7⟩ := cfg_cells hk1;clear hw1 hg hb1 hk1 hR h0;go_enter Tryz.func32, Tryz.ntmps32;go_upto_region 1 with (fail);rw [HW.out.1, HW.out.2.1];go_wp2_with fail;refine (HL.out w1).mono ?_;rintro e w2 ⟨rfl, hb2⟩;have HB2 := Lib.hid (bup HW.out.2.2.1 hb2);obtain ⟨d0, d1, d2, d3, d4, d5, d6, d7⟩ := cfg_cells (HW.out.2.2.2.below hb2)
 clear hb2 c0 c1 c2 c3 c4 c5 c6 c7;go_wp2_with fail;refine (HR.out w2 HB2.out).mono ?_;rintro e w3 ⟨A3, c3', rfl, ho3, hb3⟩;have H3 := Lib.hid (And.intro (own_mono ho3 HB2.out.size) (bup HB2.out hb3));obtain ⟨n, hn⟩ : ∃ n, row.length = n := ⟨_, rfl⟩;have HN := Lib.hid hn;rw [hn];clear ho3 hb3 hn;go_wp2_with fail;refine bodyPost_ret (v := .tuple #[.slice A3 n c3', .int .i64 0]) (by simp [results, Tryz.results32, go_sem]) rfl ?_
 exact ⟨A3, c3', by rw [HN.out], H3.out⟩
end Go.Proofs.YtcjehjdehdoaeaaGreatDoor
