/-
  Laws on the way to the claim (OuJ OuK OuL OuM). Conditions: those that each theorem states.
-/
import Derived.Test.YtcjehjdehdoaeaaGreatDoorOm45
set_option linter.unusedVariables false
set_option linter.unusedSimpArgs false
set_option maxRecDepth 1000000
set_option maxHeartbeats 16000000
namespace Go.Proofs.YtcjehjdehdoaeaaGreatDoor
open Go.RowKit
def fkO (i : Nat) : Nat := [8, 9, 10, 11, 12, 13, 14, 23, 24, 25].getD i 8
def fkK (i : Nat) : Nat := fkO i - 8
def fkC (F : Nat) : Array Value := #[.pointer (some ⟨F, 8, none⟩), .pointer (some ⟨F, 9, none⟩), .pointer (some ⟨F, 10, none⟩), .pointer (some ⟨F, 11, none⟩), .pointer (some ⟨F, 12, none⟩), .pointer (some ⟨F, 13, none⟩), .pointer (some ⟨F, 14, none⟩), .pointer (some ⟨F, 23, none⟩), .pointer (some ⟨F, 24, none⟩), .pointer (some ⟨F, 25, none⟩)]
theorem fk_at {F i : Nat} (h : i < 10) : (fkC F)[i]? = some (.pointer (some ⟨F, fkO i, none⟩)) := by
 obtain rfl | rfl | rfl | rfl | rfl | rfl | rfl | rfl | rfl | rfl : i = 0 ∨ i = 1 ∨ i = 2 ∨ i = 3 ∨ i = 4 ∨ i = 5 ∨ i = 6 ∨ i = 7 ∨ i = 8 ∨ i = 9 := by omega
 all_goals rfl
theorem fk_tb {x : TbX} {t : Tb} {i : Nat} (h : i < 10) : (tbC x t)[fkO i]? = some (.pointer (some ⟨x.sb (fkK i), 0, none⟩)) ∧ fkK i < 18 := by
 obtain rfl | rfl | rfl | rfl | rfl | rfl | rfl | rfl | rfl | rfl : i = 0 ∨ i = 1 ∨ i = 2 ∨ i = 3 ∨ i = 4 ∨ i = 5 ∨ i = 6 ∨ i = 7 ∨ i = 8 ∨ i = 9 := by omega
 all_goals exact ⟨rfl, by decide⟩
theorem fk_ne {i j : Nat} (hi : i < 10) (hj : j < 10) (h : i ≠ j) : fkO i ≠ fkO j := by
 have : ∀ a b : Fin 10, a ≠ b → fkO a.val ≠ fkO b.val := by decide
 exact this ⟨i, hi⟩ ⟨j, hj⟩ (fun e => h (congrArg Fin.val e))
theorem sT26 : (Tryz.prog.info? 254).map (·.size) = some 26 := by kernel_rfl
theorem tb_one (x : TbX) (t : Tb) : (tbC x t).all (·.oneCell') = true := by simp [tbC, ptrV, Value.oneCell']
theorem TFork_any (B : Nat) (x : TbX) (t : Tb) (w : World) (h : TbIn B x t w) :
 Calls Tryz.prog 121 #[.pointer (some ⟨x.tb, 0, none⟩)] w fun e w' => e = .returned (.pointer (some ⟨w.heap.size, 0, none⟩)) ∧ Below w.heap.size w w' := by
 obtain ⟨F, hF⟩ : ∃ z, w.heap.size = z := ⟨_, rfl⟩;have HT := Lib.hid (fun W (hb : Below w.heap.size w W) => h.below hb)
 have HF := Lib.hid hF;have hbk := h.b;have hall := tb_one x t;have hsz : (tbC x t).size = 26 := rfl;have hfk := fun i (h : i < 10) => fk_tb (x := x) (t := t) h
 have hle : ∀ k, k < 8 → (tbC x t)[15 + k]? = some (.pointer (some ⟨x.sb (7 + k), 0, none⟩)) := fun k hk => by
  obtain rfl | rfl | rfl | rfl | rfl | rfl | rfl | rfl : k = 0 ∨ k = 1 ∨ k = 2 ∨ k = 3 ∨ k = 4 ∨ k = 5 ∨ k = 6 ∨ k = 7 := by omega
  all_goals rfl
 have hps := fun k (h2 : k < 18) W (hb : Below w.heap.size w W) => (h.below hb).set h2
 obtain ⟨C, hC⟩ : ∃ z, tbC x t = z := ⟨_, rfl⟩;rw [hC] at hbk hall hsz hfk hle;have HC := Lib.hid (show (Tryz.prog.info? 254).map (·.size) = some C.size ∧ 26 = C.size ∧ C.all (·.oneCell') = true from ⟨by rw [hsz]; exact sT26, hsz.symm, hall⟩)
 have HBK := Lib.hid hbk;have HFk := Lib.hid (And.intro hfk (And.intro hps hle));clear h hF hall hsz hfk hbk hps hC hle;go_enter Tryz.func121, Tryz.ntmps121;go_upto_region 2 with (first | (refine wpList_load_row rfl 254 (.tmp 7) rfl x.tb rfl 254 C (0, 0) _ HBK.out Tryz.underlying254 rfl HC.out.1 ?_) | (refine wpList_store_row rfl 254 (.tmp 3) (.tmp 8) rfl w.heap.size C rfl rfl 254 #[.int .i64 0, .int .i64 0, .int .i64 0, .int .i64 0, .int .i64 0, .int .i64 0, .int .i64 0, .int .i64 0, .pointer none, .pointer none, .pointer none, .pointer none, .pointer none, .pointer none, .pointer none, .pointer none, .pointer none, .pointer none, .pointer none, .pointer none, .pointer none, .pointer none, .pointer none, .pointer none, .pointer none, .pointer none] (Blk.new_at rfl) HC.out.1 HC.out.2.1 HC.out.2.2 ?_))
 obtain ⟨w1, hw1⟩ : ∃ z, (w.alloc (.cells #[.int .i64 0, .int .i64 0, .int .i64 0, .int .i64 0, .int .i64 0, .int .i64 0, .int .i64 0, .int .i64 0, .pointer none, .pointer none, .pointer none, .pointer none, .pointer none, .pointer none, .pointer none, .pointer none, .pointer none, .pointer none, .pointer none, .pointer none, .pointer none, .pointer none, .pointer none, .pointer none, .pointer none, .pointer none] 254)).setRow w.heap.size C = z := ⟨_, rfl⟩
 have hF1 : Blk w1 F 254 C := by rw [← hw1, ← HF.out]; exact setRow_heap _ _ _ _ _ _ (Blk.new _ _ _)
 have hb1 : Below w.heap.size w w1 := by
  rw [← hw1];have hal : Below w.heap.size w (w.alloc (.cells #[.int .i64 0, .int .i64 0, .int .i64 0, .int .i64 0, .int .i64 0, .int .i64 0, .int .i64 0, .int .i64 0, .pointer none, .pointer none, .pointer none, .pointer none, .pointer none, .pointer none, .pointer none, .pointer none, .pointer none, .pointer none, .pointer none, .pointer none, .pointer none, .pointer none, .pointer none, .pointer none, .pointer none, .pointer none] 254)) := (Below.refl _ _).alloc (Nat.le_refl _) _
  have hfr : Fr (fun k => k = w.heap.size) (w.alloc (.cells #[.int .i64 0, .int .i64 0, .int .i64 0, .int .i64 0, .int .i64 0, .int .i64 0, .int .i64 0, .int .i64 0, .pointer none, .pointer none, .pointer none, .pointer none, .pointer none, .pointer none, .pointer none, .pointer none, .pointer none, .pointer none, .pointer none, .pointer none, .pointer none, .pointer none, .pointer none, .pointer none, .pointer none, .pointer none] 254)) ((w.alloc (.cells #[.int .i64 0, .int .i64 0, .int .i64 0, .int .i64 0, .int .i64 0, .int .i64 0, .int .i64 0, .int .i64 0, .pointer none, .pointer none, .pointer none, .pointer none, .pointer none, .pointer none, .pointer none, .pointer none, .pointer none, .pointer none, .pointer none, .pointer none, .pointer none, .pointer none, .pointer none, .pointer none, .pointer none, .pointer none] 254)).setRow w.heap.size C) := ⟨rfl, rfl, rfl, by simp [World.setRow], fun k _ hk => setRow_other _ _ k _ hk⟩
  exact hal.trans (hfr.below hal.size (fun k hk => Nat.le_of_eq (Eq.symm hk)))
 rw [hw1, HF.out];have H1 := Lib.hid (And.intro hF1 hb1);clear hw1 hF1 hb1;obtain ⟨G, hG⟩ : ∃ z, w1.heap.size = z := ⟨_, rfl⟩;obtain ⟨w2, hw2⟩ : ∃ z, w1.alloc (.cells #[.pointer (some ⟨F, 8, none⟩), .pointer (some ⟨F, 9, none⟩), .pointer (some ⟨F, 10, none⟩), .pointer (some ⟨F, 11, none⟩), .pointer (some ⟨F, 12, none⟩), .pointer (some ⟨F, 13, none⟩), .pointer (some ⟨F, 14, none⟩), .pointer (some ⟨F, 23, none⟩), .pointer (some ⟨F, 24, none⟩), .pointer (some ⟨F, 25, none⟩)] 296) = z := ⟨_, rfl⟩
 have hb2 : Below w1.heap.size w1 w2 := by rw [← hw2]; exact (Below.refl _ _).alloc (Nat.le_refl _) _
 have hG2 : Blk w2 G 296 (fkC F) := by rw [← hw2]; exact Blk.new_at hG.symm
 have H2 := Lib.hid (And.intro (bup H1.out.2 hb2) (And.intro hG2 (And.intro (H1.out.1.below hb2) (And.intro hw2 hG))));have HGF : Hid (¬ G = F) := Lib.hid (by have := H1.out.1.lt; omega)
 clear hb2 hG2 hw2 hG;go_wp2_with fail;rw [H2.out.2.2.2.1, H2.out.2.2.2.2]
 go_loopw [21] (fun s21 wr => ∃ i : Nat, s21 = .int .i64 (i : Int) ∧ i ≤ 10 ∧ Hid (Below w.heap.size w wr ∧ Blk wr G 296 (fkC F) ∧ ∃ D, Blk wr F 254 D ∧ D.size = 26 ∧ ∀ j, i ≤ j → j < 10 → D[fkO j]? = some (.pointer (some ⟨x.sb (fkK j), 0, none⟩)))) (fun s21 _ => 10 - (intOf s21).toNat)
 case atStart => exact ⟨0, rfl, by decide, Lib.hid ⟨H2.out.1, H2.out.2.1, C, H2.out.2.2.1, HC.out.2.1.symm, fun j _ hj => (HFk.out.1 j hj).1⟩⟩
 case round =>
  obtain ⟨i, rfl, hi, HJ⟩ := hrel;obtain ⟨hb, hG, D, hD, hsz, hj⟩ := HJ.out;by_cases hin : i < 10
  · have hin' : (i : Int) < 10 := by omega
    have g0 := (hG.cell i).trans (fk_at (F := F) hin);have d0 := (hD.cell (fkO i)).trans (hj i (Nat.le_refl _) hin);have f0 := hD.frozen (fkO i);have HS := Lib.hid (SFork_any _ _ _ wr (HFk.out.2.1 (fkK i) (HFk.out.1 i hin).2 wr hb));have HN := Lib.hid (fun j (h1 : j < 10) (h2 : i ≠ j) => fk_ne hin h1 h2)
    obtain ⟨o, ho⟩ : ∃ z, fkO i = z := ⟨_, rfl⟩;obtain ⟨sb, hsb⟩ : ∃ z, x.sb (fkK i) = z := ⟨_, rfl⟩;rw [ho] at g0 d0 f0 HN;rw [hsb] at d0 HS;have HB := Lib.hid (And.intro hb (And.intro hG (And.intro hD (And.intro hsz hj))));clear hb hG hD hsz hj HJ ho hsb;go_wp2_with fail;refine HS.out.mono ?_;rintro e w5 ⟨k, rfl, hb5⟩;have hD5 := HB.out.2.2.1.below hb5;have e0 := (hD5.cell o).trans ((HB.out.2.2.1.cell o).symm.trans d0)
    have e1 := hD5.frozen o;have H5 := Lib.hid (And.intro (bup HB.out.1 hb5) (And.intro (HB.out.2.1.below hb5) hD5));clear hb5 hD5 d0 f0 g0;go_wp2_with fail
    go_roundw
    case rel =>
     refine ⟨i + 1, by go_num, by omega, Lib.hid ⟨H5.out.1.setCell (p := ⟨F, o, none⟩) (by have := HF.out; show _ ≤ F; omega) _, H5.out.2.1.far (p := ⟨F, o, none⟩) HGF.out _, _, H5.out.2.2.set_ o _, by rw [Array.size_setIfInBounds]; exact HB.out.2.2.2.1, fun j h1 h2 => ?_⟩⟩
     rw [Array.getElem?_setIfInBounds_ne (HN.out j h2 (by omega))]
     exact HB.out.2.2.2.2 j (by omega) h2
    case measure => simp [intOf]; omega
  · obtain rfl : i = 10 := by omega
    clear hin;have hT := (HBK.out.below hb).drew;have HLa := Lib.hid (fun W (hw : Below w.heap.size w W) => LFork_any _ _ _ _ _ _ _ _ _ _ _ _ W (HFk.out.2.1 7 (by decide) W hw) (HFk.out.2.1 8 (by decide) W hw) (HFk.out.2.1 9 (by decide) W hw) (HFk.out.2.1 10 (by decide) W hw))
    have HLb := Lib.hid (fun W (hw : Below w.heap.size w W) => LFork_any _ _ _ _ _ _ _ _ _ _ _ _ W (HFk.out.2.1 11 (by decide) W hw) (HFk.out.2.1 12 (by decide) W hw) (HFk.out.2.1 13 (by decide) W hw) (HFk.out.2.1 14 (by decide) W hw))
    obtain ⟨s0, e0⟩ : ∃ z, x.sb 7 = z := ⟨_, rfl⟩;obtain ⟨s1, e1⟩ : ∃ z, x.sb 8 = z := ⟨_, rfl⟩;obtain ⟨s2, e2⟩ : ∃ z, x.sb 9 = z := ⟨_, rfl⟩;obtain ⟨s3, e3⟩ : ∃ z, x.sb 10 = z := ⟨_, rfl⟩;obtain ⟨s4, e4⟩ : ∃ z, x.sb 11 = z := ⟨_, rfl⟩;obtain ⟨s5, e5⟩ : ∃ z, x.sb 12 = z := ⟨_, rfl⟩;obtain ⟨s6, e6⟩ : ∃ z, x.sb 13 = z := ⟨_, rfl⟩;obtain ⟨s7, e7⟩ : ∃ z, x.sb 14 = z := ⟨_, rfl⟩;rw [e0, e1, e2, e3] at HLa
    rw [e4, e5, e6, e7] at HLb;have HE := Lib.hid (fun W (h : Blk W x.tb 254 C) => show World.cell? W ⟨x.tb, 15, none⟩ = some (.pointer (some ⟨s0, 0, none⟩)) ∧ World.cell? W ⟨x.tb, 16, none⟩ = some (.pointer (some ⟨s1, 0, none⟩)) ∧ World.cell? W ⟨x.tb, 17, none⟩ = some (.pointer (some ⟨s2, 0, none⟩)) ∧ World.cell? W ⟨x.tb, 18, none⟩ = some (.pointer (some ⟨s3, 0, none⟩)) ∧ World.cell? W ⟨x.tb, 19, none⟩ = some (.pointer (some ⟨s4, 0, none⟩)) ∧ World.cell? W ⟨x.tb, 20, none⟩ = some (.pointer (some ⟨s5, 0, none⟩)) ∧ World.cell? W ⟨x.tb, 21, none⟩ = some (.pointer (some ⟨s6, 0, none⟩)) ∧ World.cell? W ⟨x.tb, 22, none⟩ = some (.pointer (some ⟨s7, 0, none⟩)) from ⟨by rw [← e0]; exact (h.cell 15).trans (HFk.out.2.2 0 (by decide)), by rw [← e1]; exact (h.cell 16).trans (HFk.out.2.2 1 (by decide)), by rw [← e2]; exact (h.cell 17).trans (HFk.out.2.2 2 (by decide)), by rw [← e3]; exact (h.cell 18).trans (HFk.out.2.2 3 (by decide)), by rw [← e4]; exact (h.cell 19).trans (HFk.out.2.2 4 (by decide)), by rw [← e5]; exact (h.cell 20).trans (HFk.out.2.2 5 (by decide)), by rw [← e6]; exact (h.cell 21).trans (HFk.out.2.2 6 (by decide)), by rw [← e7]; exact (h.cell 22).trans (HFk.out.2.2 7 (by decide))⟩)
    obtain ⟨a0, a1, a2, a3, a4, a5, a6, a7⟩ := HE.out _ hT;obtain ⟨v0, hv0⟩ : ∃ v, D[15]? = some v := ⟨_, Array.getElem?_eq_getElem (by omega)⟩
    obtain ⟨v1, hv1⟩ : ∃ v, D[16]? = some v := ⟨_, Array.getElem?_eq_getElem (by omega)⟩
    obtain ⟨v2, hv2⟩ : ∃ v, D[17]? = some v := ⟨_, Array.getElem?_eq_getElem (by omega)⟩
    obtain ⟨v3, hv3⟩ : ∃ v, D[18]? = some v := ⟨_, Array.getElem?_eq_getElem (by omega)⟩
    obtain ⟨v4, hv4⟩ : ∃ v, D[19]? = some v := ⟨_, Array.getElem?_eq_getElem (by omega)⟩
    obtain ⟨v5, hv5⟩ : ∃ v, D[20]? = some v := ⟨_, Array.getElem?_eq_getElem (by omega)⟩
    obtain ⟨v6, hv6⟩ : ∃ v, D[21]? = some v := ⟨_, Array.getElem?_eq_getElem (by omega)⟩
    obtain ⟨v7, hv7⟩ : ∃ v, D[22]? = some v := ⟨_, Array.getElem?_eq_getElem (by omega)⟩
    have HV := Lib.hid (fun W (h : Blk W F 254 D) => show World.cell? W ⟨F, 15, none⟩ = some v0 ∧ World.cell? W ⟨F, 16, none⟩ = some v1 ∧ World.cell? W ⟨F, 17, none⟩ = some v2 ∧ World.cell? W ⟨F, 18, none⟩ = some v3 ∧ World.cell? W ⟨F, 19, none⟩ = some v4 ∧ World.cell? W ⟨F, 20, none⟩ = some v5 ∧ World.cell? W ⟨F, 21, none⟩ = some v6 ∧ World.cell? W ⟨F, 22, none⟩ = some v7 from ⟨(h.cell 15).trans hv0, (h.cell 16).trans hv1, (h.cell 17).trans hv2, (h.cell 18).trans hv3, (h.cell 19).trans hv4, (h.cell 20).trans hv5, (h.cell 21).trans hv6, (h.cell 22).trans hv7⟩)
    have HB := Lib.hid (And.intro hb (And.intro hD (And.intro hsz hT)));clear hb hG hD hT hj hsz HJ e0 e1 e2 e3 e4 e5 e6 e7 hv0 hv1 hv2 hv3 hv4 hv5 hv6 hv7;have nf : ¬ x.tb = F := by have := HF.out; have := HBK.out.lt; omega
    have nf2 : ¬ F = x.tb := fun e => nf e.symm
    go_upto_region 7 with (fail)
    go_region_held3 (fun w' => w'.cell? ⟨x.tb, 15, none⟩ = some (.pointer (some ⟨s0, 0, none⟩)) ∧ w'.cell? ⟨x.tb, 16, none⟩ = some (.pointer (some ⟨s1, 0, none⟩)) ∧ w'.cell? ⟨x.tb, 17, none⟩ = some (.pointer (some ⟨s2, 0, none⟩)) ∧ w'.cell? ⟨x.tb, 18, none⟩ = some (.pointer (some ⟨s3, 0, none⟩)) ∧ w'.cell? ⟨x.tb, 19, none⟩ = some (.pointer (some ⟨s4, 0, none⟩)) ∧ w'.cell? ⟨x.tb, 20, none⟩ = some (.pointer (some ⟨s5, 0, none⟩)) ∧ w'.cell? ⟨x.tb, 21, none⟩ = some (.pointer (some ⟨s6, 0, none⟩)) ∧ w'.cell? ⟨x.tb, 22, none⟩ = some (.pointer (some ⟨s7, 0, none⟩)))
     (first | (with_reducible exact ⟨a0, a1, a2, a3, a4, a5, a6, a7⟩) | (with_reducible exact ⟨b0, b1, b2, b3, b4, b5, b6, b7⟩) | (with_reducible exact ⟨c0, c1, c2, c3, c4, c5, c6, c7⟩) | go_keep)
     (first | (go_at_call 146; with_reducible refine (HLa.out wr.drew HB.out.1.drew).mono ?_; rintro e w5 ⟨k0, k1, k2, k3, rfl, hb5⟩; have hT5 := HB.out.2.2.2.below hb5; obtain ⟨b0, b1, b2, b3, b4, b5, b6, b7⟩ := HE.out _ hT5; have H5 := Lib.hid (And.intro (bup HB.out.1.drew hb5) (And.intro hT5 (HB.out.2.1.drew.below hb5))); clear hb5 hT5) | (go_at_call 146; with_reducible refine (HLb.out w5 H5.out.1).mono ?_; rintro e w6 ⟨k4, k5, k6, k7, rfl, hb6⟩; obtain ⟨c0, c1, c2, c3, c4, c5, c6, c7⟩ := HE.out _ (H5.out.2.1.below hb6); have hD6 := H5.out.2.2.below hb6; obtain ⟨d0, d1, d2, d3, d4, d5, d6, d7⟩ := HV.out _ hD6; have f0 := hD6.frozen 15; have f1 := hD6.frozen 16; have f2 := hD6.frozen 17; have f3 := hD6.frozen 18; have f4 := hD6.frozen 19; have f5 := hD6.frozen 20; have f6 := hD6.frozen 21; have f7 := hD6.frozen 22; have H6 := Lib.hid (And.intro (bup H5.out.1 hb6) hD6); clear hb6 hD6))
    have hx : w.heap.size ≤ F := Nat.le_of_eq HF.out;go_wp2_with fail;go_ret;refine ⟨by rw [HF.out]; rfl, ?_⟩
    iterate 8 refine Below.setCell ?_ hx _
    exact H6.out.1
structure En (B E : Nat) (x : TbX) (t : Tb) (wb eb : Nat) (r : Option Nat) (size : Nat) (all : List UInt8) (w : World) : Prop where
 b : Blk w E 217 #[.pointer (some ⟨x.tb, 0, none⟩), .pointer (some ⟨wb, 0, none⟩), .pointer (some ⟨eb, 0, none⟩)]
 t : TbIn B x t w
 v : win.Win w B wb r size all
 e : Blk w eb 256 #[.int .u64 0, .int .u32 4294967295, .int .u8 0, .int .i64 0, .slice none 0 0]
theorem En.below {B E : Nat} {x : TbX} {t : Tb} {wb eb : Nat} {r : Option Nat} {size : Nat} {all : List UInt8} {w w' : World} (h : En B E x t wb eb r size all w) (hb : Below w.heap.size w w') : En B E x t wb eb r size all w' := ⟨h.b.below hb, h.t.below hb, h.v.below hb, h.e.below hb⟩
theorem ENew_any (lc lp pb size : Nat) (w : World) (h1 : lc + lp ≤ 4) (h2 : pb ≤ 4) (h3 : 1 ≤ size) (h4 : size ≤ 4294967295) :
 Calls Tryz.prog 79 #[.agg #[.int .i64 lc, .int .i64 lp, .int .i64 pb], .int .i64 size] w fun e w' => ∃ E x wb eb, e = .returned (.tuple #[.pointer (some ⟨E, 0, none⟩), .int .i64 0]) ∧ En w.heap.size E x (Tb.new lc lp pb) wb eb none size [] w' ∧ Below w.heap.size w w' := by
 obtain ⟨L, hL⟩ : ∃ L, w.heap.size = L := ⟨_, rfl⟩;obtain ⟨w1, hw1⟩ : ∃ w1, w.alloc (.cells #[.int .i64 lc, .int .i64 lp, .int .i64 pb] 24) = w1 := ⟨_, rfl⟩;have hb : Below w.heap.size w w1 := by rw [← hw1]; exact (Below.refl _ _).alloc (Nat.le_refl _) _
 have hN : Blk w1 L 24 #[.int .i64 lc, .int .i64 lp, .int .i64 pb] := by rw [← hw1]; exact Blk.new_at hL.symm
 have HN := Lib.hid hN;have HB := Lib.hid hb;have hP := Lib.hid (fun w => PropsByte_yes lc lp pb (by unfold okP; omega) w)
 obtain ⟨n0, n1, n2⟩ := hN.three;have H12 := Lib.hid (And.intro h1 h2);clear hb hN;go_enter Tryz.func79, Tryz.ntmps79;go_upto_region 1 with (fail);clear hw1 hL;go_wp2_with fail;refine (hP.out w1).mono ?_;rintro e w2 ⟨rfl, hb2⟩;have HB2 := Lib.hid (bup HB.out hb2);have HN2 := Lib.hid (HN.out.below hb2);clear hb2 n0 n1 n2 HN;go_wp2_with fail;refine (win.New_yes size w2 h3 h4).mono ?_;rintro e w3 ⟨rfl, hv3, hb3, _⟩
 have HV3 := Lib.hid hv3;have HB3 := Lib.hid (bup HB2.out hb3);have HN3 := HN2.out.below hb3;obtain ⟨n0, n1, n2⟩ := HN3.three;clear hv3 hb3 HN3;go_wp2_with fail;refine (MNew_any lc lp pb w3 H12.out.1 H12.out.2).mono ?_;rintro e w4 ⟨tb, rfl, ht, hb4⟩;have HT := Lib.hid (ht.mono (C := w.heap.size) HB3.out.size);have HV4 := Lib.hid ((HV3.out.below hb4).mono (C := w.heap.size) HB2.out.size);have HB4 := Lib.hid (bup HB3.out hb4)
 clear ht hb4 n0 n1 n2;go_wp2_with fail;refine (RNew_any w4).mono ?_;rintro e w5 ⟨rfl, he5, hb5⟩;have HE5 := Lib.hid (And.intro he5 (And.intro (HT.out.below hb5) (And.intro (HV4.out.below hb5) (bup HB4.out hb5))));clear he5 hb5;go_wp2_with fail
 go_ret2
 have hnb : Below w5.heap.size w5 (w5.alloc (.cells #[.pointer (some ⟨tb.tb, 0, none⟩), .pointer (some ⟨w2.heap.size, 0, none⟩), .pointer (some ⟨w4.heap.size, 0, none⟩)] 217)) := (Below.refl _ _).alloc (Nat.le_refl _) _;exact ⟨w5.heap.size, tb, w2.heap.size, w4.heap.size, rfl, ⟨Blk.new _ _ _, HE5.out.2.1.below hnb, HE5.out.2.2.1.below hnb, HE5.out.1.below hnb⟩, bup HE5.out.2.2.2 hnb⟩
structure Er (B E : Nat) (size : Nat) (all : List UInt8) (w : World) : Prop where
 v : ∃ a wb c r, Blk w E 217 #[.pointer (some ⟨a, 0, none⟩), .pointer (some ⟨wb, 0, none⟩), .pointer (some ⟨c, 0, none⟩)] ∧ win.Win w B wb r size all
 o : B ≤ E
theorem EFork_any (B E : Nat) (x : TbX) (t : Tb) (wb eb : Nat) (r : Option Nat) (size : Nat) (all : List UInt8) (w : World) (h : En B E x t wb eb r size all w) :
 Calls Tryz.prog 103 #[.pointer (some ⟨E, 0, none⟩)] w fun e w' => ∃ E', e = .returned (.pointer (some ⟨E', 0, none⟩)) ∧ Er w.heap.size E' size all w' ∧ Below w.heap.size w w' := by
 have HT := Lib.hid (fun W (hb : Below w.heap.size w W) => TFork_any B x t W (h.t.below hb))
 have HV := Lib.hid (fun W (hb : Below w.heap.size w W) => win.Fork_any B wb size r all W (h.v.below hb))
 have HR := Lib.hid (fun W (hb : Below w.heap.size w W) => RFork_any eb W (h.e.below hb))
 have HB := Lib.hid h.b;obtain ⟨a0, a1, a2⟩ := h.b.drew.three;clear h;go_enter Tryz.func103, Tryz.ntmps103;go_upto_region 1 with (fail)
 go_region_held3 (fun w' => w'.cell? ⟨E, 0, none⟩ = some (.pointer (some ⟨x.tb, 0, none⟩)) ∧ w'.cell? ⟨E, 1, none⟩ = some (.pointer (some ⟨wb, 0, none⟩)) ∧ w'.cell? ⟨E, 2, none⟩ = some (.pointer (some ⟨eb, 0, none⟩)))
  (first | (with_reducible exact ⟨a0, a1, a2⟩) | (with_reducible exact ⟨b0, b1, b2⟩) | (with_reducible exact ⟨c0, c1, c2⟩) | (with_reducible exact ⟨d0, d1, d2⟩) | go_keep)
  (first | (go_at_call 121; with_reducible refine (HT.out w.drew (Below.refl _ _).drew).mono ?_; rintro e w2 ⟨rfl, hb2⟩; have HB2 := Lib.hid (bup (Below.refl _ _).drew hb2); obtain ⟨b0, b1, b2⟩ := (HB.out.drew.below hb2).three; clear hb2) | (go_at_call 122; refine (HV.out w2 HB2.out).mono ?_; rintro e w3 ⟨r3, rfl, hv3, hb3⟩; have HB3 := Lib.hid (bup HB2.out hb3); obtain ⟨c0, c1, c2⟩ := (HB.out.below HB3.out).three; have HV3 := Lib.hid (hv3.mono (C := w.heap.size) HB2.out.size); clear hb3 hv3) | (go_at_call 123; refine (HR.out w3 HB3.out).mono ?_; rintro e w4 ⟨rfl, hb4⟩; have HB4 := Lib.hid (bup HB3.out hb4); obtain ⟨d0, d1, d2⟩ := (HB.out.below HB4.out).three; have HV4 := Lib.hid (HV3.out.below hb4); have ne4 : ¬ E = w4.heap.size := (by have := HB.out.lt; have := HB4.out.size; omega); clear hb4))
 go_wp2_with fail;go_ret;have hnb : Below w4.heap.size w4 (w4.alloc (.cells #[.pointer (some ⟨w.heap.size, 0, none⟩), .pointer (some ⟨w2.heap.size, 0, none⟩), .pointer (some ⟨w3.heap.size, 0, none⟩)] 217)) := (Below.refl _ _).alloc (Nat.le_refl _) _;exact ⟨w4.heap.size, rfl, ⟨⟨_, _, _, _, Blk.new _ _ _, HV4.out.below hnb⟩, HB4.out.size⟩, bup HB4.out hnb⟩
theorem ERaw_any (B E size : Nat) (all : List UInt8) (A : Option Addr) (m c : Nat) (l : List UInt8) (w : World) (h : Er B E size all w) (hI : In w A m l) (hc : m ≤ c) (hA : ∀ ad, A = some ad → ad.block < B) (hB : B ≤ w.heap.size) (hlen : all.length + m < 4611686018427387904) :
 Calls Tryz.prog 104 #[.pointer (some ⟨E, 0, none⟩), .slice A m c] w fun e w' => e = .returned (.tuple #[]) ∧ Below B w w' := by
 obtain ⟨⟨a, wb, eb, r, hb, hv⟩, hE⟩ := h;obtain ⟨a0, a1, a2⟩ := hb.three;have hrB : ∀ g, r = some g → B ≤ g := by
  obtain ⟨v, xs, i, _, hown, hvr, _⟩ := hv;intro g hg;exact (own_lt hown (hvr.symm ▸ hg)).1
 have hwB : B ≤ wb := by
  obtain ⟨v, xs, i, _, _, _, _, _, _, hBb⟩ := hv;exact hBb
 have HP := Lib.hid (win.Put_any B wb size r all A m c l w hv ⟨hI.1, hc, fun ad had => by
  have := hA ad had;exact ⟨by omega, by omega, fun e => by have := hrB _ e; omega⟩⟩ hlen)
 have HB := Lib.hid (And.intro hrB (And.intro hwB hB));clear hb hv hI hc hA hrB hwB hB hlen;go_enter Tryz.func104, Tryz.ntmps104;go_wp2_with fail;refine HP.out.mono ?_;rintro e w2 hh;obtain ⟨rfl, r2, hv2, hf2, hr2⟩ := hh;have HF := Lib.hid (hf2.below HB.out.2.2 (fun k hk => by
  rcases hk with rfl | hk
  · exact HB.out.2.1
  · exact HB.out.1 k hk.symm))
 clear hv2 hf2 hr2;go_wp2_with fail
 first | go_end0 | refine bodyPost_ret (results_none rfl _ _ _) rfl ?_
 exact ⟨rfl, HF.out⟩
theorem good_any (c : Cfg) (h : c.Ok) (w : World) :
 Calls Tryz.prog 78 #[.agg #[.int .i64 c.ck, .int .i64 c.dl, .int .i64 c.lc, .int .i64 c.lp, .int .i64 c.pb, .int .i64 c.dict, .int .i64 c.blk, .int .i64 c.mode]] w fun e w' => e = .returned (.bool true) ∧ Below w.heap.size w w' := by
 obtain ⟨ck, dl, lc, lp, pb, dict, blk, mode⟩ := c;obtain ⟨_, _, hl, hp, hi, _, hm⟩ := h;simp only [] at hl hp hi hm ⊢;have HP := Lib.hid (fun W => PropsByte_yes lc lp pb (by unfold okP; omega) W)
 have a3 : (4096 : Int) ≤ (dict : Int) := by omega
 have a4 : (dict : Int) ≤ 67108864 := by omega
 have a7 : (0 : Int) ≤ (mode : Int) := by omega
 have a8 : (mode : Int) ≤ 2 := by omega
 clear hl hp hi hm;obtain ⟨w1, hw1⟩ : ∃ x, w.alloc (.cells #[.int .i64 ck, .int .i64 dl, .int .i64 lc, .int .i64 lp, .int .i64 pb, .int .i64 dict, .int .i64 blk, .int .i64 mode] 26) = x := ⟨_, rfl⟩;obtain ⟨g, hg⟩ : ∃ x, w.heap.size = x := ⟨_, rfl⟩;have hb1 : Below w.heap.size w w1 := by rw [← hw1]; exact (Below.refl _ _).alloc (Nat.le_refl _) _
 have hk1 : Blk w1 g 26 #[.int .i64 ck, .int .i64 dl, .int .i64 lc, .int .i64 lp, .int .i64 pb, .int .i64 dict, .int .i64 blk, .int .i64 mode] := by rw [← hw1]; exact Blk.new_at hg.symm
 have HW := Lib.hid (And.intro hw1 (And.intro hg (And.intro hb1 hk1)));clear hw1 hg hb1 hk1;go_enter Tryz.func78, Tryz.ntmps78;go_upto_region 1 with (fail);rw [HW.out.1, HW.out.2.1];obtain ⟨c2, c3, c4⟩ : (World.cell? w1 ⟨g, 2, none⟩ = some (.int .i64 lc)) ∧ (World.cell? w1 ⟨g, 3, none⟩ = some (.int .i64 lp)) ∧ (World.cell? w1 ⟨g, 4, none⟩ = some (.int .i64 pb)) := ⟨HW.out.2.2.2.cell 2, HW.out.2.2.2.cell 3, HW.out.2.2.2.cell 4⟩
 go_wp2_with fail;refine (HP.out w1).mono ?_;rintro e w2 ⟨rfl, hb2⟩;have hk2 := HW.out.2.2.2.below hb2;have HB2 := Lib.hid (bup HW.out.2.2.1 hb2);obtain ⟨d5, d7⟩ : (World.cell? w2 ⟨g, 5, none⟩ = some (.int .i64 dict)) ∧ (World.cell? w2 ⟨g, 7, none⟩ = some (.int .i64 mode)) := ⟨hk2.cell 5, hk2.cell 7⟩;clear hb2 hk2 c2 c3 c4;go_wp2_with fail;go_ret;exact ⟨rfl, HB2.out⟩
theorem sized_raw (k m : Nat) (w : World) (hk : k = 1 ∨ k = 2) (h1 : 1 ≤ m) (h2 : m ≤ 65536) :
 Calls Tryz.prog 119 #[.agg #[.int .i64 k, .int .i64 m, .int .i64 m, .int .i64 0, .int .i64 0, .int .i64 0]] w fun e w' => e = .returned (.bool true) ∧ Below w.heap.size w w' := by
 have a1 : (1 : Int) ≤ (m : Int) := by omega
 have a2 : (m : Int) ≤ 65536 := by omega
 have HB := Lib.hid (fun o => (Below.refl w.heap.size w).alloc (Nat.le_refl _) o)
 have hz : (k : Int) = 1 ∨ (k : Int) = 2 := by omega
 obtain ⟨z, hze⟩ : ∃ z : Int, (k : Int) = z := ⟨_, rfl⟩;rw [hze] at hz ⊢;clear hk hze h1 h2;rcases hz with rfl | rfl
 all_goals
  go_enter Tryz.func119, Tryz.ntmps119;go_wp2_with fail;go_ret;exact ⟨rfl, HB.out _⟩
theorem CPut_raw (k m : Nat) (w : World) (hk : k = 1 ∨ k = 2) (h1 : 1 ≤ m) (h2 : m ≤ 65536) :
 Calls Tryz.prog 102 #[.agg #[.int .i64 k, .int .i64 m, .int .i64 m, .int .i64 0, .int .i64 0, .int .i64 0]] w (Gv (UInt8.ofNat k :: beN 2 (m - 1)) w) := by
 have HS := Lib.hid (fun W => sized_raw k m W hk h1 h2)
 obtain ⟨y, hy⟩ : ∃ y, UInt8.ofNat k = y := ⟨_, rfl⟩;have hyk : (k : Int) = (y.toNat : Int) := by rw [← hy, UInt8.toNat_ofNat']; omega
 have hz : (k : Int) = 1 ∨ (k : Int) = 2 := by omega
 rw [hy];obtain ⟨q, hq⟩ : ∃ q, m - 1 = q := ⟨_, rfl⟩;rw [hq];have HQ : Hid ((m : Int) - 1 = (q : Int)) := Lib.hid (by omega)
 have x1 : IntKind.i64.wrap ((m : Int) - 1) = (m : Int) - 1 := IntWalk.i64_in _ (by omega)
 have x2 : ((m : Int) - 1) % 18446744073709551616 = (m : Int) - 1 := by omega
 have k1 : ¬ (k : Int) < 0 := by omega
 have k2 : ¬ (7 : Int) ≤ (k : Int) := by omega
 have k3 : (k : Int) ≤ 2 := by omega
 have k4 : ((k : Int) != 0) = true := by rw [bne_iff_ne]; omega
 have k5 : (k : Int) % 256 = (k : Int) := by omega
 obtain ⟨w1, hw1⟩ : ∃ x, w.alloc (.cells #[.int .i64 k, .int .i64 m, .int .i64 m, .int .i64 0, .int .i64 0, .int .i64 0] 223) = x := ⟨_, rfl⟩;obtain ⟨g, hg⟩ : ∃ x, w.heap.size = x := ⟨_, rfl⟩;have hb1 : Below w.heap.size w w1 := by rw [← hw1]; exact (Below.refl _ _).alloc (Nat.le_refl _) _
 have hk1 : Blk w1 g 223 #[.int .i64 k, .int .i64 m, .int .i64 m, .int .i64 0, .int .i64 0, .int .i64 0] := by rw [← hw1]; exact Blk.new_at hg.symm
 have HCs := Lib.hid (fun W (h : Blk W g 223 #[.int .i64 k, .int .i64 m, .int .i64 m, .int .i64 0, .int .i64 0, .int .i64 0]) => show World.cell? W ⟨g, 0, none⟩ = some (.int .i64 k) ∧ World.cell? W ⟨g, 1, none⟩ = some (.int .i64 m) ∧ World.cell? W ⟨g, 2, none⟩ = some (.int .i64 m) ∧ World.cell? W ⟨g, 3, none⟩ = some (.int .i64 0) ∧ World.cell? W ⟨g, 4, none⟩ = some (.int .i64 0) ∧ World.cell? W ⟨g, 5, none⟩ = some (.int .i64 0) from ⟨h.cell 0, h.cell 1, h.cell 2, h.cell 3, h.cell 4, h.cell 5⟩)
 have HW := Lib.hid (And.intro hw1 (And.intro hg (And.intro hb1 (And.intro hk1 hyk))));clear hw1 hg hb1 hk1 hq hy hk hyk hz h1 h2;go_enter Tryz.func102, Tryz.ntmps102;go_upto_region 1 with (fail);rw [HW.out.1, HW.out.2.1];obtain ⟨a0, a1, a2, a3, a4, a5⟩ := HCs.out w1 HW.out.2.2.2.1;go_wp2_with fail;refine (HS.out w1).mono ?_;rintro e w2 ⟨rfl, hb2⟩;have hk2 := HW.out.2.2.2.1.below hb2;have HB2 := Lib.hid (And.intro (bup HW.out.2.2.1 hb2) hk2)
 clear hb2 hk2 a0 a1 a2 a3 a4 a5;go_wp2_with fail;refine (NewWriter_any w2).mono ?_;rintro e w3 ⟨rfl, hW3, hb3⟩;obtain ⟨b, hb⟩ : ∃ x, w2.heap.size = x := ⟨_, rfl⟩;rw [hb] at hW3 ⊢;have hgb : g < b := by rw [← hb]; exact HB2.out.2.lt
 have HB3 := Lib.hid (And.intro (bup HB2.out.1 hb3) (And.intro (HB2.out.2.below hb3) (And.intro (show w.heap.size ≤ b by rw [← hb]; exact HB2.out.1.size) hgb)))
 obtain ⟨a0, a1, a2, a3, a4, a5⟩ := HCs.out w3 HB3.out.2.1;obtain ⟨w4, hw4⟩ : ∃ x, w3.alloc (.cells #[.int .u8 (y.toNat : Int)] 5) = x := ⟨_, rfl⟩;have hb4 : Below w3.heap.size w3 w4 := by rw [← hw4]; exact (Below.refl _ _).alloc (Nat.le_refl _) _
 have HP := Lib.hid (WPut_any b b [] (some ⟨w3.heap.size, 0, none⟩) 1 1 [y] w4 (hW3.below hb4) (by rw [← hw4]; exact in_new (w := w3) (r := [y]) rfl (by simp)) (by simp))
 have H4 := Lib.hid (And.intro hw4 (And.intro (bup HB3.out.1 hb4) (HB3.out.2.1.below hb4)));clear hb hgb hW3 hb3 hb4 hw4;go_wp2_with fail;rw [HW.out.2.2.2.2, H4.out.1];refine HP.out.mono ?_;rintro e w5 ⟨rfl, hW5, hb5⟩;have hk5 := H4.out.2.2.same (hb5.block g HB3.out.2.2.2);obtain ⟨d0, d1, d2, d3, d4, d5⟩ := HCs.out w5 hk5;have HH := Lib.hid (WHigh_any b b _ q 2 w5 hW5 (by decide) (by simp))
 have H5 := Lib.hid (H4.out.2.1.trans (hb5.mono HB3.out.2.2.1));clear hk5 hW5 hb5 a0 a1 a2 a3 a4 a5;go_wp2_with fail;rw [HQ.out];refine HH.out.mono ?_;rintro e w6 ⟨rfl, hW6, hb6⟩;have HBy := Lib.hid (WBytes_any b b _ w6 hW6 (by simp [beN]))
 have H6 := Lib.hid (H5.out.trans (hb6.mono HB3.out.2.2.1));clear hW6 hb6;go_wp2_with fail;refine HBy.out.mono ?_;rintro e w7 ⟨rfl, ho7, hb7⟩;have hl : ([] ++ [y] ++ beN 2 q).length = 3 := by simp [beN]
 rw [hl] at ho7 ⊢;have H7 := Lib.hid (And.intro ho7 hb7);clear ho7 hb7 hl;go_wp2_with fail;refine bodyPost_ret (v := .tuple #[.slice (some ⟨w6.heap.size, 0, none⟩) 3 3, .int .i64 0]) (by simp [results, Tryz.results102, go_sem]) rfl ?_
 exact ⟨_, _, rfl, own_mono H7.out.1 H6.out.size, bup H6.out H7.out.2⟩
def pkC (c : Cfg) (A : Option Addr) (m ca E : Nat) : Array Value := #[.int .i64 c.ck, .int .i64 c.dl, .int .i64 c.lc, .int .i64 c.lp, .int .i64 c.pb, .int .i64 c.dict, .int .i64 c.blk, .int .i64 c.mode, .slice A m ca, .pointer (some ⟨E, 0, none⟩), .int .i64 0, .int .i64 1, .int .i64 1, .int .i64 1, .int .i64 1, .slice none 0 0, .bool false, .bool false, .bool false]
theorem pk_cells {c : Cfg} {A : Option Addr} {m ca E P : Nat} {w : World} (h : Blk w P 160 (pkC c A m ca E)) : w.cell? ⟨P, 7, none⟩ = some (.int .i64 c.mode) ∧ w.cell? ⟨P, 8, none⟩ = some (.slice A m ca) ∧ w.cell? ⟨P, 9, none⟩ = some (.pointer (some ⟨E, 0, none⟩)) ∧ w.cell? ⟨P, 10, none⟩ = some (.int .i64 0) ∧ w.cell? ⟨P, 11, none⟩ = some (.int .i64 1) ∧ w.cell? ⟨P, 12, none⟩ = some (.int .i64 1) ∧ w.cell? ⟨P, 13, none⟩ = some (.int .i64 1) ∧ w.cell? ⟨P, 14, none⟩ = some (.int .i64 1) ∧ w.cell? ⟨P, 15, none⟩ = some (.slice none 0 0) ∧ w.cell? ⟨P, 16, none⟩ = some (.bool false) ∧ w.cell? ⟨P, 17, none⟩ = some (.bool false) ∧ w.cell? ⟨P, 18, none⟩ = some (.bool false) :=
 ⟨h.cell 7, h.cell 8, h.cell 9, h.cell 10, h.cell 11, h.cell 12, h.cell 13, h.cell 14, h.cell 15, h.cell 16, h.cell 17, h.cell 18⟩
def rsC (A : Option Addr) (m ca E : Nat) : Array Value := #[.int .i64 1, .int .i64 m, .int .i64 m, .int .i64 0, .int .i64 0, .int .i64 0, .slice A m ca, .pointer (some ⟨E, 0, none⟩), .int .i64 0, .int .i64 1, .int .i64 1, .int .i64 1, .int .i64 1]
theorem tried_raw (c : Cfg) (A : Option Addr) (m ca E P : Nat) (f t : Int) (w : World) (h : Blk w P 160 (pkC c A m ca E)) (h0 : c.mode = 0) :
 Calls Tryz.prog 83 #[.pointer (some ⟨P, 0, none⟩), .int .i64 f, .int .i64 t] w fun e w' => e = .returned (.pointer none) ∧ w' = w := by
 obtain ⟨a7, _⟩ := pk_cells h;rw [h0] at a7;clear h h0;go_enter Tryz.func83, Tryz.ntmps83;go_wp2_with fail;go_ret;exact ⟨rfl, rfl⟩
theorem raw_first (c : Cfg) (A : Option Addr) (m ca E P B : Nat) (x : TbX) (t : Tb) (wb eb : Nat) (r : Option Nat) (l : List UInt8) (w : World) (h : Blk w P 160 (pkC c A m ca E)) (hE : En B E x t wb eb r c.dict [] w) (hI : In w A m l) (hc : m ≤ ca) (hA : ∀ ad, A = some ad → ad.block < w.heap.size) (hm : m ≤ 1048576) (h1 : 1 ≤ m) :
 Calls Tryz.prog 82 #[.pointer (some ⟨P, 0, none⟩), .int .i64 0, .int .i64 m] w fun e w' => ∃ R E', e = .returned (.pointer (some ⟨R, 0, none⟩)) ∧ Blk w' R 225 (rsC A m ca E') ∧ Below w.heap.size w w' := by
 have HF := Lib.hid (EFork_any B E x t wb eb r c.dict [] w hE);have HP := Lib.hid (fun W (hb : Below w.heap.size w W) => pk_cells (h.below hb))
 have hm2 : ([] : List UInt8).length + m < 4611686018427387904 := by show 0 + m < _; omega
 have HR := Lib.hid (fun E' W2 (h : Er w.heap.size E' c.dict [] W2) (hb : Below w.heap.size w W2) => ERaw_any w.heap.size E' c.dict [] A m ca l W2 h (hI.below hb) hc hA hb.size hm2)
 obtain ⟨a7, a8, a9, a10, a11, a12, a13, a14, a15, a16, a17, a18⟩ := pk_cells h;have k1 : (m : Int) ≤ (ca : Int) := by omega
 clear h hE hI hc hA hm2;go_enter Tryz.func82, Tryz.ntmps82;go_wp2_with fail;refine HF.out.mono ?_;rintro e w2 ⟨E', rfl, hE2, hb2⟩;have HW := Lib.hid (HR.out E' w2 hE2 hb2);have HB2 := Lib.hid hb2;clear hE2 hb2 a7 a8 a9 a10 a11 a12 a13 a14 a15 a16 a17 a18 HF;go_wp2_with fail;refine HW.out.mono ?_;rintro e w3 ⟨rfl, hb3⟩;have HB3 := Lib.hid (HB2.out.trans hb3);obtain ⟨a7, a8, a9, a10, a11, a12, a13, a14, a15, a16, a17, a18⟩ := HP.out w3 HB3.out
 clear hb3;go_wp2_with fail;go_ret;exact ⟨_, E', rfl, Blk.new _ _ _, HB3.out.alloc HB3.out.size _⟩
end Go.Proofs.YtcjehjdehdoaeaaGreatDoor
