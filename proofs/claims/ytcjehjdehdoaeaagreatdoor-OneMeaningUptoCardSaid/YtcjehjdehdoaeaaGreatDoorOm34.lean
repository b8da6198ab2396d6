/-
  Laws on the way to the claim (OsF OsG). Conditions: those that each theorem states.
-/
import Derived.Test.YtcjehjdehdoaeaaGreatDoorOm33
import Derived.Test.YtcjehjdehdoaeaaGreatDoorOm32
import Derived.WalkLawsBesides
import Derived.Defers
import Derived.Recover
set_option linter.unusedVariables false
set_option linter.unusedSimpArgs false
set_option maxRecDepth 1000000
set_option maxHeartbeats 16000000
namespace Go.Proofs.YtcjehjdehdoaeaaGreatDoor
open Go.RowKit
def given (k : Nat) : Ending := .panicked [{ v := .iface 54 (.int .i64 (k : Int)), recovered := false }]
theorem must_ok (w : World) : Calls Tryz.prog 166 #[.int .i64 0] w fun e w' => e = .returned (.tuple #[]) ∧ w' = w := by
 go_enter Tryz.func166, Tryz.ntmps166;go_wp2_with fail
 go_end0
 exact ⟨rfl, rfl⟩
theorem must_two (k : Nat) (hk : k = 1 ∨ k = 2) (w : World) : Calls Tryz.prog 166 #[.int .i64 k] w fun e w' => e = given 2 ∧ w' = w := by
 rcases hk with rfl | rfl
 · go_enter Tryz.func166, Tryz.ntmps166;go_wp2_with fail;exact ⟨rfl, rfl, rfl⟩
 · go_enter Tryz.func166, Tryz.ntmps166;go_wp2_with fail;exact ⟨rfl, rfl, rfl⟩
def NuPost (R : Nat) (A : Option Addr) (n c : Nat) (r : VR) (w : World) (e : Ending) (w' : World) : Prop :=
 if r.e = 0 then e = .returned (.int .i64 r.v) ∧ Blk w' R 282 #[.slice (if c = r.n then A else A.map (·.add r.n)) (n - r.n) (c - r.n)] ∧ Fr (fun k => k = R) w w'
 else e = given 2 ∧ Fr (fun k => k = R) w w'
theorem rnum_any (R : Nat) (A : Option Addr) (n c : Nat) (l : List UInt8) (w : World) (hR : Blk w R 282 #[.slice A n c]) (hI : In w A n l) (hc : n ≤ c) :
 Calls Tryz.prog 139 #[.pointer (some ⟨R, 0, none⟩)] w (NuPost R A n c (viF l) w) := by
 have HG := Lib.hid (vGet_any A n c l w hI);have hv := viF_bd l;have he := viF_err l;have ht := fun h => viF_take l 0 h
 rw [hI.len] at ht;obtain ⟨⟨v, k, e0⟩, hq⟩ : ∃ q, viF l = q := ⟨_, rfl⟩;rw [hq] at HG hv he ht ⊢;simp only [] at HG hv he ht;have c0 := hR.one;have f0 := hR.frozen 0;have HR := Lib.hid hR;have HT := Lib.hid ht;have hn := hI.2.2;clear hI hq ht hR;by_cases h0 : e0 = 0
 · subst h0;have HM := Lib.hid (must_ok w);have hk : k ≤ n := (HT.out rfl).2.1;have hk' : (k : Int) ≤ (n : Int) := by omega
   have w1 : IntKind.i64.wrap (v : Int) = (v : Int) := IntWalk.i64_in _ (by omega)
   obtain ⟨A2, hA2⟩ : ∃ z, (if c = k then A else A.map (·.add k)) = z := ⟨_, rfl⟩
   have hF := HR.out.set_ 0 (.slice A2 (n - k) (c - k));have HF := Lib.hid (show Blk (w.setCell ⟨R, 0, none⟩ (.slice A2 (n - k) (c - k))) R 282 #[.slice A2 (n - k) (c - k)] ∧ Fr (fun k => k = R) w (w.setCell ⟨R, 0, none⟩ (.slice A2 (n - k) (c - k))) from ⟨hF, Fr.set1 (Fr.refl _ _) 0 _⟩)
   clear hF;go_enter Tryz.func139, Tryz.ntmps139;go_wp2_with fail;refine HG.out.mono ?_;rintro e wx ⟨rfl, rfl⟩;go_wp2_with fail;refine HM.out.mono ?_;rintro e wx ⟨rfl, rfl⟩;go_wp2_with fail;go_ret;refine ⟨rfl, ?_⟩;simp only [];rw [hA2];exact HF.out
 · have HM := Lib.hid (must_two e0 (by omega) w)
   have H0 := Lib.hid h0;clear h0;go_enter Tryz.func139, Tryz.ntmps139;go_wp2_with fail;refine HG.out.mono ?_;rintro e wx ⟨rfl, rfl⟩;go_wp2_with fail;refine HM.out.mono ?_;rintro e wx ⟨rfl, rfl⟩;refine ⟨rfl, ?_⟩;unfold NuPost;rw [if_neg H0.out];exact ⟨rfl, Fr.refl _ _⟩
theorem fiF_ok (l : List UInt8) : (fiF l).e ≤ 2 ∧ ((fiF l).e = 0 → (fiF l).n ≤ l.length ∧ (fiF l).ps.length ≤ l.length) := by
 have h1 := viF_err l;have h2 := viF_err (l.drop (viF l).n);unfold fiF;split
 · exact ⟨h1, fun h => absurd h (by assumption)⟩
 split
 · exact ⟨h2, fun h => absurd h (by assumption)⟩
 split
 · exact ⟨by simp, fun h => absurd h (by simp)⟩
 · refine ⟨Nat.zero_le _, fun _ => ⟨?_, by rw [List.length_take, List.length_drop]; omega⟩⟩
   rename_i a b c;have t1 := viF_take l 0 (by omega)
   have t2 := viF_take (l.drop (viF l).n) 0 (by omega)
   rw [List.length_drop] at t2;show _ + _ + _ ≤ _;omega
def FlPost (R : Nat) (A : Option Addr) (n c : Nat) (r : FR) (w : World) (e : Ending) (w' : World) : Prop :=
 if r.e = 0 then ∃ Ap cp, e = .returned (.agg #[.int .u64 r.id, .slice Ap r.ps.length cp]) ∧ w'.ownsRow w.heap.size 5 1 (.slice Ap r.ps.length cp) r.ps.length (bys r.ps) ∧ Blk w' R 282 #[.slice (if c = r.n then A else A.map (·.add r.n)) (n - r.n) (c - r.n)] ∧ Fr (fun k => k = R) w w'
 else e = given 2 ∧ Fr (fun k => k = R) w w'
theorem rfil_any (R : Nat) (A : Option Addr) (n c : Nat) (l : List UInt8) (w : World) (hR : Blk w R 282 #[.slice A n c]) (hI : In w A n l) (hc : n ≤ c) (hc63 : c ≤ 9223372036854775807) :
 Calls Tryz.prog 140 #[.pointer (some ⟨R, 0, none⟩)] w (FlPost R A n c (fiF l) w) := by
 obtain ⟨W, hW⟩ : ∃ z, w.heap.size = z := ⟨_, rfl⟩;obtain ⟨w1, hw1⟩ : ∃ z, w.alloc (.cells #[.int .u64 0, .slice none 0 0] 116) = z := ⟨_, rfl⟩;have hb1 : Below w.heap.size w w1 := by rw [← hw1]; exact (Below.refl _ _).alloc (Nat.le_refl _) _
 have hW1 : Blk w1 W 116 #[.int .u64 0, .slice none 0 0] := by rw [← hw1]; exact Blk.new_at hW.symm
 have hR1 := hR.below hb1;have HG := Lib.hid (fGet_any A n c l w1 (hI.below hb1) hc hc63);have ht := fiF_ok l;rw [hI.len] at ht;obtain ⟨⟨id, ps, k, e0⟩, hq⟩ : ∃ q, fiF l = q := ⟨_, rfl⟩;rw [hq] at HG ht ⊢;simp only [] at HG ht;have c0 := hR1.one;have HT := Lib.hid ht;have hn := hI.2.2;have HW := Lib.hid (And.intro hw1 (And.intro hW (And.intro hb1 (And.intro hW1 (And.intro hR1 hR.lt)))));obtain ⟨m, hm⟩ : ∃ z, ps.length = z := ⟨_, rfl⟩
 have HMm := Lib.hid hm;clear hI hq ht hR hw1 hW hb1 hW1 hR1 hm;by_cases h0 : e0 = 0
 · subst h0;have hk : k ≤ n := (HT.out.2 rfl).1;have hk' : (k : Int) ≤ (n : Int) := by omega
   obtain ⟨A2, hA2⟩ : ∃ z, (if c = k then A else A.map (·.add k)) = z := ⟨_, rfl⟩
   go_enter Tryz.func140, Tryz.ntmps140;go_upto_region 1 with (fail);rw [HW.out.1, HW.out.2.1];go_wp2_with fail;refine HG.out.mono ?_;rintro e w2 ⟨Ap, cp, rfl, hi, hb⟩;simp only [] at hi ⊢;rw [HMm.out] at hi ⊢;obtain ⟨V, hV⟩ : ∃ z, w2.heap.size = z := ⟨_, rfl⟩;obtain ⟨w3, hw3⟩ : ∃ z, w2.alloc (.cells #[.int .u64 id, .slice Ap m cp] 116) = z := ⟨_, rfl⟩;have hb3 : Below w2.heap.size w2 w3 := by rw [← hw3]; exact (Below.refl _ _).alloc (Nat.le_refl _) _
   have hV3 : Blk w3 V 116 #[.int .u64 id, .slice Ap m cp] := by rw [← hw3]; exact Blk.new_at hV.symm
   have hR3 := (HW.out.2.2.2.2.1.below hb).below hb3;have hW3 := (HW.out.2.2.2.1.below hb).below hb3;have hRV : R ≠ V := BT.ne ⟨_, hR3⟩ ⟨_, hV3⟩ (by decide)
   have hRW : R ≠ W := BT.ne ⟨_, hR3⟩ ⟨_, hW3⟩ (by decide)
   have hWV : W ≠ V := by have := hW3.lt; have := (HW.out.2.2.2.1.below hb).lt; omega
   obtain ⟨w4, hw4⟩ : ∃ z, w3.setCell ⟨R, 0, none⟩ (.slice A2 (n - k) (c - k)) = z := ⟨_, rfl⟩;have hR4 : Blk w4 R 282 #[.slice A2 (n - k) (c - k)] := by rw [← hw4]; exact hR3.set_ 0 _
   have hV4 : Blk w4 V 116 #[.int .u64 id, .slice Ap m cp] := by rw [← hw4]; exact hV3.far (Ne.symm hRV) _
   have hW4 : Blk w4 W 116 #[.int .u64 0, .slice none 0 0] := by rw [← hw4]; exact hW3.far (Ne.symm hRW) _
   have c0 := hR3.one;have f0 := hR3.frozen 0;have v0 := hV4.cell 0;have v1 := hV4.cell 1;have z0 := hW4.cell 0;have z1 := hW4.cell 1;have f1 := hW4.frozen 0;have f2 := hW4.frozen 1;have hW5 := ((hW4.set_ 0 (.int .u64 id)).set_ 1 (.slice Ap m cp));have q0 := hW5.cell 0;have q1 := hW5.cell 1;simp at q0 q1;have HM := Lib.hid (must_ok w3);have HF := Lib.hid (And.intro hi (And.intro hb (And.intro hb3 (And.intro hR4 hV3))))
   have HN := Lib.hid (And.intro hV (And.intro hw3 (And.intro hw4 (And.intro hRW hRV))));clear hi hb hV hw3 hb3 hV3 hR3 hW3 hRV hRW hWV hw4 hR4 hV4 hW4 hW5;go_upto_region 2 with (fail);rw [HN.out.1, HN.out.2.1];go_wp2_with fail;refine HM.out.mono ?_;rintro e wx ⟨rfl, hwx⟩;rw [hwx];clear hwx;go_upto_region 4 with (fail);rw [HN.out.2.2.1];go_wp2_with fail;refine bodyPost_ret (v := .agg #[.int .u64 id, .slice Ap m cp]) (by simp [results, Tryz.results140, go_sem, q0, q1]) rfl ?_
   obtain ⟨hi, hb, hb3, hR4, hV3⟩ := HF.out;have hWR : ¬ R = W := HN.out.2.2.2.1;have hf : Fr (fun g => g = R ∨ g = W) w3 ((w4.setCell ⟨W, 0, none⟩ (.int .u64 id)).setCell ⟨W, 1, none⟩ (.slice Ap m cp)) := by
    rw [← HN.out.2.2.1];exact (((Fr.refl _ _).setCell (p := ⟨R, 0, none⟩) (.inl (.inl rfl)) _).setCell (p := ⟨W, 0, none⟩) (.inl (.inr rfl)) _).setCell (p := ⟨W, 1, none⟩) (.inl (.inr rfl)) _
   have hi3 := own_below hi hb3;have hW3 := (HW.out.2.2.2.1.below hb).below hb3;have hR3 := (HW.out.2.2.2.2.1.below hb).below hb3;have hRl := HW.out.2.2.2.2.2;unfold FlPost;rw [if_pos rfl];simp only [];rw [HMm.out, hA2];refine ⟨Ap, cp, rfl, own_fr (own_mono hi3 HW.out.2.2.1.size) hf (fun g hg e => ?_), (hR4.far (p := ⟨W, 0, none⟩) hWR _).far (p := ⟨W, 1, none⟩) hWR _, ?_⟩
   · rcases e with e | e
     · exact own_ne hi3 hR3 (by decide) (by rw [hg, e])
     · exact own_ne hi3 hW3 (by decide) (by rw [hg, e])
   · exact ((Fr.of_below ((bup HW.out.2.2.1 hb).trans (hb3.mono (bup HW.out.2.2.1 hb).size))).trans' hf (fun i hi e => by rcases e with e | e; exact e; have := HW.out.2.1; omega))
 · have H0 := Lib.hid h0;clear h0;go_enter Tryz.func140, Tryz.ntmps140;go_upto_region 1 with (fail);rw [HW.out.1, HW.out.2.1];go_wp2_with fail;refine HG.out.mono ?_;rintro e w2 ⟨Ap, cp, rfl, hi, hb⟩;have HM := Lib.hid (fun w' => must_two e0 (by have := HT.out.1; have := H0.out; omega) w')
   have HB := Lib.hid (bup HW.out.2.2.1 hb);clear hi hb;simp only [] at HB ⊢;go_wp2_with fail;refine (HM.out _).mono ?_;rintro e wx ⟨rfl, rfl⟩;refine ⟨rfl, ?_⟩;unfold FlPost;rw [if_neg H0.out];exact ⟨rfl, Fr.of_below (bmk_ HB.out _)⟩
def WhPost (A : Option Addr) (m c k : Nat) (w : World) (e : Ending) (w' : World) : Prop :=
 Below w.heap.size w w' ∧ if k ≠ 0 then e = .returned (.tuple #[.slice none 0 0, .int .i64 k]) else e = .returned (.tuple #[.slice A (m - 4) c, .int .i64 0])
def whE (S : Sums) (l : List UInt8) : Nat := if (lowGo l (l.length - 4) 4).toNat % 4294967296 ≠ S.c32 (l.take (l.length - 4)) then 3 else 0
theorem hwhole_any (S : Sums) (hS : S.c32 = crc32) (A : Option Addr) (m c : Nat) (l : List UInt8) (w : World) (hI : In w A m l) (hc : m ≤ c) (hm : m = hdLen l) (h0 : (l.getD 0 0).toNat ≠ 0) (hl : LaidC w) :
 Calls Tryz.prog 138 #[.slice A m c] w (WhPost A m c (whE S l) w) := by
 have hlm := hI.len;obtain ⟨q, hq⟩ : ∃ z, whE S l = z := ⟨_, rfl⟩;rw [hq];unfold whE at hq;rw [hS, hlm] at hq;obtain ⟨z, t, rfl⟩ : ∃ z t, l = z :: t := by
  cases l with
  | nil => simp at h0
  | cons z t => exact ⟨z, t, rfl⟩
 replace h0 : z.toNat ≠ 0 := h0;replace hm : m = 4 * (z.toNat + 1) := hm;have hz := z.toNat_lt;obtain ⟨ab, ao, rfl, hcell⟩ := hI.1.cells_at (by omega)
 have b0 : w.cell? ⟨ab, ao, none⟩ = some (.int .u8 (z.toNat : Int)) := hcell 0 z rfl;obtain ⟨k, hk⟩ : ∃ k, m - 4 = k := ⟨_, rfl⟩;have hi4 := hI.cut (k := k) (by omega) hc
 rw [show m - k = 4 by omega] at hi4
 rw [hk] at hq;have hck : ¬ c = k := by omega
 rw [if_neg hck, Option.map_some, add_none] at hi4;have HNR := Lib.hid (NewReader_any (some ⟨ab, ao + k, none⟩) 4 (c - k) _ w hi4);have hlow : lowGo ((z :: t).drop k) 0 4 = lowGo (z :: t) k 4 := by
  have := lowGo_mid (z :: t) k 4 4 (Nat.le_refl _)
  rwa [List.take_of_length_le (by rw [List.length_drop]; omega)] at this
 have HLow := Lib.hid (fun b g w1 (h : Wr b g 0 ((z :: t).drop k) w1) => Low_yes b g 0 4 _ w1 h (by decide) (by rw [List.length_drop]; omega))
 rw [hlow] at HLow;have hib := hI.take (k := k) (by omega)
 have HSum := Lib.hid (fun g w1 (hg : w1.cell? ⟨g, 0, none⟩ = some (.slice (some ⟨ab, ao, none⟩) k c)) (hb : Below w.heap.size w w1) => Sum32_any g 1 (some ⟨ab, ao, none⟩) k c ((z :: t).take k) w1 hg (hib.below hb) (hl.below hb))
 have hlg := lowGo_eq (z :: t) k 4 (by decide)
 obtain ⟨v, hv⟩ : ∃ v, lowV (z :: t) k 4 = v := ⟨_, rfl⟩;have hv2 := lowV_lt (z :: t) k 4;rw [hv] at hlg hv2;rw [hlg] at hq HLow;obtain ⟨s, hs⟩ : ∃ s, crc32 ((z :: t).take k) = s := ⟨_, rfl⟩;rw [hs] at hq HSum;have HQ := Lib.hid (show (if v ≠ s then 3 else 0) = q by
  rw [Int.toNat_natCast, Nat.mod_eq_of_lt (by exact hv2)] at hq
  exact hq)
 obtain ⟨y, hy⟩ : ∃ y, z.toNat = y := ⟨_, rfl⟩;rw [hy] at b0 hm h0 hz;have HV := Lib.hid (show v < 4294967296 from hv2)
 have w1 : IntKind.i64.wrap (y : Int) = (y : Int) := IntWalk.i64_in _ (by omega)
 have w2 : IntKind.i64.wrap ((y : Int) + 1) = (y : Int) + 1 := IntWalk.i64_in _ (by omega)
 have w3 : IntKind.i64.wrap (4 * ((y : Int) + 1)) = (m : Int) := by rw [IntWalk.i64_in _ (by omega)]; omega
 have w4 : IntKind.i64.wrap ((m : Int) - 4) = (k : Int) := by rw [IntWalk.i64_in _ (by omega)]; omega
 have w5 : IntKind.u32.wrap (v : Int) = (v : Int) := by rw [IntKind.wrap_u32]; omega
 have e0 : ((m : Int) == 0) = false := beq_eq_false_iff_ne.2 (by omega)
 have e1 : ((y : Int) == 0) = false := beq_eq_false_iff_ne.2 (by omega)
 have e2 : ¬ (m : Int) < (m : Int) := by omega
 have hmc : (m : Int) ≤ (c : Int) := by omega
 have hmk : m - k = 4 := by omega
 have HK := Lib.hid hk;have hkc : (k : Int) ≤ (c : Int) := by omega
 have hkm : (k : Int) ≤ (m : Int) := by omega
 have m0 : 0 < m := by omega
 clear hI hlm hq hk hi4 hlow hib hlg hv hv2 hs hy hcell hl hm h0 hz;go_enter Tryz.func138, Tryz.ntmps138;go_wp2_with fail;refine HNR.out.mono ?_;rintro e wa ⟨b, g, rfl, hr, hb1, hwb, _⟩;have HB1 := Lib.hid hb1;have HL1 := Lib.hid (HLow.out b g wa hr);have HW := Lib.hid hwb;clear hr hb1 HNR HLow hwb;go_wp2_with fail;refine HL1.out.mono ?_;rintro e wb ⟨rfl, _, hf⟩;have HB2 := Lib.hid (HB1.out.trans (hf.below HB1.out.size (fun x hx => by have hx : x = b := hx; have := HW.out; omega)))
 obtain ⟨G, hG⟩ : ∃ z, wb.heap.size = z := ⟨_, rfl⟩;obtain ⟨wd, hwd⟩ : ∃ z, wb.alloc (.cells #[.slice (some ⟨ab, ao, none⟩) k c] 22) = z := ⟨_, rfl⟩;have hb3 : Below wb.heap.size wb wd := by rw [← hwd]; exact (Below.refl _ _).alloc (Nat.le_refl _) _
 have hG3 : Blk wd G 22 #[.slice (some ⟨ab, ao, none⟩) k c] := by rw [← hwd]; exact Blk.new_at hG.symm
 have HB3 := Lib.hid (bup HB2.out hb3);have HS := Lib.hid (HSum.out G wd hG3.one HB3.out);have HN := Lib.hid (And.intro hG hwd);clear hf hb3 hG3 hG hwd HL1 HSum;by_cases hvs : v = s
 · have g1 : ((v : Int) != (s : Int)) = false := by rw [bne_eq_false_iff_eq]; omega
   have g2 : (v != s) = false := by rw [bne_eq_false_iff_eq]; exact hvs
   have HQ2 := Lib.hid (show (0 : Nat) = q by rw [← HQ.out, if_neg (fun h => h hvs)])
   clear hvs HQ;go_upto_region 10 with (fail);go_wp2_with fail;rw [HN.out.1, HN.out.2];refine HS.out.mono ?_;rintro e wx ⟨rfl, hwx⟩;rw [hwx];clear hwx;go_wp2_with fail
   go_ret2
   refine ⟨HB3.out, ?_⟩;rw [← HQ2.out, if_neg (fun h => h rfl), HK.out]
   rfl
 · have g1 : ((v : Int) != (s : Int)) = true := by rw [bne_iff_ne]; omega
   have g2 : (v != s) = true := by rw [bne_iff_ne]; exact hvs
   have HQ2 := Lib.hid (show (3 : Nat) = q by rw [← HQ.out, if_pos hvs])
   clear hvs HQ;go_upto_region 10 with (fail);go_wp2_with fail;rw [HN.out.1, HN.out.2];refine HS.out.mono ?_;rintro e wx ⟨rfl, hwx⟩;rw [hwx];clear hwx;go_wp2_with fail
   go_ret2
   refine ⟨HB3.out, ?_⟩;rw [← HQ2.out, if_pos (by decide)]
   rfl
end Go.Proofs.YtcjehjdehdoaeaaGreatDoor
namespace Go.Proofs.YtcjehjdehdoaeaaGreatDoor
open Go.RowKit
def hdV (p s : Int) (A : Option Addr) (n c : Nat) (m : Nat) : Array Value := #[.int .i64 p, .int .i64 s, .slice A n c, .int .i64 m]
theorem get1_idle (H E : Nat) (w : World) :
 CallsD Tryz.prog 137 #[.pointer (some ⟨H, 0, none⟩), .pointer (some ⟨E, 0, none⟩)] .returning w fun e u' w' => e = .returned (.tuple #[]) ∧ u' = .returning ∧ w' = w := by
 refine callsD_of_wpS Tryz.func137 rfl fun c₀ cs hu => ?_
 apply wpS_seq;apply wpS_region;simp [wpOpsS, go_sem, recoverD, hu, Tryz.ntmps137, Exit.thenS];apply wpS_seq;apply wpS_region;simp [wpOpsS, go_sem, Exit.thenS];refine wpS_cond (t := false) (by simp [Act.eval, Array.replicate]) ?_
 simp only [Bool.false_eq_true, if_false];refine wpS_of_wp (wp_skip ?_);cases c₀
 simp_all [bodyPostS, results, Tryz.results137, Exit.thenS]
theorem get1_dies (H E k : Nat) (p s : Int) (A : Option Addr) (n c m : Nat) (x : Int) (older : List PanicEntry) (w : World) (hH : Blk w H 91 (hdV p s A n c m)) (hE : Blk w E 54 #[.int .i64 x]) (hne : H ≠ E) :
 CallsD Tryz.prog 137 #[.pointer (some ⟨H, 0, none⟩), .pointer (some ⟨E, 0, none⟩)] (.panicking ({ v := .iface 54 (.int .i64 k), recovered := false } :: older)) w fun e u' w' =>
  e = .returned (.tuple #[]) ∧ u' = .panicking ({ v := .iface 54 (.int .i64 k), recovered := true } :: older) ∧ Blk w' H 91 (hdV 0 0 none 0 0 0) ∧ Blk w' E 54 #[.int .i64 k] ∧ Fr (fun g => g = H ∨ g = E) w w' := by
 refine callsD_of_wpS Tryz.func137 rfl fun c₀ cs hu => ?_
 apply wpS_seq;apply wpS_region;simp [wpOpsS, go_sem, recoverD, hu, Tryz.ntmps137, Exit.thenS];apply wpS_seq;apply wpS_region;simp [wpOpsS, go_sem, Exit.thenS];refine wpS_cond (t := true) (by simp [Act.eval, Array.replicate]) ?_
 simp only [if_true];refine wpS_of_wp ?_;have hd := hH;have he := hE;unfold hdV at hd;have c0 := hd.cell 0;have c1 := hd.cell 1;have c2 := hd.cell 2;have c3 := hd.cell 3;have f0 := hd.frozen 0;have f1 := hd.frozen 1;have f2 := hd.frozen 2;have f3 := hd.frozen 3;have e0 := he.cell 0;have g0 := he.frozen 0;have hta : ∀ w : World, (Instr.typeAssert (.iface 54 (.int .i64 k)) 20 54 false).run Tryz.prog w = .ok (.int .i64 k) w := fun _ => by kernel_rfl
 go_region
 all_goals
  have hH9 := (((hH.set_ 0 (.int .i64 0)).set_ 1 (.int .i64 0)).set_ 2 (.slice none 0 0)).set_ 3 (.int .i64 0);refine ⟨rfl, _, rfl, .tuple #[], by simp [results, Tryz.results137, go_sem], rfl, rfl, ?_, ?_, ?_⟩
  · exact (hH9.far (p := ⟨E, 0, none⟩) hne _).drew
  · exact ((((((hE.far (p := ⟨H, 0, none⟩) (Ne.symm hne) _).far (p := ⟨H, 1, none⟩) (Ne.symm hne) _).far (p := ⟨H, 2, none⟩) (Ne.symm hne) _).far (p := ⟨H, 3, none⟩) (Ne.symm hne) _).set_ 0 _).drew)
  · exact ((((((Fr.refl _ w).setCell (p := ⟨H, 0, none⟩) (.inl (.inl rfl)) _).setCell (p := ⟨H, 1, none⟩) (.inl (.inl rfl)) _).setCell (p := ⟨H, 2, none⟩) (.inl (.inl rfl)) _).setCell (p := ⟨H, 3, none⟩) (.inl (.inl rfl)) _).setCell (p := ⟨E, 0, none⟩) (.inl (.inr rfl)) _).drew
def Kept2 (Q : Exit → Act → World → Prop) (D : List Deferred) (p2 p3 : Value) : Exit → Act → World → Prop
 | .panic c, a, w => a.defers = D ∧ ∀ a' : Act, a'.defers = D → a'.tmps[2]? = some p2 → a'.tmps[3]? = some p3 → Q (.panic c) a' w
 | e, a, w => Q e a w
section
variable {P : Program} {ops : Array Oper} {md : Region.Mode} {Q : Exit → Act → World → Prop} {D : List Deferred} {p2 p3 : Value}
theorem kept_out (h : LetsOut (Kept2 Q D p2 p3)) : LetsOut Q := h
theorem put_slot {a : Act} {d : Option Tmp} {v x : Value} {k : Nat} (hd : d ≠ some k) (h : a.tmps[k]? = some x) : (a.put d v).tmps[k]? = some x := by
 cases d with
 | none => exact h
 | some d =>
  show (a.tmps.setIfInBounds d v)[k]? = some x;rw [Array.getElem?_setIfInBounds_ne (fun e => hd (by rw [e]))]
  exact h
theorem kept_wp {o : Oper} {a : Act} {w : World} {K K' : Act → World → Prop} (h2 : a.tmps[2]? = some p2) (h3 : a.tmps[3]? = some p3) (hd : o.dst ≠ some 2 ∧ o.dst ≠ some 3)
 (h : ∀ a' w', a'.tmps[2]? = some p2 → a'.tmps[3]? = some p3 → K a' w' → K' a' w') (hh : o.wp P a w K (Kept2 Q D p2 p3)) : o.wp P a w K' Q := by
 unfold Oper.wp at *;have hp : ∀ (c : List PanicEntry) (w' : World), Kept2 Q D p2 p3 (.panic c) a w' → Q (.panic c) a w' := fun c w' hq => hq.2 a hq.1 h2 h3
 generalize (execOp a.eval o).run P w = r at *;have hk : ∀ (v : Value) w', K (a.put o.dst v) w' → K' (a.put o.dst v) w' := fun v w' => h _ _ (put_slot hd.1 h2) (put_slot hd.2 h3)
 cases r with
 | ok n w' =>
  cases n <;> simp only [Oper.upon] at hh ⊢
  case defer d => exact h _ _ (put_slot hd.1 h2) (put_slot hd.2 h3) hh
  all_goals first
   | exact hk _ _ hh
   | exact Calls.mono hh (fun e w'' he => by cases e <;> first | exact hk _ _ he | exact hp _ _ he | exact kept_out he)
   | exact Rows.mono hh (fun _ _ he => hk _ _ he)
 | halt x w' => cases x <;> simp only [Oper.upon] at hh ⊢ <;> first | exact hp _ _ hh | exact hh
theorem kept_any (hd : ∀ (i : Nat) (o : Oper), ops[i]? = some o → o.dst ≠ some 2 ∧ o.dst ≠ some 3) : ∀ (f : Nat) (ls : Array Bool) (a : Act) (w : World), a.tmps[2]? = some p2 → a.tmps[3]? = some p3 → wpAny P md ops (Kept2 Q D p2 p3) f ls a w → wpAny P md ops Q f ls a w := by
 intro f;induction f with
 | zero => intro ls a w _ _ h; exact h
 | succ f ih =>
  intro ls a w h2 h3 h;refine ⟨h.1, fun i hi => ?_⟩
  have h4 := h.2 i hi;unfold wpOp at h4 ⊢;cases ho : ops[i]? with
  | none => rw [ho] at h4; exact ih _ _ _ h2 h3 h4
  | some o =>
   rw [ho] at h4;simp only at h4 ⊢;by_cases hw : Region.wanted o (yielded ops a.tmps) = true
   · rw [if_pos hw] at h4 ⊢;rcases h4 with h4 | h4
     · exact .inl (kept_wp h2 h3 (hd i o ho) (fun a' w' e2 e3 hh => ih _ a' w' e2 e3 hh) h4)
     · exact .inr ⟨h4.1, kept_out h4.2⟩
   · rw [if_neg hw] at h4 ⊢;exact ih _ _ _ (put_slot (hd i o ho).1 h2) (put_slot (hd i o ho).2 h3) h4
theorem kept_region {id : Nat} {l : List Oper} {a : Act} {w : World} (hm : P.follows .mixedOrders = true) (hd : l.all (fun o => o.dst != some 2 && o.dst != some 3) = true) (h2 : a.tmps[2]? = some p2) (h3 : a.tmps[3]? = some p3)
 (h : wpAny P .any l.toArray (Kept2 Q D p2 p3) l.toArray.size (Array.replicate l.toArray.size false) a w.drew) : (Code.region id l.toArray true).wp P Q a w := by
 refine wp_region_any hm (kept_any (fun i o ho => ?_) _ _ _ _ h2 h3 h)
 have h7 := List.all_eq_true.1 hd o (by
  rw [List.getElem?_toArray] at ho;exact List.mem_of_getElem? ho)
 simpa using h7
end
theorem flag_and (z : Nat) (hz : z < 256) : bits .and .u8 (z : Int) 60 = ((z / 4 % 16 * 4 : Nat) : Int) ∧ bits .and .u8 (z : Int) 64 = ((z / 64 % 2 * 64 : Nat) : Int) ∧ bits .and .u8 (z : Int) 128 = ((z / 128 * 128 : Nat) : Int) ∧ bits .and .u8 (z : Int) 3 = ((z % 4 : Nat) : Int) := by
 have : ∀ i : Fin 256, bits .and .u8 (i.val : Int) 60 = ((i.val / 4 % 16 * 4 : Nat) : Int) ∧ bits .and .u8 (i.val : Int) 64 = ((i.val / 64 % 2 * 64 : Nat) : Int) ∧ bits .and .u8 (i.val : Int) 128 = ((i.val / 128 * 128 : Nat) : Int) ∧ bits .and .u8 (i.val : Int) 3 = ((i.val % 4 : Nat) : Int) := by decide +kernel
 exact this ⟨z, hz⟩
theorem headF_wh (S : Sums) (l : List UInt8) : headF S l = if whE S l ≠ 0 then .no 3 else if (l.getD 1 0).toNat / 4 % 16 ≠ 0 then .no 4 else hdPacked (l.getD 1 0).toNat ((l.take (l.length - 4)).drop 2) := by
 unfold headF whE;split <;> simp
structure FE where
 id : Nat
 ps : List UInt8
 A : Option Addr
 c : Nat
def feC (f : FE) : List Value := [.int .u64 f.id, .slice f.A f.ps.length f.c]
def fesC (l : List FE) : List Value := l.flatMap feC
def fesF (l : List FE) : List (Nat × List UInt8) := l.map fun f => (f.id, f.ps)
theorem fesC_get (l : List FE) (i : Nat) (f : FE) (h : l[i]? = some f) : (fesC l)[i * 2]? = some (.int .u64 f.id) ∧ (fesC l)[i * 2 + 1]? = some (.slice f.A f.ps.length f.c) := by
 induction l generalizing i with
 | nil => simp at h
 | cons x t ih =>
  cases i with
  | zero => simp at h; subst h; exact ⟨rfl, rfl⟩
  | succ i =>
   simp at h;obtain ⟨h1, h2⟩ := ih i h;have e : fesC (x :: t) = .int .u64 x.id :: .slice x.A x.ps.length x.c :: fesC t := rfl;rw [e, show (i + 1) * 2 = i * 2 + 1 + 1 by omega, show i * 2 + 1 + 1 + 1 = (i * 2 + 1) + 1 + 1 by omega]
   exact ⟨h1, h2⟩
theorem fesC_snoc (l : List FE) (f : FE) : fesC (l ++ [f]) = fesC l ++ feC f := by simp [fesC]
def FesIn (B : Nat) (w : World) (l : List FE) : Prop := ∀ f ∈ l, w.ownsRow B 5 1 (.slice f.A f.ps.length f.c) f.ps.length (bys f.ps) ∧ f.ps.length ≤ 1048576
theorem fls_of_own {w : World} {B n c : Nat} {A : Option Addr} {l : List FE} (h : w.ownsRow B 116 2 (.slice A n c) n (fesC l)) (hl : l.length = n) (hi : FesIn B w l) : FlsIn A n (fesF l) w := by
 refine ⟨by simp [fesF, hl], fun i hin => ?_⟩
 obtain ⟨f, hf⟩ : ∃ f, l[i]? = some f := ⟨_, List.getElem?_eq_getElem (by omega)⟩
 have hr : Rd w 2 A n (fesC l) := Rd.of_own h;obtain ⟨ad, had, hc⟩ := hr.2 (by omega)
 have hat : ∃ b, ad = ⟨b, 0, none⟩ := by
  rcases h.2 with ⟨hv, _⟩ | ⟨g', cap', cur, hv, _⟩
  · injection hv with h1 h2 h3; rw [had] at h1; cases h1
  · injection hv with h1; rw [had] at h1; injection h1 with h1; exact ⟨_, h1⟩
 obtain ⟨b, rfl⟩ := hat;obtain ⟨g1, g2⟩ := fesC_get l i f hf;have c1 := hc _ _ g1;have c2 := hc _ _ g2;rw [add_none] at c1 c2;have hfi := hi f (List.mem_of_getElem? hf);have e : (fesF l).getD i (0, []) = (f.id, f.ps) := by simp [fesF, List.getD, hf]
 rw [e];exact ⟨b, 0, f.A, f.c, had, c1, by rw [Nat.zero_add] at c2 ⊢; exact c2, in_own hfi.1 (by have := hfi.2; show f.ps.length ≤ _; omega), block_lt_of_cell c1, own_le hfi.1⟩
structure GSt (w0 : World) (H E R m : Nat) (pk sz : Int) (Fl : Option Addr) (i fc : Nat) (A2 : Option Addr) (n2 c2 : Nat) (r2 : List UInt8) (w : World) : Prop where
 h : Blk w H 91 (hdV pk sz Fl i fc m)
 e : Blk w E 54 #[.int .i64 0]
 r : Blk w R 282 #[.slice A2 n2 c2]
 i : In w A2 n2 r2
 c : n2 ≤ c2 ∧ c2 ≤ 9223372036854775807
 b : Below w0.heap.size w0 w
 a : n2 ≤ 1048576 ∧ ∀ ad, A2 = some ad → ad.block < w0.heap.size
def HdPost (r : HR) (m : Nat) (w : World) (e : Ending) (w' : World) : Prop :=
 Below w.heap.size w w' ∧ if r.e = 0 then ∃ Fl c, e = .returned (.tuple #[.agg (hdV r.packed r.size Fl r.fl.length c m), .int .i64 0]) ∧ FlsIn Fl r.fl.length r.fl w' ∧ r.fl.length ≤ 8
 else e = .returned (.tuple #[.agg (hdV 0 0 none 0 0 0), .int .i64 r.e])
theorem get_dies {a : Act} {w wz : World} {H E k m0 : Nat} {p s : Int} {A : Option Addr} {n c m : Nat} {x : Int} {r : HR} (hr : r.e = k) (hk : k ≠ 0)
 (hd : a.defers = [{ target := .fn (.func 137) #[.pointer (some ⟨H, 0, none⟩), .pointer (some ⟨E, 0, none⟩)], args := #[] }]) (h2 : a.tmps[2]? = some (.pointer (some ⟨H, 0, none⟩))) (h3 : a.tmps[3]? = some (.pointer (some ⟨E, 0, none⟩)))
 (hH : Blk wz H 91 (hdV p s A n c m)) (hE : Blk wz E 54 #[.int .i64 x]) (hb : Below w.heap.size w wz) (hx : w.heap.size ≤ H ∧ w.heap.size ≤ E ∧ H ≠ E) :
 bodyPostD Tryz.prog Tryz.f112 (HdPost r m0 w) (.panic [{ v := .iface 54 (.int .i64 (k : Int)), recovered := false }]) a wz := by
 show Leaves _ _ a.tmps _ a.defers _ wz;rw [hd];refine leaves_cons (f := 137) (args := #[.pointer (some ⟨H, 0, none⟩), .pointer (some ⟨E, 0, none⟩)]) (by simp) (by simp [go_sem]) ?_
 refine (get1_dies H E k p s A n c m x [] wz hH hE hx.2.2).mono ?_;rintro e u' w'' ⟨rfl, rfl, hH', hE', hf⟩;have c0 := hH'.cell 0;have c1 := hH'.cell 1;have c2 := hH'.cell 2;have c3 := hH'.cell 3;have e0 := hE'.cell 0;simp [hdV] at c0 c1 c2 c3 e0;refine ⟨.tuple #[.agg (hdV 0 0 none 0 0 0), .int .i64 k], by simp [results, Tryz.results112, go_sem, h2, h3, c0, c1, c2, c3, e0, hdV], hb.trans (hf.below hb.size (fun g hg => by rcases hg with rfl | rfl; exact hx.1; exact hx.2.1)), ?_⟩
 rw [hr, if_neg hk]
theorem get_ends {a : Act} {w wz : World} {H E m : Nat} {p s : Int} {A : Option Addr} {n c : Nat} {r : HR} (hr : r.e = 0) (hp : r.packed = p) (hs : r.size = s) (hn : r.fl.length = n) (hF : FlsIn A n r.fl wz) (hn8 : n ≤ 8)
 (hd : a.defers = [{ target := .fn (.func 137) #[.pointer (some ⟨H, 0, none⟩), .pointer (some ⟨E, 0, none⟩)], args := #[] }]) (h2 : a.tmps[2]? = some (.pointer (some ⟨H, 0, none⟩))) (h3 : a.tmps[3]? = some (.pointer (some ⟨E, 0, none⟩)))
 (hH : Blk wz H 91 (hdV p s A n c m)) (hE : Blk wz E 54 #[.int .i64 0]) (hb : Below w.heap.size w wz) :
 bodyPostD Tryz.prog Tryz.f112 (HdPost r m w) .ret a wz := by
 show Leaves _ _ a.tmps _ a.defers _ wz;rw [hd];refine leaves_cons (f := 137) (args := #[.pointer (some ⟨H, 0, none⟩), .pointer (some ⟨E, 0, none⟩)]) (by simp) (by simp [go_sem]) ?_
 refine (get1_idle H E wz).mono ?_;rintro e u' w'' ⟨rfl, rfl, rfl⟩;have c0 := hH.cell 0;have c1 := hH.cell 1;have c2 := hH.cell 2;have c3 := hH.cell 3;have e0 := hE.cell 0;simp [hdV] at c0 c1 c2 c3 e0;refine ⟨.tuple #[.agg (hdV p s A n c m), .int .i64 0], by simp [results, Tryz.results112, go_sem, h2, h3, c0, c1, c2, c3, e0, hdV], hb, ?_⟩
 rw [if_pos hr, hp, hs, hn];exact ⟨A, c, rfl, hF, hn8⟩
end Go.Proofs.YtcjehjdehdoaeaaGreatDoor
