/-
  Laws on the way to the claim (OuG OuH OuI). Conditions: those that each theorem states.
-/
import Derived.Test.YtcjehjdehdoaeaaGreatDoorOm44
set_option linter.unusedVariables false
set_option linter.unusedSimpArgs false
set_option maxRecDepth 1000000
set_option maxHeartbeats 16000000
namespace Go.Proofs.YtcjehjdehdoaeaaGreatDoor
open Go.RowKit
structure RecIn (A : Option Addr) (n : Nat) (l : List (Nat × Nat)) (w : World) : Prop where
 len : l.length = n
 c : ∀ i, i < n → ∃ b o, A = some ⟨b, o, none⟩ ∧ w.cell? ⟨b, o + i * 2, none⟩ = some (.int .i64 ((l.getD i (0, 0)).1 : Nat)) ∧ w.cell? ⟨b, o + i * 2 + 1, none⟩ = some (.int .i64 ((l.getD i (0, 0)).2 : Nat)) ∧ b < w.heap.size
theorem RecIn.below {A : Option Addr} {n : Nat} {l : List (Nat × Nat)} {w w' : World} (h : RecIn A n l w) (hb : Below w.heap.size w w') : RecIn A n l w' := ⟨h.len, fun i hi => by
 obtain ⟨b, o, h1, h2, h3, h4⟩ := h.c i hi;exact ⟨b, o, h1, (hb.cell (p := ⟨b, o + i * 2, none⟩) h4).trans h2, (hb.cell (p := ⟨b, o + i * 2 + 1, none⟩) h4).trans h3, Nat.lt_of_lt_of_le h4 hb.size⟩⟩
theorem unp_any (b p q n : Nat) (w : World) (h : Blk w b 95 #[.int .i64 p, .int .i64 q]) (h5 : 5 ≤ n) (hn : n ≤ 1152921504606846976) (hp : p ≤ 4611686018427387904) :
 Calls Tryz.prog 59 #[.pointer (some ⟨b, 0, none⟩), .int .i64 n] w fun e w' => e = .returned (.bool true) ∧ Blk w' b 95 #[.int .i64 (p + (n + padI n) : Nat), .int .i64 q] ∧ Fr (fun k => k = b) w w' := by
 have hpd := padI_le n;have HPd := Lib.hid (fun W => Pad_any n W (by omega))
 obtain ⟨d, hd⟩ : ∃ x, padI n = x := ⟨_, rfl⟩;rw [hd] at hpd HPd ⊢;obtain ⟨c0, c1⟩ := h.two;have f0 := h.frozen 0;have H := Lib.hid h;obtain ⟨nd, hnd⟩ : ∃ x, n + d = x := ⟨_, rfl⟩;have Y1 : Hid (decide ((n : Int) < 5) = false) := Lib.hid (decide_eq_false (by omega))
 have Y2 : Hid (decide ((9223372036854775804 : Int) < (n : Int)) = false) := Lib.hid (decide_eq_false (by omega))
 have x3 : IntKind.i64.wrap ((n : Int) + (d : Int)) = (nd : Int) := by rw [IntWalk.i64_in _ (by omega)]; omega
 have x4 : IntKind.i64.wrap (9223372036854775807 - (p : Int)) = 9223372036854775807 - (p : Int) := IntWalk.i64_in _ (by omega)
 have Y5 : Hid (decide (9223372036854775807 - (p : Int) < (nd : Int)) = false) := Lib.hid (decide_eq_false (by omega))
 have x6 : IntKind.i64.wrap ((p : Int) + (nd : Int)) = ((p + nd : Nat) : Int) := by rw [IntWalk.i64_in _ (by omega)]; omega
 rw [hnd];clear h hd hnd h5 hn hp hpd;go_enter Tryz.func59, Tryz.ntmps59;go_wp2_with fail;have y1 := Y1.out;have y2 := Y2.out;have y5 := Y5.out
 go_region_held3 (fun w' => w'.cell? ⟨b, 0, none⟩ = some (.int .i64 p))
  (first | (with_reducible exact c0) | go_keep)
  (first | (go_at_call 34; refine (HPd.out _).mono ?_; rintro e wz ⟨rfl, rfl⟩))
 go_wp2_with fail;obtain ⟨w2, hw2⟩ : ∃ x, w.drew = x := ⟨_, rfl⟩;have H2 := Lib.hid (show Blk w2 b 95 #[.int .i64 p, .int .i64 q] ∧ Fr (fun k => k = b) w w2 by rw [← hw2]; exact ⟨H.out.drew, (Fr.refl _ _).drew⟩)
 have d0 := H2.out.1.drew.cell 0;rw [hw2];clear c0 c1 f0 y1 y2 hw2;refine wp_region_still_tail 11 (by kernel_rfl) (by kernel_rfl) ?_
 simp only [List.take_succ_cons, List.take_zero, List.drop_succ_cons, List.drop_zero]
 repeat (first | still_step | still_call (HPd.out _))
 try refine wpStill_nil ?_
 change wpList _ _ _ _ _ w2.drew;have g0 := H2.out.1.drew.frozen 0;go_wp2_with fail;go_ret;exact ⟨rfl, H2.out.1.drew.set_ 0 (.int .i64 (p + nd : Nat)), Fr.set1 H2.out.2.drew 0 _⟩
theorem siz_any (b p q n : Nat) (w : World) (h : Blk w b 95 #[.int .i64 p, .int .i64 q]) (hn : n ≤ 1152921504606846976) (hq : q ≤ 4611686018427387904) :
 Calls Tryz.prog 60 #[.pointer (some ⟨b, 0, none⟩), .int .i64 n] w fun e w' => e = .returned (.bool true) ∧ Blk w' b 95 #[.int .i64 p, .int .i64 (q + n : Nat)] ∧ Fr (fun k => k = b) w w' := by
 obtain ⟨c0, c1⟩ := h.two;have f1 := h.frozen 1;have H := Lib.hid h;have x1 : ¬ (n : Int) < 0 := by omega
 have x4 : IntKind.i64.wrap (9223372036854775807 - (q : Int)) = 9223372036854775807 - (q : Int) := IntWalk.i64_in _ (by omega)
 have x5 : ¬ 9223372036854775807 - (q : Int) < (n : Int) := by omega
 have x6 : IntKind.i64.wrap ((q : Int) + (n : Int)) = ((q + n : Nat) : Int) := by rw [IntWalk.i64_in _ (by omega)]; omega
 clear h hn hq;go_enter Tryz.func60, Tryz.ntmps60;go_wp2_with fail;go_ret;exact ⟨rfl, H.out.set_ 1 (.int .i64 (q + n : Nat)), Fr.set1 (Fr.refl _ _) 1 _⟩
def recOk (l : List (Nat × Nat)) : Prop := ∀ r ∈ l, 5 ≤ r.1 ∧ r.1 ≤ 1099511627776 ∧ r.2 ≤ 1099511627776
theorem iright_any (A : Option Addr) (n c : Nat) (l : List (Nat × Nat)) (w : World) (h : RecIn A n l w) (hr : recOk l) (hn : n ≤ 1048576) :
 Calls Tryz.prog 35 #[.slice A n c] w fun e w' => (∃ p q : Nat, e = .returned (.tuple #[.agg #[.int .i64 p, .int .i64 q], .bool true])) ∧ Below w.heap.size w w' := by
 obtain ⟨b, hb⟩ : ∃ x, w.heap.size = x := ⟨_, rfl⟩;obtain ⟨w1, hw1⟩ : ∃ x, (w.alloc (.cells #[.int .i64 0, .int .i64 0] 95)).alloc (.cells #[.int .i64 0, .int .i64 0] 95) = x := ⟨_, rfl⟩;have hb1 : Below w.heap.size w w1 := by rw [← hw1]; exact ((Below.refl _ _).alloc (Nat.le_refl _) _).alloc (by simp) _
 have hk0 : Blk w1 b 95 #[.int .i64 0, .int .i64 0] := by rw [← hw1, ← hb]; exact (Blk.new _ _ _).alloc _
 have hk1 : Blk w1 (b + 1) 95 #[.int .i64 (0 : Nat), .int .i64 (0 : Nat)] := by rw [← hw1]; exact Blk.new_at (by simp [hb])
 have H := Lib.hid (And.intro h (And.intro hr (And.intro hw1 hb)));have H1 := Lib.hid (And.intro hb1 (And.intro hk0 hk1));clear h hr hw1 hb hb1 hk0 hk1;go_enter Tryz.func35, Tryz.ntmps35;go_upto_region 2 with (fail);rw [H.out.2.2.1, H.out.2.2.2];go_wp2_with fail
 go_loopw [9] (fun s9 wr => ∃ i : Nat, s9 = .int .i64 (i : Int) ∧ i ≤ n ∧ Hid (Below w.heap.size w wr ∧ Blk wr b 95 #[.int .i64 0, .int .i64 0] ∧ ∃ p q : Nat, Blk wr (b + 1) 95 #[.int .i64 p, .int .i64 q] ∧ p ≤ i * 1099511627780 ∧ q ≤ i * 1099511627776)) (fun s9 _ => n - (intOf s9).toNat)
 case atStart => exact ⟨0, rfl, Nat.zero_le _, Lib.hid ⟨H1.out.1, H1.out.2.1, 0, 0, H1.out.2.2, by omega, by omega⟩⟩
 case round =>
  clear H1;obtain ⟨i, rfl, hi, HJ⟩ := hrel;obtain ⟨hb, hk0, p, q, hk1, hp, hq⟩ := HJ.out;by_cases hin : i < n
  · have hin' : (i : Int) < (n : Int) := by omega
    obtain ⟨ab, ao, rfl, q0, q1, q2⟩ := (H.out.1.below hb).c i hin;obtain ⟨⟨u, s⟩, hf⟩ : ∃ z, l.getD i (0, 0) = z := ⟨_, rfl⟩;rw [hf] at q0 q1;simp only [] at q0 q1;have hu := H.out.2.1 (u, s) (List.mem_of_getElem? (show l[i]? = some (u, s) by rw [← hf, List.getD, List.getElem?_eq_getElem (by have := H.out.1.len; omega)]; rfl))
    simp only [] at hu;obtain ⟨V, hV⟩ : ∃ z, wr.heap.size = z := ⟨_, rfl⟩;obtain ⟨w2, hw2⟩ : ∃ z, wr.alloc (.cells #[.int .i64 u, .int .i64 s] 61) = z := ⟨_, rfl⟩;have hb2 : Below wr.heap.size wr w2 := by rw [← hw2]; exact (Below.refl _ _).alloc (Nat.le_refl _) _
    have hV2 : Blk w2 V 61 #[.int .i64 u, .int .i64 s] := by rw [← hw2]; exact Blk.new_at hV.symm
    have h1 := hk1.below hb2;have h0 := hk0.below hb2;have hpd := padI_le u;have HU := Lib.hid (unp_any (b + 1) p q u w2 h1 hu.1 (by omega) (by omega))
    have HS := Lib.hid (fun W h => siz_any (b + 1) (p + (u + padI u)) q s W h (by omega) (by omega))
    have hw := hb.size;have HB2 := Lib.hid (And.intro (bup hb hb2) (And.intro hV2 (And.intro h0 (And.intro hw2 hV))));have hne1 : ¬ b + 1 = V := by have := hk1.lt; omega
    have hne0 : ¬ b = b + 1 := by omega
    have HNe : Hid (w.heap.size ≤ b + 1 ∧ w.heap.size ≤ w2.heap.size) := Lib.hid ⟨by have := H.out.2.2.2; omega, (bup hb hb2).size⟩
    have HPq : Hid (p + (u + padI u) ≤ (i + 1) * 1099511627780 ∧ q + s ≤ (i + 1) * 1099511627776) := Lib.hid ⟨by omega, by omega⟩
    obtain ⟨p2, hp2⟩ : ∃ x, p + (u + padI u) = x := ⟨_, rfl⟩;rw [hp2] at HU HS HPq;obtain ⟨z0, z1⟩ := hV2.two;clear hb hk0 hk1 hp hq hu hf hw2 hV hb2 hV2 h1 h0 hpd hw hp2 HJ;go_wp2_with fail;rw [HB2.out.2.2.2.1, HB2.out.2.2.2.2];go_wp2_with fail;refine HU.out.mono ?_;rintro e w3 ⟨rfl, hk3, hf3⟩;have hV3 := HB2.out.2.1.fr hf3 (fun e => hne1 e.symm)
    obtain ⟨y0, y1⟩ := hV3.two;have HS3 := Lib.hid (HS.out w3 hk3);have H3 := Lib.hid (And.intro (HB2.out.1.trans (hf3.below HNe.out.2 (fun k hk => by have hk : k = b + 1 := hk; have := HNe.out.1; omega))) (And.intro (HB2.out.2.2.1.fr hf3 hne0) HNe.out))
    clear hk3 hf3 hV3 z0 z1;go_wp2_with fail;refine HS3.out.mono ?_;rintro e w4 ⟨rfl, hk4, hf4⟩;have H4 := Lib.hid (And.intro (H3.out.1.trans (hf4.below H3.out.1.size (fun k hk => by have hk : k = b + 1 := hk; have := HNe.out.1; omega))) (And.intro (H3.out.2.1.fr hf4 hne0) hk4))
    clear hk4 hf4;go_wp2_with fail
    go_roundw
    case rel => exact ⟨i + 1, by go_num, by omega, Lib.hid ⟨H4.out.1, H4.out.2.1, _, _, H4.out.2.2, HPq.out.1, HPq.out.2⟩⟩
    case measure => simp [intOf]; omega
  · obtain rfl : i = n := by omega
    have hin' : ¬ (i : Int) < (i : Int) := by omega
    obtain ⟨c0, c1⟩ := hk1.two;obtain ⟨d0, d1⟩ := hk0.two;have f0 := hk0.frozen 0;have f1 := hk0.frozen 1;have hk2 := (hk0.set_ 0 (.int .i64 p)).set_ 1 (.int .i64 q);have HB := Lib.hid (And.intro ((hb.setCell (p := ⟨b, 0, none⟩) (by rw [← H.out.2.2.2]; exact Nat.le_refl _) (.int .i64 p)).setCell (p := ⟨b, 1, none⟩) (by rw [← H.out.2.2.2]; exact Nat.le_refl _) (.int .i64 q)) hk2)
    clear hb hk0 hk1 hp hq HJ hk2;go_wp2_with fail;obtain ⟨w9, hw9⟩ : ∃ x, (wr.setCell ⟨b, 0, none⟩ (.int .i64 p)).setCell ⟨b, 1, none⟩ (.int .i64 q) = x := ⟨_, rfl⟩;rw [hw9] at HB ⊢;have e0 := HB.out.2.cell 0;have e1 := HB.out.2.cell 1;refine bodyPost_ret (v := .tuple #[.agg #[.int .i64 p, .int .i64 q], .bool true]) (by simp [results, Tryz.results35, go_sem, e0, e1]) rfl ?_
    exact ⟨⟨p, q, rfl⟩, HB.out.1⟩
theorem Put1_any (B b G n : Nat) (l : List UInt8) (w : World) (h : Wt B b l w) (hG : Blk w G 98 #[.pointer (some ⟨b, 0, none⟩)]) (hn : n ≤ 1099511627776) (hl : l.length ≤ 4398046511104) (hB : LaidB w) :
 Calls Tryz.prog 38 #[.int .i64 n, .pointer (some ⟨G, 0, none⟩)] w fun e w' => e = .returned (.tuple #[]) ∧ Wt B b (l ++ viP n) w' ∧ Below B w w' ∧ KpW w w' := by
 have hb := h.base;have HV := Lib.hid (vPut_any n w (by omega) hB)
 have hvl := viP_len n;have hv9 := (viN_pos n).2;obtain ⟨a, ha⟩ : ∃ x, viN n = x := ⟨_, rfl⟩;rw [ha] at HV hvl hv9;have H := Lib.hid (And.intro h (And.intro hG (And.intro hb (And.intro hvl hl))));have wn : (n : Int) % 18446744073709551616 = (n : Int) := by omega
 clear h hG hB ha hvl hb hl;go_enter Tryz.func38, Tryz.ntmps38;go_wp2_with fail;refine HV.out.mono ?_;rintro e w2 ⟨rfl, hk2, hb2⟩;have ho2 := own_blk hk2 (B := w.heap.size) (Nat.le_refl _) (by rw [H.out.2.2.2.1]; omega)
 rw [H.out.2.2.2.1] at ho2;have HP := Lib.hid (WPut_k B b l _ a a (viP n) w2 (H.out.1.below hb2) (in_own ho2 (by omega)) (by have := H.out.2.2.2.2; omega))
 have c0 := (H.out.2.1.below hb2).one;have HB := Lib.hid (And.intro (hb2.mono H.out.2.2.1) (KpW.of hb2));clear hk2 hb2 ho2;go_wp2_with fail;refine HP.out.mono ?_;rintro e w3 ⟨rfl, hW3, hb3, hk3⟩;have H3 := Lib.hid (And.intro hW3 (And.intro (HB.out.1.trans hb3) (HB.out.2.trans hk3)));clear hW3 hb3 hk3;go_wp2_with fail
 first | go_end0 | refine bodyPost_ret (results_none rfl _ _ _) rfl ?_
 exact ⟨rfl, H3.out⟩
def ixG (b : List UInt8) (l : List (Nat × Nat)) : List UInt8 := l.foldl (fun b p => b ++ viP p.1 ++ viP p.2) b
theorem ixG_snoc (b : List UInt8) (l : List (Nat × Nat)) (p : Nat × Nat) : ixG b (l ++ [p]) = ixG b l ++ viP p.1 ++ viP p.2 := by simp [ixG]
theorem ixG_len (l : List (Nat × Nat)) : ∀ b : List UInt8, (ixG b l).length ≤ b.length + 18 * l.length := by
 induction l with
 | nil => intro b; exact Nat.le_refl _
 | cons p t ih =>
  intro b;have := ih (b ++ viP p.1 ++ viP p.2);have h1 := (viN_pos p.1).2;have h2 := (viN_pos p.2).2;rw [List.length_append, List.length_append, viP_len, viP_len] at this;show (ixG (b ++ viP p.1 ++ viP p.2) t).length ≤ _;rw [List.length_cons];omega
theorem IPut_any (S : Sums) (hS : S.c32 = crc32) (A : Option Addr) (n c : Nat) (l : List (Nat × Nat)) (w : World) (h : RecIn A n l w) (hr : recOk l) (hn : n ≤ 1048576) (hB : LaidB w) (hC : LaidC w) :
 Calls Tryz.prog 21 #[.slice A n c] w (Gv (ixP S l) w) := by
 have hln := h.len;obtain ⟨F, hFe⟩ : ∃ x, ixP S l = x := ⟨_, rfl⟩;have hF : F = ixQ (ixG (0 :: viP n) l) ++ leN 4 (crc32 (ixQ (ixG (0 :: viP n) l))) := by rw [← hFe]; unfold ixP; rw [hS, ← hln]; rfl
 rw [hFe];have HR := Lib.hid (iright_any A n c l w h hr hn);have H := Lib.hid (And.intro h (And.intro hr (And.intro hB (And.intro hC (And.intro hF hn)))));clear h hr hB hC hF hFe hn;go_enter Tryz.func21, Tryz.ntmps21;go_wp2_with fail;refine HR.out.mono ?_;rintro e w1 ⟨⟨p, q, rfl⟩, hb1⟩;have HB1 := Lib.hid hb1;clear hb1;go_wp2_with fail;obtain ⟨w2, hw2⟩ : ∃ x, w1.alloc (.cells #[.int .i64 p, .int .i64 q] 95) = x := ⟨_, rfl⟩
 have HB2 := Lib.hid (show Below w.heap.size w w2 by rw [← hw2]; exact HB1.out.alloc HB1.out.size _)
 rw [hw2];clear hw2;refine (NewWriter_any w2).mono ?_;rintro e w3 ⟨rfl, hW3, hb3⟩;obtain ⟨b, hb⟩ : ∃ x, w2.heap.size = x := ⟨_, rfl⟩;rw [hb] at hW3 ⊢;have hwb : w.heap.size ≤ b := by rw [← hb]; exact HB2.out.size
 have HB3 := Lib.hid (And.intro (bup HB2.out hb3) hwb);have HW3 := Lib.hid hW3;clear hW3 hb3 hb hwb;obtain ⟨G, hG⟩ : ∃ x, w3.heap.size = x := ⟨_, rfl⟩;obtain ⟨w4, hw4⟩ : ∃ x, w3.alloc (.cells #[.pointer (some ⟨b, 0, none⟩)] 98) = x := ⟨_, rfl⟩;obtain ⟨w5, hw5⟩ : ∃ x, w4.alloc (.cells #[.int .u8 0] 5) = x := ⟨_, rfl⟩;have hb4 : Below w3.heap.size w3 w4 := by rw [← hw4]; exact (Below.refl _ _).alloc (Nat.le_refl _) _
 have hG4 : Blk w4 G 98 #[.pointer (some ⟨b, 0, none⟩)] := by rw [← hw4]; exact Blk.new_at hG.symm
 have hb5 : Below w4.heap.size w4 w5 := by rw [← hw5]; exact (Below.refl _ _).alloc (Nat.le_refl _) _
 have g0 := hG4.one;have HP := Lib.hid (WPut_k b b [] (some ⟨w4.heap.size, 0, none⟩) 1 1 [0] w5 ((HW3.out.below hb4).below hb5) (by rw [← hw5]; exact in_new (w := w4) (r := [0]) rfl (by simp)) (by simp))
 have H5 := Lib.hid (And.intro (bup (bup HB3.out.1 hb4) hb5) (And.intro (hG4.below hb5) (And.intro hw4 (And.intro hG hw5))));clear hb4 hb5 hG4 hw4 hG hw5;go_upto_region 5 with (fail);rw [H5.out.2.2.1, H5.out.2.2.2.1];go_wp2_with fail;rw [H5.out.2.2.2.2];refine HP.out.mono ?_;rintro e w6 ⟨rfl, hW6, hb6, hk6⟩;have hG6 := hk6 _ _ _ H5.out.2.1 (by decide) (by decide)
 have hB6 := H5.out.1.trans (hb6.mono HB3.out.2);have HP2 := Lib.hid (Put1_any b b G n ([] ++ [0]) w6 hW6 hG6 (by have := H.out.2.2.2.2.2; omega) (by simp) (H.out.2.2.1.below hB6))
 have H6 := Lib.hid (And.intro hB6 hG6);clear hW6 hb6 hk6 hG6 hB6 g0 HP;go_wp2_with fail;refine HP2.out.mono ?_;rintro e w7 ⟨rfl, hW7, hb7, hk7⟩;have H7 := Lib.hid (show Below w.heap.size w w7 ∧ Wt b b (ixG (0 :: viP n) (l.take 0)) w7 ∧ Blk w7 G 98 #[.pointer (some ⟨b, 0, none⟩)] from ⟨H6.out.1.trans (hb7.mono HB3.out.2), hW7, hk7 _ _ _ H6.out.2 (by decide) (by decide)⟩)
 clear hW7 hb7 hk7 HP2;go_wp2_with fail
 go_loopw [28] (fun s28 wr => ∃ i : Nat, s28 = .int .i64 (i : Int) ∧ i ≤ n ∧ Hid (Below w.heap.size w wr ∧ Wt b b (ixG (0 :: viP n) (l.take i)) wr ∧ Blk wr G 98 #[.pointer (some ⟨b, 0, none⟩)])) (fun s28 _ => n - (intOf s28).toNat)
 case atStart => exact ⟨0, rfl, Nat.zero_le _, H7⟩
 case round =>
  clear H7;obtain ⟨i, rfl, hi, HJ⟩ := hrel;obtain ⟨hb, hW, hG⟩ := HJ.out;have hn20 := H.out.2.2.2.2.2;have hxl : ∀ i, (ixG (0 :: viP n) (l.take i)).length ≤ 37748800 := fun i => by
   have h1 := ixG_len (l.take i) (0 :: viP n);have h2 := (viN_pos n).2;have h3 := H.out.1.len;have h4 := H.out.2.2.2.2.2;rw [List.length_cons, viP_len, List.length_take] at h1;omega
  by_cases hin : i < n
  · have hin' : (i : Int) < (n : Int) := by omega
    obtain ⟨ab, ao, rfl, q0, q1, q2⟩ := (H.out.1.below hb).c i hin;obtain ⟨⟨u, s⟩, hf⟩ : ∃ z, l.getD i (0, 0) = z := ⟨_, rfl⟩;rw [hf] at q0 q1;simp only [] at q0 q1;have hfi : l[i]? = some (u, s) := by rw [← hf, List.getD, List.getElem?_eq_getElem (by have := H.out.1.len; omega)]; rfl
    have hu := H.out.2.1 (u, s) (List.mem_of_getElem? hfi);simp only [] at hu;have HSn := Lib.hid (show ixG (0 :: viP n) (l.take (i + 1)) = ixG (0 :: viP n) (l.take i) ++ viP u ++ viP s by rw [List.take_add_one, hfi]; exact ixG_snoc _ _ _)
    obtain ⟨V, hV⟩ : ∃ z, wr.heap.size = z := ⟨_, rfl⟩;obtain ⟨w8, hw8⟩ : ∃ z, wr.alloc (.cells #[.int .i64 u, .int .i64 s] 61) = z := ⟨_, rfl⟩;have hb8 : Below wr.heap.size wr w8 := by rw [← hw8]; exact (Below.refl _ _).alloc (Nat.le_refl _) _
    have hV8 : Blk w8 V 61 #[.int .i64 u, .int .i64 s] := by rw [← hw8]; exact Blk.new_at hV.symm
    have HU := Lib.hid (Put1_any b b G u _ w8 (hW.below hb8) (hG.below hb8) (by omega) (by have := hxl i; omega) (H.out.2.2.1.below (bup hb hb8)))
    have HL2 : Hid ((ixG (0 :: viP n) (l.take i) ++ viP u).length ≤ 4398046511104) := Lib.hid (by have := hxl i; have := (viN_pos u).2; rw [List.length_append, viP_len]; omega)
    have hs12 : s ≤ 1099511627776 := hu.2.2;have H8 := Lib.hid (And.intro (bup hb hb8) (And.intro hV8 (And.intro (hG.below hb8) (And.intro hw8 hV))));obtain ⟨z0, z1⟩ := hV8.two;clear hb hW hG hfi hu hf hw8 hV hb8 hV8 HJ hxl;go_wp2_with fail;rw [H8.out.2.2.2.1, H8.out.2.2.2.2];go_wp2_with fail;refine HU.out.mono ?_;rintro e w9 ⟨rfl, hW9, hb9, hk9⟩;have hV9 := hk9 _ _ _ H8.out.2.1 (by decide) (by decide)
    have hG9 := hk9 _ _ _ H8.out.2.2.1 (by decide) (by decide)
    have hB9 := H8.out.1.trans (hb9.mono HB3.out.2);obtain ⟨y0, y1⟩ := hV9.two;have HU2 := Lib.hid (Put1_any b b G s _ w9 hW9 hG9 hs12 HL2.out (H.out.2.2.1.below hB9));have H9 := Lib.hid (And.intro hB9 hG9);clear hV9 hG9 hW9 hb9 hk9 hB9 z0 z1;go_wp2_with fail;refine HU2.out.mono ?_;rintro e w10 ⟨rfl, hW10, hb10, hk10⟩;rw [← HSn.out] at hW10;have H10 := Lib.hid (And.intro (H9.out.1.trans (hb10.mono HB3.out.2)) (And.intro hW10 (hk10 _ _ _ H9.out.2 (by decide) (by decide))))
    clear hW10 hb10 hk10;go_wp2_with fail
    go_roundw
    case rel => exact ⟨i + 1, by go_num, by omega, H10⟩
    case measure => simp [intOf]; omega
  · obtain rfl : i = n := by omega
    have hin' : ¬ (i : Int) < (i : Int) := by omega
    rw [List.take_of_length_le (by have := H.out.1.len; omega)] at hW
    have hxl2 := hxl i;rw [List.take_of_length_le (by have := H.out.1.len; omega)] at hxl2
    have hF := H.out.2.2.2.2.1;obtain ⟨body, hbody⟩ : ∃ x, ixG (0 :: viP i) l = x := ⟨_, rfl⟩;rw [hbody] at hW hxl2 hF;have HFx := Lib.hid hF;obtain ⟨m, hm⟩ : ∃ x, body.length = x := ⟨_, rfl⟩;rw [hm] at hxl2;have HQm := Lib.hid (show body ++ List.replicate (padI m) 0 = ixQ body by unfold ixQ; rw [hm])
    have hpd := padI_le m;obtain ⟨pd, hpde⟩ : ∃ x, padI m = x := ⟨_, rfl⟩;rw [hpde] at HQm hpd;have HPE := Lib.hid hpde;have HW0 := Lib.hid hW;have HB := Lib.hid (And.intro hb (And.intro hG hm));have g0 := hG.one;clear hb hW hG hF hbody hm hpde HJ hxl;have HLn := Lib.hid (WLen_any b b body wr.drew (HW0.out.below (Below.refl _ _).drew));rw [HB.out.2.2] at HLn;have HPd := Lib.hid (Pad_any m wr.drew (by omega))
    rw [HPE.out] at HPd;have HZ := Lib.hid (WZeros_k b b body pd wr.drew (HW0.out.below (Below.refl _ _).drew) (by rw [HB.out.2.2]; omega) (by omega))
    go_upto_region 14 with (fail)
    go_region_held3 (fun w' => w'.cell? ⟨G, 0, none⟩ = some (.pointer (some ⟨b, 0, none⟩)))
     (first | (with_reducible exact g0) | (with_reducible exact g8) | go_keep)
     (first | (go_at_call 41; refine HLn.out.mono ?_; rintro e wz ⟨rfl, rfl⟩) | (go_at_call 34; refine HPd.out.mono ?_; rintro e wz ⟨rfl, rfl⟩) | (go_at_call 40; refine HZ.out.mono ?_; rintro e w8 ⟨rfl, hW8, hb8, hk8⟩; have g8 := (hk8 _ _ _ HB.out.2.1.drew (by decide) (by decide)).one; have H8 := Lib.hid (And.intro hW8 (And.intro hb8 hk8)); clear hW8 hb8 hk8))
    obtain ⟨hW8, hb8, hk8⟩ := H8.out;rw [HQm.out] at hW8;obtain ⟨hb_, hhb⟩ : ∃ x, ixQ body = x := ⟨_, rfl⟩;rw [hhb] at hW8;have HFy := Lib.hid (show F = hb_ ++ leN 4 (crc32 hb_) by rw [HFx.out, hhb])
    have hhl : hb_.length = m + pd := by rw [← hhb, ← HQm.out, List.length_append, List.length_replicate, HB.out.2.2]
    obtain ⟨q, hq⟩ : ∃ x, m + pd = x := ⟨_, rfl⟩;rw [hq] at hhl;have hqb : q ≤ 37748803 := by omega
    have hB8 := (HB.out.1.drew).trans (hb8.mono HB3.out.2);have hG8 := hk8 _ _ _ HB.out.2.1.drew (by decide) (by decide)
    have hBy := WBytes_any b b hb_ w8.drew (hW8.below (Below.refl _ _).drew) (by rw [hhl]; omega)
    rw [hhl] at hBy;have HBy := Lib.hid hBy;obtain ⟨R, hR⟩ : ∃ x, w8.drew.heap.size = x := ⟨_, rfl⟩;have hcl := crc32_lt hb_;have HSm := Lib.hid (fun W (h : In W (some ⟨R, 0, none⟩) q hb_) (hb : Below w.heap.size w W) => Sum32_any W.heap.size 1 (some ⟨R, 0, none⟩) q q hb_ (W.alloc (.cells #[.slice (some ⟨R, 0, none⟩) q q] 22)) ((Blk.new _ _ _).cell 0) (h.below ((Below.refl _ _).alloc (Nat.le_refl _) _)) (H.out.2.2.2.1.below (hb.alloc hb.size _)))
    obtain ⟨sm, hsm⟩ : ∃ s, crc32 hb_ = s := ⟨_, rfl⟩;rw [hsm] at HSm hcl HFy;have hwr : IntKind.u64.wrap (sm : Int) = (sm : Int) := by rw [IntKind.wrap_u64]; omega
    have HLo := Lib.hid (fun W (h : Wt b b hb_ W) => WLow_k b b hb_ sm 4 (W.alloc (.cells #[.slice (some ⟨R, 0, none⟩) q q] 22)) (h.below ((Below.refl _ _).alloc (Nat.le_refl _) _)) (by decide) (by rw [hhl]; omega))
    have HC8 := Lib.hid (And.intro hW8 (And.intro hB8 (And.intro hG8 (And.intro hR hhl))));have g8' := hG8.drew.one;have HX13 := Lib.hid (fun (w11 w13 : World) (h : Below w.heap.size w w11 ∧ Blk w11 G 98 #[.pointer (some ⟨b, 0, none⟩)]) (h1 : Wt b b (hb_ ++ leN 4 sm) w13) (h2 : Below b (w11.alloc (.cells #[.slice (some ⟨R, 0, none⟩) q q] 22)) w13) (h3 : KpW (w11.alloc (.cells #[.slice (some ⟨R, 0, none⟩) q q] 22)) w13) => Lib.hid (And.intro h1 (And.intro ((h.1.alloc h.1.size (.cells #[.slice (some ⟨R, 0, none⟩) q q] 22)).trans (h2.mono HB3.out.2)) (h3 _ _ _ (h.2.alloc (.cells #[.slice (some ⟨R, 0, none⟩) q q] 22)) (by decide) (by decide)))))
    clear hW8 hb8 hk8 hhb hq hB8 hG8 hBy hR hsm hhl H8 HQm HZ HPd HLn;rw [HC8.out.2.2.2.1] at HBy;go_upto_region 15 with (fail)
    go_region_held3 (fun w' => w'.cell? ⟨G, 0, none⟩ = some (.pointer (some ⟨b, 0, none⟩)))
     (first | (with_reducible exact g8') | (with_reducible exact g11) | (with_reducible exact g12) | (with_reducible exact g13) | go_keep)
     (first | (go_at_call 44; refine HBy.out.mono ?_; rintro e w11 ⟨rfl, ho11, hb11'⟩; have hb11 : Below w8.drew.heap.size w8.drew w11 := (by rw [HC8.out.2.2.2.1]; exact hb11'); have hG11 := HC8.out.2.2.1.drew.below hb11; have g11 := hG11.one; have g12 := (hG11.alloc (.cells #[.slice (some ⟨R, 0, none⟩) q q] 22)).one; have HSm2 := Lib.hid (HSm.out w11 (in_own ho11 (by omega)) (bup HC8.out.2.1.drew hb11)); have HLo2 := Lib.hid (HLo.out w11 (HC8.out.1.below (bup (Below.refl _ _).drew hb11))); have H11 := Lib.hid (And.intro (bup HC8.out.2.1.drew hb11) hG11); clear ho11 hb11 hb11' hG11) | (go_at_call 43; refine HSm2.out.mono ?_; rintro e wz ⟨rfl, rfl⟩) | (go_at_call 42; refine HLo2.out.mono ?_; rintro e w13 ⟨rfl, hW13, hb13, hk13⟩; have H13 := HX13.out w11 w13 H11.out hW13 hb13 hk13; have g13 := H13.out.2.2.one; clear hW13 hb13 hk13))
    have HBz := Lib.hid (WBytes_any b b _ w13 H13.out.1 (by rw [List.length_append, leN_length, HC8.out.2.2.2.2]; omega))
    go_wp2_with fail;refine HBz.out.mono ?_;rintro e w14 ⟨rfl, ho14, hb14⟩;have hl : F.length = q + 4 := by rw [HFy.out, List.length_append, leN_length, HC8.out.2.2.2.2]
    rw [← HFy.out, hl] at ho14 ⊢;have H14 := Lib.hid (And.intro ho14 (And.intro hb14 hl));clear ho14 hb14 hl;go_wp2_with fail;refine bodyPost_ret (v := .tuple #[.slice (some ⟨w13.heap.size, 0, none⟩) (q + 4) (q + 4), .int .i64 0]) (by simp [results, Tryz.results21, go_sem]) rfl ?_
    refine ⟨_, _, by rw [H14.out.2.2], ?_, bup H13.out.2.1 H14.out.2.1⟩
    rw [H14.out.2.2];exact own_mono H14.out.1 H13.out.2.1.size
theorem i64s_one (l : List Int) : ∀ u ∈ i64s l, u.oneCell' = true := by
 intro u hu;obtain ⟨z, _, rfl⟩ := List.mem_map.1 hu;rfl
theorem SFork_any (sb rb : Nat) (ps : List Int) (w : World) (h : Ps sb rb ps w) :
 Calls Tryz.prog 145 #[.pointer (some ⟨sb, 0, none⟩)] w fun e w' => ∃ k, e = .returned (.pointer (some ⟨k, 0, none⟩)) ∧ Below w.heap.size w w' := by
 obtain ⟨i0, hi0, hz0, hz1, hz2⟩ := info_parts infoint;have c0 := h.s.one;have hn := h.n;have hr : Rd w 1 (some ⟨rb, 0, none⟩) ps.length (i64s ps) := ⟨by simp [i64s], fun _ => ⟨_, rfl, fun j u hu => by rw [add_none, Nat.zero_add, h.r.cell j, ← Array.getElem?_toList]; exact hu⟩⟩
 obtain ⟨n, hnn⟩ : ∃ x, ps.length = x := ⟨_, rfl⟩;rw [hnn] at c0 hn hr;have HR := Lib.hid hr;clear h hr hnn;go_enter Tryz.func145, Tryz.ntmps145;go_wp2_with (at_builtin; refine wpList_append_rd (w := w) rfl (.const (.slice none 0 0)) (.tmp 6) 48 rfl w.heap.size 3 i0 _ 1 8 Tryz.underlying48 hi0 hz0 hz1 hz2 rfl (by decide) (.slice none 0 0) 0 [] rfl (World.ownsRow_nil _ _ _ _) (some ⟨rb, 0, none⟩) n n (i64s ps) rfl HR.out (i64s_one ps) (by simp only [maxLen]; omega) (by omega) (Nat.le_refl _) ?_; intro a1 c1 w1 ho1 hg1 hat1; have hb1 : Below w.heap.size w w1 := (Below.refl _ w).grown hg1 (Nat.le_refl _) (fun g hg => by cases hg); have HB := Lib.hid hb1; clear ho1 hg1 hat1 hb1)
 go_wp2_with fail;go_ret;exact ⟨_, rfl, HB.out.alloc HB.out.size _⟩
theorem LFork_any (s0 s1 s2 s3 r0 r1 r2 r3 : Nat) (p0 p1 p2 p3 : List Int) (w : World) (h0 : Ps s0 r0 p0 w) (h1 : Ps s1 r1 p1 w) (h2 : Ps s2 r2 p2 w) (h3 : Ps s3 r3 p3 w) :
 Calls Tryz.prog 146 #[.agg #[.pointer (some ⟨s0, 0, none⟩), .pointer (some ⟨s1, 0, none⟩), .pointer (some ⟨s2, 0, none⟩), .pointer (some ⟨s3, 0, none⟩)]] w fun e w' => ∃ k0 k1 k2 k3, e = .returned (.agg #[.pointer (some ⟨k0, 0, none⟩), .pointer (some ⟨k1, 0, none⟩), .pointer (some ⟨k2, 0, none⟩), .pointer (some ⟨k3, 0, none⟩)]) ∧ Below w.heap.size w w' := by
 have H0 := Lib.hid (fun W (hb : Below w.heap.size w W) => SFork_any s0 r0 p0 W (h0.below hb))
 have H1 := Lib.hid (fun W (hb : Below w.heap.size w W) => SFork_any s1 r1 p1 W (h1.below hb))
 have H2 := Lib.hid (fun W (hb : Below w.heap.size w W) => SFork_any s2 r2 p2 W (h2.below hb))
 have H3 := Lib.hid (fun W (hb : Below w.heap.size w W) => SFork_any s3 r3 p3 W (h3.below hb))
 clear h0 h1 h2 h3;obtain ⟨g, hg⟩ : ∃ x, w.heap.size = x := ⟨_, rfl⟩;obtain ⟨w1, hw1⟩ : ∃ x, (w.alloc (.cells #[.pointer (some ⟨s0, 0, none⟩), .pointer (some ⟨s1, 0, none⟩), .pointer (some ⟨s2, 0, none⟩), .pointer (some ⟨s3, 0, none⟩)] 251)).alloc (.cells #[.pointer none, .pointer none, .pointer none, .pointer none] 251) = x := ⟨_, rfl⟩;have hb1 : Below w.heap.size w w1 := by rw [← hw1]; exact ((Below.refl _ _).alloc (Nat.le_refl _) _).alloc (by simp) _
 have hk1 : Blk w1 g 251 #[.pointer (some ⟨s0, 0, none⟩), .pointer (some ⟨s1, 0, none⟩), .pointer (some ⟨s2, 0, none⟩), .pointer (some ⟨s3, 0, none⟩)] := by rw [← hw1]; exact (Blk.new_at hg.symm).alloc _
 have hk2 : Blk w1 (g + 1) 251 #[.pointer none, .pointer none, .pointer none, .pointer none] := by rw [← hw1]; exact Blk.new_at (by simp [hg])
 have HW := Lib.hid (And.intro hw1 (And.intro hg (And.intro hb1 (And.intro hk1 hk2))));clear hw1 hg hb1 hk1 hk2;go_enter Tryz.func146, Tryz.ntmps146;go_upto_region 1 with (fail);rw [HW.out.1, HW.out.2.1];obtain ⟨a0, a1, a2, a3⟩ := HW.out.2.2.2.1.drew.four
 go_region_held3 (fun w' => w'.cell? ⟨g, 0, none⟩ = some (.pointer (some ⟨s0, 0, none⟩)) ∧ w'.cell? ⟨g, 1, none⟩ = some (.pointer (some ⟨s1, 0, none⟩)) ∧ w'.cell? ⟨g, 2, none⟩ = some (.pointer (some ⟨s2, 0, none⟩)) ∧ w'.cell? ⟨g, 3, none⟩ = some (.pointer (some ⟨s3, 0, none⟩)))
  (first | (with_reducible exact ⟨a0, a1, a2, a3⟩) | (with_reducible exact ⟨b0, b1, b2, b3⟩) | (with_reducible exact ⟨c0, c1, c2, c3⟩) | (with_reducible exact ⟨d0, d1, d2, d3⟩) | (with_reducible exact ⟨e0, e1, e2, e3⟩) | go_keep)
  (first | (go_at_call 145; with_reducible refine (H0.out w1.drew HW.out.2.2.1.drew).mono ?_; rintro e w2 ⟨k0, rfl, hb2⟩; have HB2 := Lib.hid (bup HW.out.2.2.1.drew hb2); obtain ⟨b0, b1, b2, b3⟩ := (HW.out.2.2.2.1.drew.below hb2).four; have HK2 := Lib.hid (HW.out.2.2.2.2.drew.below hb2); have HF2 := Lib.hid (HW.out.2.2.2.1.drew.below hb2); clear hb2) | (go_at_call 145; with_reducible refine (H1.out w2 HB2.out).mono ?_; rintro e w3 ⟨k1, rfl, hb3⟩; have HB3 := Lib.hid (bup HB2.out hb3); obtain ⟨c0, c1, c2, c3⟩ := (HF2.out.below hb3).four; have HK3 := Lib.hid (HK2.out.below hb3); have HF3 := Lib.hid (HF2.out.below hb3); clear hb3) | (go_at_call 145; with_reducible refine (H2.out w3 HB3.out).mono ?_; rintro e w4 ⟨k2, rfl, hb4⟩; have HB4 := Lib.hid (bup HB3.out hb4); obtain ⟨d0, d1, d2, d3⟩ := (HF3.out.below hb4).four; have HK4 := Lib.hid (HK3.out.below hb4); have HF4 := Lib.hid (HF3.out.below hb4); clear hb4) | (go_at_call 145; with_reducible refine (H3.out w4 HB4.out).mono ?_; rintro e w5 ⟨k3, rfl, hb5⟩; have HB5 := Lib.hid (bup HB4.out hb5); obtain ⟨e0, e1, e2, e3⟩ := (HF4.out.below hb5).four; have HK5 := Lib.hid (HK4.out.below hb5); obtain ⟨x0, x1, x2, x3⟩ := HK5.out.four; have y0 := HK5.out.frozen 0; have y1 := HK5.out.frozen 1; have y2 := HK5.out.frozen 2; have y3 := HK5.out.frozen 3; have ng : ¬ g = g + 1 := (by omega); have ng2 : ¬ g + 1 = g := (by omega); clear hb5))
 go_wp2_with fail;have hk6 := (((HK5.out.set_ 0 (.pointer (some ⟨k0, 0, none⟩))).set_ 1 (.pointer (some ⟨k1, 0, none⟩))).set_ 2 (.pointer (some ⟨k2, 0, none⟩))).set_ 3 (.pointer (some ⟨k3, 0, none⟩));have hgw : w.heap.size ≤ g + 1 := by have := HW.out.2.1; omega
 have hb6 := (((HB5.out.setCell (p := ⟨g + 1, 0, none⟩) hgw (.pointer (some ⟨k0, 0, none⟩))).setCell (p := ⟨g + 1, 1, none⟩) hgw (.pointer (some ⟨k1, 0, none⟩))).setCell (p := ⟨g + 1, 2, none⟩) hgw (.pointer (some ⟨k2, 0, none⟩))).setCell (p := ⟨g + 1, 3, none⟩) hgw (.pointer (some ⟨k3, 0, none⟩));obtain ⟨w9, hw9⟩ : ∃ x, (((w5.setCell ⟨g + 1, 0, none⟩ (.pointer (some ⟨k0, 0, none⟩))).setCell ⟨g + 1, 1, none⟩ (.pointer (some ⟨k1, 0, none⟩))).setCell ⟨g + 1, 2, none⟩ (.pointer (some ⟨k2, 0, none⟩))).setCell ⟨g + 1, 3, none⟩ (.pointer (some ⟨k3, 0, none⟩)) = x := ⟨_, rfl⟩
 rw [hw9] at hk6 hb6 ⊢;have q0 := hk6.cell 0;have q1 := hk6.cell 1;have q2 := hk6.cell 2;have q3 := hk6.cell 3;refine bodyPost_ret (v := .agg #[.pointer (some ⟨k0, 0, none⟩), .pointer (some ⟨k1, 0, none⟩), .pointer (some ⟨k2, 0, none⟩), .pointer (some ⟨k3, 0, none⟩)]) (by simp [results, Tryz.results146, go_sem, q0, q1, q2, q3]) rfl ?_
 exact ⟨k0, k1, k2, k3, rfl, hb6⟩
theorem RNew_any (w : World) : Calls Tryz.prog 101 #[] w fun e w' => e = .returned (.pointer (some ⟨w.heap.size, 0, none⟩)) ∧ Blk w' w.heap.size 256 #[.int .u64 0, .int .u32 4294967295, .int .u8 0, .int .i64 0, .slice none 0 0] ∧ Below w.heap.size w w' := by
 go_enter Tryz.func101, Tryz.ntmps101;go_wp2_with fail;go_ret;exact ⟨rfl, Blk.new _ _ _, (Below.refl _ _).alloc (Nat.le_refl _) _⟩
theorem mk8 (W : World) : (Instr.makeSlice 22 (.int .i64 0) (.int .i64 8)).run Tryz.prog W = .ok (.slice (some ⟨W.heap.size, 0, none⟩) 0 8) (W.alloc (.cells (madeCells (Value.int .u8 0).cells 8) 5)) := by kernel_rfl
theorem RFork_any (b : Nat) (w : World) (h : Blk w b 256 #[.int .u64 0, .int .u32 4294967295, .int .u8 0, .int .i64 0, .slice none 0 0]) :
 Calls Tryz.prog 123 #[.pointer (some ⟨b, 0, none⟩)] w fun e w' => e = .returned (.pointer (some ⟨w.heap.size, 0, none⟩)) ∧ Below w.heap.size w w' := by
 obtain ⟨g, hg⟩ : ∃ x, w.heap.size = x := ⟨_, rfl⟩;obtain ⟨w1, hw1⟩ : ∃ x, w.alloc (.cells #[.int .u64 0, .int .u32 4294967295, .int .u8 0, .int .i64 0, .slice none 0 0] 256) = x := ⟨_, rfl⟩;have c0 := h.cell 0;have c1 := h.cell 1;have c2 := h.cell 2;have c3 := h.cell 3;have c4 := h.cell 4;have hb1 : Below w.heap.size w w1 := by rw [← hw1]; exact (Below.refl _ _).alloc (Nat.le_refl _) _
 have HB := Lib.hid (And.intro (h.below hb1) (And.intro hb1 (And.intro hw1 hg)));have HG := Lib.hid (show Blk w1 g 256 #[.int .u64 0, .int .u32 4294967295, .int .u8 0, .int .i64 0, .slice none 0 0] by rw [← hw1]; exact Blk.new_at hg.symm)
 have HNe := Lib.hid h.lt;clear h hb1 hw1 hg;go_enter Tryz.func123, Tryz.ntmps123;go_upto_region 2 with (fail);rw [HB.out.2.2.1, HB.out.2.2.2];have d3 := HB.out.1.drew.cell 3;have d4 := HB.out.1.drew.cell 4;have g4 := HG.out.drew.cell 4;have f4 := HG.out.drew.frozen 4;have hne : ¬ b = g := by have := HB.out.2.2.2; have := HNe.out; omega
 have e4 : (w1.alloc (.cells (madeCells #[.int .u8 0] 8) 5)).cell? ⟨b, 4, none⟩ = some (.slice none 0 0) := (HB.out.1.alloc _).cell 4;have g5 : (w1.alloc (.cells (madeCells #[.int .u8 0] 8) 5)).cell? ⟨g, 4, none⟩ = some (.slice none 0 0) := (HG.out.alloc _).cell 4;have f5 : (w1.alloc (.cells (madeCells #[.int .u8 0] 8) 5)).frozen? ⟨g, 4, none⟩ = false := (HG.out.alloc _).frozen 4;have z0 : IntKind.i64.wrap 0 = 0 := rfl
 have z8 : IntKind.i64.wrap 8 = 8 := rfl;have hmk := mk8;have HFin := Lib.hid (show Below w.heap.size w ((w1.alloc (.cells (madeCells #[.int .u8 0] 8) 5)).setCell ⟨g, 4, none⟩ (.slice (some ⟨w1.heap.size, 0, none⟩) 0 8)).drew from ((HB.out.2.1.alloc HB.out.2.1.size _).setCell (p := ⟨g, 4, none⟩) (Nat.le_of_eq HB.out.2.2.2) _).drew)
 go_region_law (fail)
 all_goals
  go_wp2_with fail;go_ret;exact ⟨by rw [HB.out.2.2.2]; rfl, HFin.out⟩
end Go.Proofs.YtcjehjdehdoaeaaGreatDoor
