/-
  Laws on the way to the claim (OvC OvD OwA). Conditions: those that each theorem states.
-/
import Derived.Test.YtcjehjdehdoaeaaGreatDoorOm49
import Derived.Lib.SlBytesConst
import Derived.LaidMore
import Derived.LaidLaws
set_option linter.unusedVariables false
set_option linter.unusedSimpArgs false
set_option maxRecDepth 1000000
set_option maxHeartbeats 16000000
namespace Go.Proofs.YtcjehjdehdoaeaaGreatDoor
open Go.RowKit
structure LaidA (T Rr : Nat → Int) (E : Nat → Addr) (w : World) : Prop where
 s : LaidS T Rr w
 l : Laid w
 m : LaidM w
 e : LaidE E w
 b : LaidB w
theorem LaidA.below {T Rr : Nat → Int} {E : Nat → Addr} {w w' : World} (h : LaidA T Rr E w) (hb : Below w.heap.size w w') : LaidA T Rr E w' := ⟨h.s.below hb, h.l.low hb h.l.1, h.m.below hb, h.e.below hb, h.b.below hb⟩
theorem encA_any (T Rr : Nat → Int) (E : Nat → Addr) (w : World) (h : LaidA T Rr E w) :
 Calls Tryz.prog 8 #[.slice none 0 0, .agg #[.int .i64 4, .int .i64 0, .int .i64 3, .int .i64 0, .int .i64 2, .int .i64 4096, .int .i64 1, .int .i64 1]] w fun e w' => ∃ A ca, e = .returned (.tuple #[.slice A 32 ca, .nilIface]) ∧ w'.ownsRow w.heap.size 5 1 (.slice A 32 ca) 32 (bys wantA) ∧ Below w.heap.size w w' := by
 have := SEnc_any (fxS T Rr) T Rr rfl rfl cfA cfA_ok (fun _ => []) none 0 0 [] w (In.nil _) (Nat.le_refl _) (fun ad had => by cases had) (by decide) (fun _ => Nat.zero_le _) (fun A k ca x W _ _ _ _ h1 h2 => by omega) h.s h.b
 unfold SePost at this;rw [encA, fileA_is, show wantA.length = 32 from rfl] at this
 exact this
theorem encB_any (T Rr : Nat → Int) (E : Nat → Addr) (A : Option Addr) (ca : Nat) (w : World) (h : LaidA T Rr E w) (hI : In w A 3 [97, 98, 99]) (hc : 3 ≤ ca) (hA : ∀ ad, A = some ad → ad.block < w.heap.size) :
 Calls Tryz.prog 8 #[.slice A 3 ca, .agg #[.int .i64 0, .int .i64 0, .int .i64 3, .int .i64 0, .int .i64 2, .int .i64 4096, .int .i64 65536, .int .i64 0]] w fun e w' => ∃ A ca, e = .returned (.tuple #[.slice A 52 ca, .nilIface]) ∧ w'.ownsRow w.heap.size 5 1 (.slice A 52 ca) 52 (bys fileB) ∧ Below w.heap.size w w' := by
 have := SEnc_any (fxS T Rr) T Rr rfl rfl cfB cfB_ok (fun x => if x.length ≤ 65536 then rawR x else []) A 3 ca [97, 98, 99] w hI hc hA (by decide) (fun x => by
  split
  · rename_i hx; unfold rawR; simp [beN]; omega
  · exact Nat.zero_le _) (fun A k ca x W hb hi hc hA h1 h2 => by
  have hk := hi.len;rw [if_pos (by omega)]
  exact cEnc_0 cfB cfB_ok rfl A k ca (rawR x) W (fun W2 hb2 => Enc_raw cfB cfB_ok rfl A k ca x W2 (hi.below hb2) hc (fun ad had => by have := hA ad had; have := hb.size; have := hb2.size; omega) h1 (by omega))) h.s h.b
 unfold SePost at this;rw [show encF (fxS T Rr) cfB (fun x => if x.length ≤ 65536 then rawR x else []) [97, 98, 99] = fileB by kernel_rfl, fileB_len] at this
 exact this
theorem own_cmax {w : World} {B : Nat} {e : TypeId} {size n c : Nat} {A : Option Addr} {xs : List Value} (h : w.ownsRow B e size (.slice A n c) n xs) : c ≤ 9223372036854775807 := by
 rcases h.2 with ⟨hv, _⟩ | ⟨g', cap', cur, hv, _, _, _, hcm, _⟩
 · injection hv with _ _ h3; omega
 · injection hv with _ _ h3; unfold maxLen at hcm; omega
theorem dec_own (T Rr : Nat → Int) (E : Nat → Addr) (B : Nat) (A : Option Addr) (m c : Nat) (l : List UInt8) (mem : Int) (w : World) (h : LaidA T Rr E w) (ho : w.ownsRow B 5 1 (.slice A m c) m (bys l)) (hm : m ≤ 1048576) :
 Calls Tryz.prog 12 #[.slice A m c, .int .i64 mem] w (SDecPost (fxS T Rr) E l mem w) :=
 SDec_any (fxS T Rr) T Rr rfl rfl rfl E A m c l mem w (in_own ho (by omega)) (own_le ho) (own_cmax ho) hm (fun ad had => (own_lt ho (own_addr ho had)).2) h.s h.l h.m h.e
theorem own_at0 {w : World} {B : Nat} {e : TypeId} {size n c : Nat} {A : Option Addr} {xs : List Value} (h : w.ownsRow B e size (.slice A n c) n xs) (h0 : 0 < n) : ∃ b, A = some ⟨b, 0, none⟩ := by
 rcases h.2 with ⟨hv, hn⟩ | ⟨g', cap', cur, hv, _⟩
 · injection hv with _ h2 _; omega
 · injection hv with h1; exact ⟨_, h1⟩
theorem in_new_ro {w : World} {r : List UInt8} {cs : Array Value} {ro : Nat × Nat} (hcs : cs = (bys r).toArray) (hn : r.length ≤ 140737488351232) : In (w.alloc (.cells cs 5 ro)) (some ⟨w.heap.size, 0, none⟩) r.length r := by
 subst hcs;refine ⟨⟨by rw [bys_length]; omega, fun _ => ⟨_, rfl, fun j u hu => ?_⟩⟩, fun _ ad had => by injection had with had; rw [← had]; simp, hn⟩
 have h0 : (w.alloc (.cells (bys r).toArray 5 ro)).heap[w.heap.size]? = some (.cells (bys r).toArray 5 ro) := heap_alloc_new w _;rw [show ((⟨w.heap.size, 0, none⟩ : Addr).add j) = ⟨w.heap.size, 0 + j, none⟩ by unfold Addr.add; split <;> simp_all]
 unfold World.cell?;simp only [h0];simpa using hu
theorem fixed_any (T Rr : Nat → Int) (E : Nat → Addr) (w : World) (h : LaidA T Rr E w) :
 Calls Tryz.prog 6 #[] w fun e w' => e = .returned (.bool true) ∧ Below w.heap.size w w' := by
 have H := Lib.hid h;have HA := Lib.hid (encA_any T Rr E w h);clear h;go_enter Tryz.func6, Tryz.ntmps6;go_wp2_with fail;refine HA.out.mono ?_;rintro e w1 ⟨A1, ca1, rfl, ho1, hb1⟩;have HB1 := Lib.hid hb1;have HC1 := Lib.hid (code_nil w1);have HO1 := Lib.hid ho1;clear ho1 hb1 HA;go_upto_region 3 with (fail);go_wp2_with fail;refine HC1.out.mono ?_;rintro e w2 ⟨rfl, hb2⟩;have hcv : (convert 22 9 (.slice A1 32 ca1)).run Tryz.prog w2 = .ok (.string (strOf wantA)) w2 := conv_rd (Rd.of_own (own_below HO1.out hb2))
 have HB2 := Lib.hid (bup HB1.out hb2);clear hb2 HC1 HO1;have hw : ((strOf wantA).toList == [253, 55, 122, 88, 90, 0, 0, 4, 230, 214, 180, 70, 0, 0, 0, 0, 28, 223, 68, 33, 31, 182, 243, 125, 1, 0, 0, 0, 0, 4, 89, 90]) = true := by rw [ByteArray.toList_eq, strOf_data]; decide
 have hid := Lib.run_convert_bytes_const (P := Tryz.prog) w2 22 5 #[.int .u8 97, .int .u8 98, .int .u8 99] 3 3 rfl rfl;obtain ⟨w3, hw3⟩ : ∃ x, w2.alloc (.cells #[.int .u8 97, .int .u8 98, .int .u8 99] 5 (3, 4)) = x := ⟨_, rfl⟩;have hb3 : Below w2.heap.size w2 w3 := by rw [← hw3]; exact (Below.refl _ _).alloc (Nat.le_refl _) _
 have HB3 := Lib.hid (bup HB2.out hb3);have HE := Lib.hid (encB_any T Rr E (some ⟨w2.heap.size, 0, none⟩) 3 w3 (H.out.below HB3.out) (by rw [← hw3]; exact in_new_ro (w := w2) (r := [97, 98, 99]) rfl (by simp)) (by decide) (fun ad had => by injection had with had; rw [← had, ← hw3]; simp))
 have HW3 := Lib.hid hw3;clear hw3 hb3;go_wp2_with fail;rw [HW3.out];refine HE.out.mono ?_;rintro e w4 ⟨A4, ca4, rfl, ho4, hb4⟩;obtain ⟨b4, rfl⟩ := own_at0 ho4 (by decide)
 have hcap := own_le ho4;have HB4 := Lib.hid (bup HB3.out hb4);have HO4 := Lib.hid ho4;have HC4 := Lib.hid (code_nil w4);clear ho4 hb4 HE hw hcv;go_wp2_with fail;refine HC4.out.mono ?_;rintro e w5 ⟨rfl, hb5⟩;have ho5 := own_below HO4.out hb5;have hi5 := ((in_own ho5 (by decide)).cut (k := 24) (by decide) hcap).take (k := 7) (by decide)
 rw [if_neg (by omega), Option.map_some, add_none, fileB_mid] at hi5
 have hcv : (convert 22 9 (.slice (some ⟨b4, 0 + 24, none⟩) 7 (ca4 - 24))).run Tryz.prog w5 = .ok (.string (strOf [1, 0, 2, 97, 98, 99, 0])) w5 := conv_rd hi5.1;have hw : ((strOf [1, 0, 2, 97, 98, 99, 0]).toList == [1, 0, 2, 97, 98, 99, 0]) = true := by rw [ByteArray.toList_eq, strOf_data]; decide
 have HO5 := Lib.hid ho5;have HB5 := Lib.hid (bup HB4.out hb5);have q1 : (31 : Int) ≤ (ca4 : Int) := by omega
 have q2 : ¬ (ca4 = 24) := by omega
 clear hi5 ho5 hb5 HC4;have HD1 := Lib.hid (dec_own T Rr E _ _ 52 ca4 fileB 4096 w5 (H.out.below HB5.out) HO5.out (by decide))
 go_wp2_with fail;refine HD1.out.mono ?_;rintro e w6 ⟨hb6, he6⟩;rw [decB1 T Rr, if_pos rfl] at he6;obtain ⟨D, dc, rfl, ho6⟩ := he6;have HO6 := Lib.hid ho6;have HB6 := Lib.hid (bup HB5.out hb6);have HD2 := Lib.hid (dec_own T Rr E _ _ 52 ca4 fileB 4095 w6 (H.out.below HB6.out) (own_below HO5.out hb6) (by decide))
 clear ho6 hb6 HD1;go_wp2_with fail;refine HD2.out.mono ?_;rintro e w7 ⟨hb7, he7⟩;rw [decB2 T Rr, if_neg (by decide)] at he7
 obtain ⟨v, rfl, F, off, rfl, hvb⟩ := he7;have hv : FV E 5 (.iface 80 (.pointer (some ⟨F, 0, none⟩))) w7 := ⟨F, off, rfl, hvb⟩;have HV := Lib.hid hv;have HB7 := Lib.hid (bup HB6.out hb7);have HO7 := Lib.hid (own_below HO6.out hb7);have HC7 := Lib.hid (code_nil w7);clear hv hb7 HD2;go_wp2_with fail;refine HC7.out.mono ?_;rintro e w8 ⟨rfl, hb8⟩;have hcv : (convert 22 9 (.slice D 3 dc)).run Tryz.prog w8 = .ok (.string (strOf [97, 98, 99])) w8 := conv_rd (Rd.of_own (own_below HO7.out hb8))
 have hw : ((strOf [97, 98, 99]).toList == [97, 98, 99]) = true := by rw [ByteArray.toList_eq, strOf_data]; decide
 have HC8 := Lib.hid (code_any E 5 F w8 (H.out.e.below (bup HB7.out hb8)) (HV.out.below hb8) (by decide) (by decide))
 have HB8 := Lib.hid (bup HB7.out hb8);clear hb8 hvb;go_wp2_with fail;refine HC8.out.mono ?_;rintro e w9 ⟨rfl, hb9⟩;have HB9 := Lib.hid (bup HB8.out hb9);clear hb9;go_wp2_with fail;go_ret;exact ⟨rfl, HB9.out⟩
structure Told (S : Sums) (E : Nat → Addr) (l : List UInt8) (mem : Int) (w : World) (D : Option Addr) (n : Nat) (v : Value) : Prop where
 len : n = (decF S l mem).data.length
 rd : ∀ W, Below w.heap.size w W → Rd W 1 D n (bys (decF S l mem).data)
 code : ∀ W, Below w.heap.size w W → LaidE E W → Calls Tryz.prog 11 #[v] W fun e w' => e = .returned (.int .i64 (decF S l mem).e) ∧ Below W.heap.size W w'
theorem told_any (T Rr : Nat → Int) (E : Nat → Addr) (B : Nat) (A : Option Addr) (m c : Nat) (l : List UInt8) (mem : Int) (w : World) (h : LaidA T Rr E w) (ho : w.ownsRow B 5 1 (.slice A m c) m (bys l)) (hm : m ≤ 1048576) :
 Calls Tryz.prog 12 #[.slice A m c, .int .i64 mem] w fun e w' => ∃ D n dc v, e = .returned (.tuple #[.slice D n dc, v]) ∧ Below w.heap.size w w' ∧ Told (fxS T Rr) E l mem w' D n v := by
 refine (dec_own T Rr E B A m c l mem w h ho hm).mono ?_;rintro e w' ⟨hb, he⟩;have hr := decF_err (fxS T Rr) l mem;by_cases h0 : (decF (fxS T Rr) l mem).e = 0
 · rw [if_pos h0] at he;obtain ⟨D, dc, rfl, ho2⟩ := he;refine ⟨D, _, dc, _, rfl, hb, rfl, fun W hW => Rd.of_own (own_below ho2 hW), fun W hW hE => ?_⟩
   rw [h0];exact code_nil W
 · rw [if_neg h0] at he;obtain ⟨v, rfl, F, off, rfl, hv⟩ := he;refine ⟨none, 0, 0, _, rfl, hb, by rw [hr.2 h0]; rfl, fun W hW => by rw [hr.2 h0]; exact (In.nil _).1, fun W hW hE => ?_⟩
   exact code_any E _ F W hE (FV.below ⟨F, off, rfl, hv⟩ hW) (by omega) (by omega)
theorem Told.at_ {S : Sums} {E : Nat → Addr} {l : List UInt8} {mem : Int} {w : World} {D : Option Addr} {n : Nat} {v : Value} (h : Told S E l mem w D n v) (x : Int) (hx : ((decF S l mem).e : Int) = x) (W : World) (hb : Below w.heap.size w W) (hE : LaidE E W) :
 Calls Tryz.prog 11 #[v] W fun e w' => e = .returned (.int .i64 x) ∧ Below W.heap.size W w' := by
 subst hx;exact h.code W hb hE
theorem one_any (T Rr : Nat → Int) (E : Nat → Addr) (A : Option Addr) (m c : Nat) (l : List UInt8) (mem more cut : Int) (w : World) (h : LaidA T Rr E w) (hI : In w A m l) (hc : m ≤ c) (hm : m ≤ 1048576) :
 Calls Tryz.prog 4 #[.slice A m c, .agg #[.int .i64 mem, .int .i64 more, .int .i64 cut]] w fun e w' => e = .returned (.bool true) ∧ Below w.heap.size w w' := by
 have hlen := hI.len;have H := Lib.hid h;have HI := Lib.hid hI;clear h hI;go_enter Tryz.func4, Tryz.ntmps4;obtain ⟨w1, hw1⟩ : ∃ x, w.alloc (.cells #[.int .i64 mem, .int .i64 more, .int .i64 cut] 40) = x := ⟨_, rfl⟩;obtain ⟨g, hg⟩ : ∃ x, w.heap.size = x := ⟨_, rfl⟩;have hb1 : Below w.heap.size w w1 := by rw [← hw1]; exact (Below.refl _ _).alloc (Nat.le_refl _) _
 have hk1 : Blk w1 g 40 #[.int .i64 mem, .int .i64 more, .int .i64 cut] := by rw [← hw1]; exact Blk.new_at hg.symm
 have c0 : w1.cell? ⟨g, 0, none⟩ = some (.int .i64 mem) := hk1.cell 0;have c1 : w1.cell? ⟨g, 1, none⟩ = some (.int .i64 more) := hk1.cell 1;have c2 : w1.cell? ⟨g, 2, none⟩ = some (.int .i64 cut) := hk1.cell 2;have HW := Lib.hid (And.intro hw1 (And.intro hg hb1));clear hw1 hg hb1 hk1;go_upto_region 1 with (fail);rw [HW.out.1, HW.out.2.1];have d0 : w1.drew.cell? ⟨g, 0, none⟩ = some (.int .i64 mem) := c0
 have d1 : w1.drew.cell? ⟨g, 1, none⟩ = some (.int .i64 more) := c1;have d2 : w1.drew.cell? ⟨g, 2, none⟩ = some (.int .i64 cut) := c2
 go_region
 have HB1 := Lib.hid (show Below w.heap.size w w1.drew from HW.out.2.2.drew)
 obtain ⟨w2, hw2⟩ : ∃ x, w1.drew = x := ⟨_, rfl⟩;rw [hw2] at HB1;clear c0 c1 c2 d0 d1 d2;have HF := Lib.hid (fixed_any T Rr E w2 (H.out.below HB1.out));have HW2 := Lib.hid hw2;clear hw2;go_wp2_with fail;rw [HW2.out];refine HF.out.mono ?_;rintro e w3 ⟨rfl, hb3⟩;have HB3 := Lib.hid (bup HB1.out hb3);have HD := Lib.hid (dup_any A m c l w3 (HI.out.below HB3.out) hm);clear hb3 HF;go_wp2_with fail;refine HD.out.mono ?_
 rintro e w4 ⟨A4, c4, rfl, ho4, hb4⟩;have HB4 := Lib.hid (bup HB3.out hb4);have HT := Lib.hid (told_any T Rr E _ A4 m c4 l mem w4 (H.out.below HB4.out) ho4 hm);clear ho4 hb4 HD;go_wp2_with fail;refine HT.out.mono ?_;rintro e w5 ⟨D1, n1, dc1, v1, rfl, hb5, ht5⟩;have HT1 := Lib.hid ht5;have HB5 := Lib.hid (bup HB4.out hb5);have HR := Lib.hid (decF_err (fxS T Rr) l mem);have hM1 := decF_mem (fxS T Rr) l mem more
 have hM2 := decF_mem (fxS T Rr) l more mem;have hcases : ((decF (fxS T Rr) l mem).e = 0 ∧ mem ≤ more ∧ decF (fxS T Rr) l more = decF (fxS T Rr) l mem) ∨ ((decF (fxS T Rr) l mem).e = 0 ∧ more < mem ∧ (decF (fxS T Rr) l more).e = 5) ∨ ((decF (fxS T Rr) l mem).e = 0 ∧ more < mem ∧ decF (fxS T Rr) l more = decF (fxS T Rr) l mem) ∨ ((decF (fxS T Rr) l mem).e ≠ 0 ∧ mem ≤ more) ∨ ((decF (fxS T Rr) l mem).e = 5 ∧ more < mem ∧ (decF (fxS T Rr) l more).e = 5) ∨ (((decF (fxS T Rr) l mem).e ≠ 0 ∧ (decF (fxS T Rr) l mem).e ≠ 5) ∧ more < mem ∧ (decF (fxS T Rr) l more).e = 5) ∨ ((decF (fxS T Rr) l mem).e ≠ 0 ∧ more < mem ∧ decF (fxS T Rr) l more = decF (fxS T Rr) l mem) := by
  rcases (by omega : more < mem ∨ mem ≤ more) with hm1 | hm1
  · rcases hM2 (by omega) with h5 | h5
    · by_cases h0 : (decF (fxS T Rr) l mem).e = 0
      · exact .inr (.inl ⟨h0, hm1, h5⟩)
      · by_cases h6 : (decF (fxS T Rr) l mem).e = 5
        · exact .inr (.inr (.inr (.inr (.inl ⟨h6, hm1, h5⟩))))
        · exact .inr (.inr (.inr (.inr (.inr (.inl ⟨⟨h0, h6⟩, hm1, h5⟩)))))
    · by_cases h0 : (decF (fxS T Rr) l mem).e = 0
      · exact .inr (.inr (.inl ⟨h0, hm1, h5⟩))
      · exact .inr (.inr (.inr (.inr (.inr (.inr ⟨h0, hm1, h5⟩)))))
  · by_cases h0 : (decF (fxS T Rr) l mem).e = 0
    · rcases hM1 hm1 with h5 | h5
      · omega
      · exact .inl ⟨h0, hm1, h5.symm⟩
    · exact .inr (.inr (.inr (.inl ⟨h0, hm1⟩)))
 clear hb5 ht5 hM1 hM2 HT;rcases hcases with ⟨e1, q1, e2⟩ | ⟨e1, q1, e2⟩ | ⟨e1, q1, e2⟩ | ⟨e1, q1⟩ | ⟨e1, q1, e2⟩ | ⟨⟨e1, e3⟩, q1, e2⟩ | ⟨e1, q1, e2⟩
 ·
  have q2 : ¬ (more < mem) := by omega
  have hx1 : ((decF (fxS T Rr) l mem).e : Int) = 0 := by rw [e1]; rfl
  have HC := Lib.hid (HT1.out.at_ 0 hx1 w5 (Below.refl _ _) (H.out.below HB5.out).e);go_wp2_with fail;refine HC.out.mono ?_;rintro e w6 ⟨rfl, hb6⟩;have HB6 := Lib.hid (bup HB5.out hb6);have HA6 := Lib.hid hb6;clear HC hb6;have HD := Lib.hid (dup_any A m c l w6 (HI.out.below HB6.out) hm);go_wp2_with fail;refine HD.out.mono ?_;rintro e w7 ⟨A7, c7, rfl, ho7, hb7⟩;have HB7 := Lib.hid (bup HB6.out hb7)
  have HA7 := Lib.hid (bup HA6.out hb7);have HT := Lib.hid (told_any T Rr E _ A7 m c7 l more w7 (H.out.below HB7.out) ho7 hm);clear ho7 hb7 HD;go_wp2_with fail;refine HT.out.mono ?_;rintro e w8 ⟨D2, n2, dc2, v2, rfl, hb8, ht8⟩;have HT2 := Lib.hid ht8;have HB8 := Lib.hid (bup HB7.out hb8);have HA8 := Lib.hid (bup HA7.out hb8);clear hb8 ht8 HT;have HC := Lib.hid (HT2.out.at_ 0 (by rw [e2]; exact hx1) w8 (Below.refl _ _) (H.out.below HB8.out).e)
  go_wp2_with fail;refine HC.out.mono ?_;rintro e w9 ⟨rfl, hb9⟩;have HB9 := Lib.hid (bup HB8.out hb9);have HL9 := Lib.hid hb9;have HA9 := Lib.hid (bup HA8.out hb9);clear HC hb9;have HS := Lib.hid (same_any D1 D2 n1 dc1 n2 dc2 _ _ w9 (HT1.out.rd w9 HA9.out) (HT2.out.rd w9 HL9.out));rw [e2, show decide ((decF (fxS T Rr) l mem).data = (decF (fxS T Rr) l mem).data) = true by simp] at HS
  go_wp2_with fail;refine HS.out.mono ?_;rintro e ws ⟨rfl, hws⟩;rw [hws];clear HS hws ws;rcases (by omega : cut < 0 ∨ 0 ≤ cut) with t1 | t1
  · go_wp2_with fail;go_ret;exact ⟨rfl, HB9.out⟩
  obtain ⟨j, rfl⟩ := Int.eq_ofNat_of_zero_le t1;have t2 : ¬ ((j : Int) < 0) := by omega
  rcases (by omega : (j : Int) < (m : Int) ∨ (m : Int) ≤ (j : Int)) with t3 | t3
  case inr =>
   go_wp2_with fail;go_ret;exact ⟨rfl, HB9.out⟩
  have t4 : ¬ ((m : Int) ≤ (j : Int)) := by omega
  have t5 : (j : Int) ≤ (c : Int) := by omega
  have hjm : j < m := by omega
  have HD := Lib.hid (dup_any A j c (l.take j) w9 ((HI.out.below HB9.out).take (k := j) (by omega)) (by omega))
  go_wp2_with fail;refine HD.out.mono ?_;rintro e wa ⟨Aa, ca, rfl, hoa, hba⟩;have HBa := Lib.hid (bup HB9.out hba);have HT := Lib.hid (told_any T Rr E _ Aa j ca (l.take j) mem wa (H.out.below HBa.out) hoa (by omega))
  clear hoa hba HD;go_wp2_with fail;refine HT.out.mono ?_;rintro e wb ⟨D3, n3, dc3, v3, rfl, hbb, htb⟩;have hcut := decF_take (fxS T Rr) l mem j e1 (by omega)
  have hn3 : n3 = 0 := by rw [htb.len, hcut.2]; rfl
  subst hn3;have HBb := Lib.hid (bup HBa.out hbb);have HC := Lib.hid (htb.at_ 1 (by rw [hcut.1]; rfl) wb (Below.refl _ _) (H.out.below HBb.out).e)
  clear hbb htb HT;go_wp2_with fail;refine HC.out.mono ?_;rintro e wc ⟨rfl, hbc⟩;have HBc := Lib.hid (bup HBb.out hbc);clear hbc;go_wp2_with fail;go_ret;exact ⟨rfl, HBc.out⟩
 ·
  have q2 : ¬ (mem ≤ more) := by omega
  have hx1 : ((decF (fxS T Rr) l mem).e : Int) = 0 := by rw [e1]; rfl
  have HC := Lib.hid (HT1.out.at_ 0 hx1 w5 (Below.refl _ _) (H.out.below HB5.out).e);go_wp2_with fail;refine HC.out.mono ?_;rintro e w6 ⟨rfl, hb6⟩;have HB6 := Lib.hid (bup HB5.out hb6);have HA6 := Lib.hid hb6;clear HC hb6;have HD := Lib.hid (dup_any A m c l w6 (HI.out.below HB6.out) hm);go_wp2_with fail;refine HD.out.mono ?_;rintro e w7 ⟨A7, c7, rfl, ho7, hb7⟩;have HB7 := Lib.hid (bup HB6.out hb7)
  have HA7 := Lib.hid (bup HA6.out hb7);have HT := Lib.hid (told_any T Rr E _ A7 m c7 l more w7 (H.out.below HB7.out) ho7 hm);clear ho7 hb7 HD;go_wp2_with fail;refine HT.out.mono ?_;rintro e w8 ⟨D2, n2, dc2, v2, rfl, hb8, ht8⟩;have HT2 := Lib.hid ht8;have HB8 := Lib.hid (bup HB7.out hb8);have HA8 := Lib.hid (bup HA7.out hb8);clear hb8 ht8 HT;have HC := Lib.hid (HT2.out.at_ 5 (by rw [e2]; rfl) w8 (Below.refl _ _) (H.out.below HB8.out).e)
  go_wp2_with fail;refine HC.out.mono ?_;rintro e w9 ⟨rfl, hb9⟩;have HB9 := Lib.hid (bup HB8.out hb9);have HL9 := Lib.hid hb9;have HA9 := Lib.hid (bup HA8.out hb9);clear HC hb9;have HC := Lib.hid (HT2.out.at_ 5 (by rw [e2]; rfl) w9 HL9.out (H.out.below HB9.out).e)
  go_wp2_with fail;refine HC.out.mono ?_;rintro e w10 ⟨rfl, hb10⟩;have HB10 := Lib.hid (bup HB9.out hb10);have HL10 := Lib.hid (bup HL9.out hb10);have HA10 := Lib.hid (bup HA9.out hb10);clear HC hb10;have HC := Lib.hid (HT2.out.at_ 5 (by rw [e2]; rfl) w10 HL10.out (H.out.below HB10.out).e)
  go_wp2_with fail;refine HC.out.mono ?_;rintro e w11 ⟨rfl, hb11⟩;have HB11 := Lib.hid (bup HB10.out hb11);have HL11 := Lib.hid (bup HL10.out hb11);have HA11 := Lib.hid (bup HA10.out hb11);clear HC hb11;rcases (by omega : cut < 0 ∨ 0 ≤ cut) with t1 | t1
  · go_wp2_with fail;go_ret;exact ⟨rfl, HB11.out⟩
  obtain ⟨j, rfl⟩ := Int.eq_ofNat_of_zero_le t1;have t2 : ¬ ((j : Int) < 0) := by omega
  rcases (by omega : (j : Int) < (m : Int) ∨ (m : Int) ≤ (j : Int)) with t3 | t3
  case inr =>
   go_wp2_with fail;go_ret;exact ⟨rfl, HB11.out⟩
  have t4 : ¬ ((m : Int) ≤ (j : Int)) := by omega
  have t5 : (j : Int) ≤ (c : Int) := by omega
  have hjm : j < m := by omega
  have HD := Lib.hid (dup_any A j c (l.take j) w11 ((HI.out.below HB11.out).take (k := j) (by omega)) (by omega))
  go_wp2_with fail;refine HD.out.mono ?_;rintro e wa ⟨Aa, ca, rfl, hoa, hba⟩;have HBa := Lib.hid (bup HB11.out hba);have HT := Lib.hid (told_any T Rr E _ Aa j ca (l.take j) mem wa (H.out.below HBa.out) hoa (by omega))
  clear hoa hba HD;go_wp2_with fail;refine HT.out.mono ?_;rintro e wb ⟨D3, n3, dc3, v3, rfl, hbb, htb⟩;have hcut := decF_take (fxS T Rr) l mem j e1 (by omega)
  have hn3 : n3 = 0 := by rw [htb.len, hcut.2]; rfl
  subst hn3;have HBb := Lib.hid (bup HBa.out hbb);have HC := Lib.hid (htb.at_ 1 (by rw [hcut.1]; rfl) wb (Below.refl _ _) (H.out.below HBb.out).e)
  clear hbb htb HT;go_wp2_with fail;refine HC.out.mono ?_;rintro e wc ⟨rfl, hbc⟩;have HBc := Lib.hid (bup HBb.out hbc);clear hbc;go_wp2_with fail;go_ret;exact ⟨rfl, HBc.out⟩
 ·
  have q2 : ¬ (mem ≤ more) := by omega
  have hx1 : ((decF (fxS T Rr) l mem).e : Int) = 0 := by rw [e1]; rfl
  have HC := Lib.hid (HT1.out.at_ 0 hx1 w5 (Below.refl _ _) (H.out.below HB5.out).e);go_wp2_with fail;refine HC.out.mono ?_;rintro e w6 ⟨rfl, hb6⟩;have HB6 := Lib.hid (bup HB5.out hb6);have HA6 := Lib.hid hb6;clear HC hb6;have HD := Lib.hid (dup_any A m c l w6 (HI.out.below HB6.out) hm);go_wp2_with fail;refine HD.out.mono ?_;rintro e w7 ⟨A7, c7, rfl, ho7, hb7⟩;have HB7 := Lib.hid (bup HB6.out hb7)
  have HA7 := Lib.hid (bup HA6.out hb7);have HT := Lib.hid (told_any T Rr E _ A7 m c7 l more w7 (H.out.below HB7.out) ho7 hm);clear ho7 hb7 HD;go_wp2_with fail;refine HT.out.mono ?_;rintro e w8 ⟨D2, n2, dc2, v2, rfl, hb8, ht8⟩;have HT2 := Lib.hid ht8;have HB8 := Lib.hid (bup HB7.out hb8);have HA8 := Lib.hid (bup HA7.out hb8);clear hb8 ht8 HT;have HC := Lib.hid (HT2.out.at_ 0 (by rw [e2]; exact hx1) w8 (Below.refl _ _) (H.out.below HB8.out).e)
  go_wp2_with fail;refine HC.out.mono ?_;rintro e w9 ⟨rfl, hb9⟩;have HB9 := Lib.hid (bup HB8.out hb9);have HL9 := Lib.hid hb9;have HA9 := Lib.hid (bup HA8.out hb9);clear HC hb9;have HC := Lib.hid (HT2.out.at_ 0 (by rw [e2]; exact hx1) w9 HL9.out (H.out.below HB9.out).e)
  go_wp2_with fail;refine HC.out.mono ?_;rintro e w10 ⟨rfl, hb10⟩;have HB10 := Lib.hid (bup HB9.out hb10);have HL10 := Lib.hid (bup HL9.out hb10);have HA10 := Lib.hid (bup HA9.out hb10);clear HC hb10;have HS := Lib.hid (same_any D1 D2 n1 dc1 n2 dc2 _ _ w10 (HT1.out.rd w10 HA10.out) (HT2.out.rd w10 HL10.out));rw [e2, show decide ((decF (fxS T Rr) l mem).data = (decF (fxS T Rr) l mem).data) = true by simp] at HS
  go_wp2_with fail;refine HS.out.mono ?_;rintro e ws ⟨rfl, hws⟩;rw [hws];clear HS hws ws;rcases (by omega : cut < 0 ∨ 0 ≤ cut) with t1 | t1
  · go_wp2_with fail;go_ret;exact ⟨rfl, HB10.out⟩
  obtain ⟨j, rfl⟩ := Int.eq_ofNat_of_zero_le t1;have t2 : ¬ ((j : Int) < 0) := by omega
  rcases (by omega : (j : Int) < (m : Int) ∨ (m : Int) ≤ (j : Int)) with t3 | t3
  case inr =>
   go_wp2_with fail;go_ret;exact ⟨rfl, HB10.out⟩
  have t4 : ¬ ((m : Int) ≤ (j : Int)) := by omega
  have t5 : (j : Int) ≤ (c : Int) := by omega
  have hjm : j < m := by omega
  have HD := Lib.hid (dup_any A j c (l.take j) w10 ((HI.out.below HB10.out).take (k := j) (by omega)) (by omega))
  go_wp2_with fail;refine HD.out.mono ?_;rintro e wa ⟨Aa, ca, rfl, hoa, hba⟩;have HBa := Lib.hid (bup HB10.out hba);have HT := Lib.hid (told_any T Rr E _ Aa j ca (l.take j) mem wa (H.out.below HBa.out) hoa (by omega))
  clear hoa hba HD;go_wp2_with fail;refine HT.out.mono ?_;rintro e wb ⟨D3, n3, dc3, v3, rfl, hbb, htb⟩;have hcut := decF_take (fxS T Rr) l mem j e1 (by omega)
  have hn3 : n3 = 0 := by rw [htb.len, hcut.2]; rfl
  subst hn3;have HBb := Lib.hid (bup HBa.out hbb);have HC := Lib.hid (htb.at_ 1 (by rw [hcut.1]; rfl) wb (Below.refl _ _) (H.out.below HBb.out).e)
  clear hbb htb HT;go_wp2_with fail;refine HC.out.mono ?_;rintro e wc ⟨rfl, hbc⟩;have HBc := Lib.hid (bup HBb.out hbc);clear hbc;go_wp2_with fail;go_ret;exact ⟨rfl, HBc.out⟩
 ·
  have q2 : ¬ (more < mem) := by omega
  obtain ⟨x1, hx1⟩ : ∃ x : Int, ((decF (fxS T Rr) l mem).e : Int) = x := ⟨_, rfl⟩;have r1 : ¬ (x1 < 0) := by have := HR.out.1; omega
  have r2 : ¬ (5 < x1) := by have := HR.out.1; omega
  have r3 : ¬ (x1 = 0) := by omega
  have hn1 : n1 = 0 := by rw [HT1.out.len, HR.out.2 (by omega)]; rfl
  subst hn1;have HC := Lib.hid (HT1.out.at_ x1 hx1 w5 (Below.refl _ _) (H.out.below HB5.out).e);go_wp2_with fail;refine HC.out.mono ?_;rintro e w6 ⟨rfl, hb6⟩;have HB6 := Lib.hid (bup HB5.out hb6);have HA6 := Lib.hid hb6;clear HC hb6;have HD := Lib.hid (dup_any A m c l w6 (HI.out.below HB6.out) hm);go_wp2_with fail;refine HD.out.mono ?_;rintro e w7 ⟨A7, c7, rfl, ho7, hb7⟩;have HB7 := Lib.hid (bup HB6.out hb7)
  have HA7 := Lib.hid (bup HA6.out hb7);have HT := Lib.hid (told_any T Rr E _ A7 m c7 l more w7 (H.out.below HB7.out) ho7 hm);clear ho7 hb7 HD;go_wp2_with fail;refine HT.out.mono ?_;rintro e w8 ⟨D2, n2, dc2, v2, rfl, hb8, ht8⟩;have HT2 := Lib.hid ht8;have HB8 := Lib.hid (bup HB7.out hb8);have HA8 := Lib.hid (bup HA7.out hb8);clear hb8 ht8 HT;go_wp2_with fail;go_ret;exact ⟨rfl, HB8.out⟩
 ·
  have q2 : ¬ (mem ≤ more) := by omega
  obtain ⟨x1, hx1⟩ : ∃ x : Int, ((decF (fxS T Rr) l mem).e : Int) = x := ⟨_, rfl⟩;have r1 : ¬ (x1 < 0) := by have := HR.out.1; omega
  have r2 : ¬ (5 < x1) := by have := HR.out.1; omega
  have r3 : ¬ (x1 = 0) := by omega
  have hn1 : n1 = 0 := by rw [HT1.out.len, HR.out.2 (by omega)]; rfl
  obtain rfl : x1 = 5 := by omega
  subst hn1;have HC := Lib.hid (HT1.out.at_ 5 hx1 w5 (Below.refl _ _) (H.out.below HB5.out).e);go_wp2_with fail;refine HC.out.mono ?_;rintro e w6 ⟨rfl, hb6⟩;have HB6 := Lib.hid (bup HB5.out hb6);have HA6 := Lib.hid hb6;clear HC hb6;have HD := Lib.hid (dup_any A m c l w6 (HI.out.below HB6.out) hm);go_wp2_with fail;refine HD.out.mono ?_;rintro e w7 ⟨A7, c7, rfl, ho7, hb7⟩;have HB7 := Lib.hid (bup HB6.out hb7)
  have HA7 := Lib.hid (bup HA6.out hb7);have HT := Lib.hid (told_any T Rr E _ A7 m c7 l more w7 (H.out.below HB7.out) ho7 hm);clear ho7 hb7 HD;go_wp2_with fail;refine HT.out.mono ?_;rintro e w8 ⟨D2, n2, dc2, v2, rfl, hb8, ht8⟩;have HT2 := Lib.hid ht8;have HB8 := Lib.hid (bup HB7.out hb8);have HA8 := Lib.hid (bup HA7.out hb8);clear hb8 ht8 HT;have HC := Lib.hid (HT2.out.at_ 5 (by rw [e2]; rfl) w8 (Below.refl _ _) (H.out.below HB8.out).e)
  go_wp2_with fail;refine HC.out.mono ?_;rintro e w9 ⟨rfl, hb9⟩;have HB9 := Lib.hid (bup HB8.out hb9);have HL9 := Lib.hid hb9;have HA9 := Lib.hid (bup HA8.out hb9);clear HC hb9;have HC := Lib.hid (HT2.out.at_ 5 (by rw [e2]; rfl) w9 HL9.out (H.out.below HB9.out).e)
  go_wp2_with fail;refine HC.out.mono ?_;rintro e w10 ⟨rfl, hb10⟩;have HB10 := Lib.hid (bup HB9.out hb10);have HL10 := Lib.hid (bup HL9.out hb10);have HA10 := Lib.hid (bup HA9.out hb10);clear HC hb10;go_wp2_with fail;go_ret;exact ⟨rfl, HB10.out⟩
 ·
  have q2 : ¬ (mem ≤ more) := by omega
  obtain ⟨x1, hx1⟩ : ∃ x : Int, ((decF (fxS T Rr) l mem).e : Int) = x := ⟨_, rfl⟩;have r1 : ¬ (x1 < 0) := by have := HR.out.1; omega
  have r2 : ¬ (5 < x1) := by have := HR.out.1; omega
  have r3 : ¬ (x1 = 0) := by omega
  have hn1 : n1 = 0 := by rw [HT1.out.len, HR.out.2 (by omega)]; rfl
  have r4 : ¬ (x1 = 5) := by omega
  have r5 : ¬ ((5 : Int) = x1) := by omega
  subst hn1;have HC := Lib.hid (HT1.out.at_ x1 hx1 w5 (Below.refl _ _) (H.out.below HB5.out).e);go_wp2_with fail;refine HC.out.mono ?_;rintro e w6 ⟨rfl, hb6⟩;have HB6 := Lib.hid (bup HB5.out hb6);have HA6 := Lib.hid hb6;clear HC hb6;have HD := Lib.hid (dup_any A m c l w6 (HI.out.below HB6.out) hm);go_wp2_with fail;refine HD.out.mono ?_;rintro e w7 ⟨A7, c7, rfl, ho7, hb7⟩;have HB7 := Lib.hid (bup HB6.out hb7)
  have HA7 := Lib.hid (bup HA6.out hb7);have HT := Lib.hid (told_any T Rr E _ A7 m c7 l more w7 (H.out.below HB7.out) ho7 hm);clear ho7 hb7 HD;go_wp2_with fail;refine HT.out.mono ?_;rintro e w8 ⟨D2, n2, dc2, v2, rfl, hb8, ht8⟩;have HT2 := Lib.hid ht8;have HB8 := Lib.hid (bup HB7.out hb8);have HA8 := Lib.hid (bup HA7.out hb8);clear hb8 ht8 HT;have HC := Lib.hid (HT2.out.at_ 5 (by rw [e2]; rfl) w8 (Below.refl _ _) (H.out.below HB8.out).e)
  go_wp2_with fail;refine HC.out.mono ?_;rintro e w9 ⟨rfl, hb9⟩;have HB9 := Lib.hid (bup HB8.out hb9);have HL9 := Lib.hid hb9;have HA9 := Lib.hid (bup HA8.out hb9);clear HC hb9;have HC := Lib.hid (HT2.out.at_ 5 (by rw [e2]; rfl) w9 HL9.out (H.out.below HB9.out).e)
  go_wp2_with fail;refine HC.out.mono ?_;rintro e w10 ⟨rfl, hb10⟩;have HB10 := Lib.hid (bup HB9.out hb10);have HL10 := Lib.hid (bup HL9.out hb10);have HA10 := Lib.hid (bup HA9.out hb10);clear HC hb10;have HC := Lib.hid (HT2.out.at_ 5 (by rw [e2]; rfl) w10 HL10.out (H.out.below HB10.out).e)
  go_wp2_with fail;refine HC.out.mono ?_;rintro e w11 ⟨rfl, hb11⟩;have HB11 := Lib.hid (bup HB10.out hb11);have HL11 := Lib.hid (bup HL10.out hb11);have HA11 := Lib.hid (bup HA10.out hb11);clear HC hb11;go_wp2_with fail;go_ret;exact ⟨rfl, HB11.out⟩
 ·
  have q2 : ¬ (mem ≤ more) := by omega
  obtain ⟨x1, hx1⟩ : ∃ x : Int, ((decF (fxS T Rr) l mem).e : Int) = x := ⟨_, rfl⟩;have r1 : ¬ (x1 < 0) := by have := HR.out.1; omega
  have r2 : ¬ (5 < x1) := by have := HR.out.1; omega
  have r3 : ¬ (x1 = 0) := by omega
  have hn1 : n1 = 0 := by rw [HT1.out.len, HR.out.2 (by omega)]; rfl
  subst hn1;have HC := Lib.hid (HT1.out.at_ x1 hx1 w5 (Below.refl _ _) (H.out.below HB5.out).e);go_wp2_with fail;refine HC.out.mono ?_;rintro e w6 ⟨rfl, hb6⟩;have HB6 := Lib.hid (bup HB5.out hb6);have HA6 := Lib.hid hb6;clear HC hb6;have HD := Lib.hid (dup_any A m c l w6 (HI.out.below HB6.out) hm);go_wp2_with fail;refine HD.out.mono ?_;rintro e w7 ⟨A7, c7, rfl, ho7, hb7⟩;have HB7 := Lib.hid (bup HB6.out hb7)
  have HA7 := Lib.hid (bup HA6.out hb7);have HT := Lib.hid (told_any T Rr E _ A7 m c7 l more w7 (H.out.below HB7.out) ho7 hm);clear ho7 hb7 HD;go_wp2_with fail;refine HT.out.mono ?_;rintro e w8 ⟨D2, n2, dc2, v2, rfl, hb8, ht8⟩;have HT2 := Lib.hid ht8;have HB8 := Lib.hid (bup HB7.out hb8);have HA8 := Lib.hid (bup HA7.out hb8);clear hb8 ht8 HT;have HC := Lib.hid (HT2.out.at_ x1 (by rw [e2]; exact hx1) w8 (Below.refl _ _) (H.out.below HB8.out).e)
  go_wp2_with fail;refine HC.out.mono ?_;rintro e w9 ⟨rfl, hb9⟩;have HB9 := Lib.hid (bup HB8.out hb9);have HL9 := Lib.hid hb9;have HA9 := Lib.hid (bup HA8.out hb9);clear HC hb9;have HC := Lib.hid (HT2.out.at_ x1 (by rw [e2]; exact hx1) w9 HL9.out (H.out.below HB9.out).e)
  go_wp2_with fail;refine HC.out.mono ?_;rintro e w10 ⟨rfl, hb10⟩;have HB10 := Lib.hid (bup HB9.out hb10);have HL10 := Lib.hid (bup HL9.out hb10);have HA10 := Lib.hid (bup HA9.out hb10);clear HC hb10;go_wp2_with fail;go_ret;exact ⟨rfl, HB10.out⟩
end Go.Proofs.YtcjehjdehdoaeaaGreatDoor
namespace Go.Proofs.YtcjehjdehdoaeaaGreatDoor
open Go
def sentOf (nm : String) (l : List (String × List UInt8)) : List (String × DataW Unit) := l.map fun x => (x.1, .iface nm (.ptr (.agg [.lit (.string x.2)])))
theorem sentinels {P : Program} {W : World} {nm : String} {ti tp te ts : TypeId} {ms : Array (String × TypeId)} {f : Field}
 (hi : P.underlying ti = some (.interface ms)) (hrow : ∀ u, P.typeName? 3 u = some nm → u = tp) (hp : P.underlying tp = some (.pointer te)) (he : P.underlying te = some (.struct #[f])) (hft : f.type = ts) (hfo : f.offset = 0) (hs : P.underlying ts = some .string) (hc : P.cellsOf te = 1) (hcs : P.cellsOf ts = 1) :
 ∀ (l : List (String × List UInt8)) (ps : List MemPlace), (∀ x ∈ l, ∀ g, P.globalNamed x.1 = some g → (P.globals[g]?).map (·.type) = some ti) → DataW.LaidVars P W (sentOf nm l) ps → ps.Nodup →
 (∀ b off, MemPlace.cell b off ∈ ps → (∃ c t, W.heap[b]? = some (.cells c t (0, 0))) ∧ ∀ u v, W.cell? ⟨b, off, none⟩ = some (.iface u v) → Value.okWide P W .any 0 u v) →
 ∃ az : List Addr, az.length = l.length ∧ az.Nodup ∧ (∀ a ∈ az, MemPlace.cell a.block a.off ∈ ps) ∧ ∀ (i : Nat) (x : String × List UInt8) (a : Addr), l[i]? = some x → az[i]? = some a → W.var? P x.1 = some #[.iface tp (.pointer (some a))] ∧ ∃ c t, W.heap[a.block]? = some (.cells c t (0, 0)) := by
 intro l;induction l with
 | nil => exact fun ps _ _ _ _ => ⟨[], rfl, List.nodup_nil, (fun a ha => by cases ha), fun i x a h => by simp at h⟩
 | cons y r ih =>
  intro ps ht h hnd hr;obtain ⟨g, t, cs, fu, p, q, hg, ht0, hv, hd, hq, rfl⟩ := h;obtain rfl := Option.some.inj ((ht y (by simp) g hg).symm.trans ht0)
  obtain ⟨cl⟩ := cs;have ok : ∀ u v, cl = [.iface u v] → Value.okWide P W .any 0 u v := fun u v e => by
   subst e;exact (hr g 0 (by simp [MemPlace.row])).2 u v (by simpa using World.var?_cell hg hv 0)
  obtain ⟨a, s, rfl, _, _, _, rfl⟩ := errorString_of_trod hi hrow hp he hft hfo hs hc hcs hd ok;obtain ⟨az, h1, h2, h3, h4⟩ := ih q (fun x hx => ht x (by simp [hx])) hq (List.nodup_append.1 hnd).2.1 (fun b off hb => hr b off (by simp [hb]))
  refine ⟨a :: az, by simp [h1], List.nodup_cons.2 ⟨fun ha => ?_, h2⟩, ?_, ?_⟩
  · have := h3 a ha;rw [List.append_assoc] at hnd;have hn2 := (List.nodup_append.1 hnd).2.1;exact (List.nodup_append.1 hn2).2.2 _ (by simp [MemPlace.row]) _ this rfl
  · intro b hb;rcases List.mem_cons.1 hb with rfl | hb
    · simp [MemPlace.row]
    · simp [h3 b hb]
  · intro i x b hx hb;cases i with
    | zero =>
     obtain rfl : y = x := by simpa using hx
     obtain rfl : a = b := by simpa using hb
     exact ⟨hv, (hr a.block a.off (by simp [MemPlace.row])).1⟩
    | succ i => exact h4 i x b (by simpa using hx) (by simpa using hb)
end Go.Proofs.YtcjehjdehdoaeaaGreatDoor
