/-
  Laws on the way to the claim (OtB OtC). Conditions: those that each theorem states.
-/
import Derived.Test.YtcjehjdehdoaeaaGreatDoorOm37
set_option linter.unusedVariables false
set_option linter.unusedSimpArgs false
set_option maxRecDepth 1000000
set_option maxHeartbeats 16000000
namespace Go.Proofs.YtcjehjdehdoaeaaGreatDoor
open Go.RowKit
def FV (E : Nat → Addr) (k : Nat) (v : Value) (w : World) : Prop := ∃ (F : Nat) (off : Int), v = .iface 80 (.pointer (some ⟨F, 0, none⟩)) ∧ Blk w F 82 #[.int .i64 off, eV E k]
theorem FV.below {E : Nat → Addr} {k : Nat} {v : Value} {w w' : World} (h : FV E k v w) (hb : Below w.heap.size w w') : FV E k v w' := by
 obtain ⟨F, off, h1, h2⟩ := h;exact ⟨F, off, h1, h2.below hb⟩
theorem kd_cells {E : Nat → Addr} {K : Nat} {w : World} (h : Blk w K 79 (kdC E)) (j : Nat) (hj : j < 9) : w.cell? ⟨K, j * 2, none⟩ = some (eV E (j + 1)) ∧ w.cell? ⟨K, j * 2 + 1, none⟩ = some (.int .i64 ((j : Int) + 1)) := by
 obtain rfl | rfl | rfl | rfl | rfl | rfl | rfl | rfl | rfl : j = 0 ∨ j = 1 ∨ j = 2 ∨ j = 3 ∨ j = 4 ∨ j = 5 ∨ j = 6 ∨ j = 7 ∨ j = 8 := by omega
 all_goals exact ⟨h.cell _, h.cell _⟩
theorem fault_any (E : Nat → Addr) (off : Int) (k : Nat) (w : World) (h : LaidE E w) (h1 : 1 ≤ k) (h9 : k ≤ 9) :
 Calls Tryz.prog 18 #[.int .i64 off, .int .i64 k] w fun e w' => ∃ v, e = .returned v ∧ FV E k v w' ∧ Below w.heap.size w w' := by
 obtain ⟨K, hK⟩ : ∃ x, w.heap.size = x := ⟨_, rfl⟩;obtain ⟨w1, hw1⟩ : ∃ x, w.alloc (.cells (kdC E) 79) = x := ⟨_, rfl⟩;have hb1 : Below w.heap.size w w1 := by rw [← hw1]; exact (Below.refl _ _).alloc (Nat.le_refl _) _
 have hK1 : Blk w1 K 79 (kdC E) := by rw [← hw1]; exact Blk.new_at hK.symm
 have HKd := Lib.hid (kinds_any E w h);have H1 := Lib.hid (And.intro hb1 (And.intro hK1 (And.intro hK hw1)));have HKk := Lib.hid (And.intro h1 h9);clear h hb1 hK1 hK hw1;go_enter Tryz.func18, Tryz.ntmps18;go_wp2_with fail;refine HKd.out.mono ?_;rintro e wx ⟨rfl, hwx⟩;rw [hwx, H1.out.2.2.2, H1.out.2.2.1];clear hwx;go_wp2_with fail
 go_loopw [9] (fun s9 wr => ∃ j : Nat, s9 = .int .i64 (j : Int) ∧ j < k ∧ Hid (Below w1.heap.size w1 wr)) (fun s9 _ => k - (intOf s9).toNat)
 case atStart => exact ⟨0, rfl, by omega, Lib.hid (Below.refl _ _)⟩
 case round =>
  obtain ⟨j, rfl, hj, hb⟩ := hrel;have hj9 : (j : Int) < 9 := by omega
  have hj9' : j < 9 := by omega
  obtain ⟨c0, c1⟩ := kd_cells (H1.out.2.1.below hb.out) j hj9';obtain ⟨V, hV⟩ : ∃ x, wr.heap.size = x := ⟨_, rfl⟩;unfold eV at c0;obtain ⟨w2, hw2⟩ : ∃ x, wr.alloc (.cells #[.iface 407 (.pointer (some (E (j + 1)))), .int .i64 ((j : Int) + 1)] 79) = x := ⟨_, rfl⟩;have hb2 : Below wr.heap.size wr w2 := by rw [← hw2]; exact (Below.refl _ _).alloc (Nat.le_refl _) _
  have hV2 : Blk w2 V 79 #[eV E (j + 1), .int .i64 ((j : Int) + 1)] := by rw [← hw2]; exact Blk.new_at hV.symm
  have v0 : w2.cell? ⟨V, 0, none⟩ = some (.iface 407 (.pointer (some (E (j + 1))))) := hV2.cell 0;have v1 : w2.cell? ⟨V, 1, none⟩ = some (.int .i64 ((j : Int) + 1)) := hV2.cell 1;have HV := Lib.hid (And.intro hV hw2);have HB2 := Lib.hid (hb.out.trans (hb2.mono hb.out.size));clear hb2 hV2 hV hw2;go_upto_region 4 with (fail);rw [HV.out.1, HV.out.2];by_cases hjk : j + 1 = k
  · have g1 : ((j : Int) + 1 == (k : Int)) = true := beq_iff_eq.2 (by omega)
    have HJ := Lib.hid hjk;clear hjk;go_wp2_with fail;go_ret;refine ⟨_, rfl, ⟨w2.heap.size, off, rfl, ?_⟩, ?_⟩
    · rw [← HJ.out];exact Blk.new _ _ _
    · exact bmk_ (H1.out.1.trans (HB2.out.mono H1.out.1.size)) _
  · have g1 : ((j : Int) + 1 == (k : Int)) = false := beq_eq_false_iff_ne.2 (by omega)
    have hjk' : j + 1 < k := by omega
    clear hjk;go_wp2_with fail
    go_roundw
    case rel => exact ⟨j + 1, by go_num, by omega, HB2⟩
    case measure => simp [intOf]; omega
theorem Code_nil (w : World) : Calls Tryz.prog 23 #[.nilIface] w fun e w' => e = .returned (.int .i64 0) ∧ w' = w := by
 go_enter Tryz.func23, Tryz.ntmps23;go_wp2_with fail;go_ret;exact ⟨rfl, rfl⟩
theorem Code_any (E : Nat → Addr) (k : Nat) (v : Value) (w : World) (h : LaidE E w) (hv : FV E k v w) (h1 : 1 ≤ k) (h9 : k ≤ 9) :
 Calls Tryz.prog 23 #[v] w fun e w' => e = .returned (.int .i64 k) ∧ Below w.heap.size w w' := by
 obtain ⟨F, off, rfl, hF⟩ := hv;obtain ⟨K, hK⟩ : ∃ x, w.heap.size = x := ⟨_, rfl⟩;obtain ⟨w1, hw1⟩ : ∃ x, w.alloc (.cells (kdC E) 79) = x := ⟨_, rfl⟩;have hb1 : Below w.heap.size w w1 := by rw [← hw1]; exact (Below.refl _ _).alloc (Nat.le_refl _) _
 have hK1 : Blk w1 K 79 (kdC E) := by rw [← hw1]; exact Blk.new_at hK.symm
 have HKd := Lib.hid (kinds_any E w h);have H1 := Lib.hid (And.intro hb1 (And.intro hK1 (And.intro hK hw1)));have HE := Lib.hid (And.intro (h.below hb1) (hF.below hb1));have HKk := Lib.hid (And.intro h1 h9);have hnil : ∀ w : World, (binOp BinOp.eql 30 (.iface 80 (.pointer (some ⟨F, 0, none⟩))) .nilIface).run Tryz.prog w = .ok (.bool false) w := fun w => by simp [go_sem]
 clear h hb1 hK1 hK hw1 hF;go_enter Tryz.func23, Tryz.ntmps23;go_wp2_with fail;refine HKd.out.mono ?_;rintro e wx ⟨rfl, hwx⟩;rw [hwx, H1.out.2.2.2, H1.out.2.2.1];clear hwx;go_wp2_with fail
 go_loopw [9] (fun s9 wr => ∃ j : Nat, s9 = .int .i64 (j : Int) ∧ j < k ∧ Hid (Below w1.heap.size w1 wr)) (fun s9 _ => k - (intOf s9).toNat)
 case atStart => exact ⟨0, rfl, by omega, Lib.hid (Below.refl _ _)⟩
 case round =>
  obtain ⟨j, rfl, hj, hb⟩ := hrel;have hj9 : (j : Int) < 9 := by omega
  have hj9' : j < 9 := by omega
  obtain ⟨c0, c1⟩ := kd_cells (H1.out.2.1.below hb.out) j hj9';obtain ⟨V, hV⟩ : ∃ x, wr.heap.size = x := ⟨_, rfl⟩;unfold eV at c0;obtain ⟨w2, hw2⟩ : ∃ x, wr.alloc (.cells #[.iface 407 (.pointer (some (E (j + 1)))), .int .i64 ((j : Int) + 1)] 79) = x := ⟨_, rfl⟩;have hb2 : Below wr.heap.size wr w2 := by rw [← hw2]; exact (Below.refl _ _).alloc (Nat.le_refl _) _
  have hV2 : Blk w2 V 79 #[eV E (j + 1), .int .i64 ((j : Int) + 1)] := by rw [← hw2]; exact Blk.new_at hV.symm
  have v0 : w2.cell? ⟨V, 0, none⟩ = some (.iface 407 (.pointer (some (E (j + 1))))) := hV2.cell 0;have v1 : w2.cell? ⟨V, 1, none⟩ = some (.int .i64 ((j : Int) + 1)) := hV2.cell 1;have HV := Lib.hid (And.intro hV hw2);have HB2 := Lib.hid (hb.out.trans (hb2.mono hb.out.size));have hE2 := HE.out.1.below HB2.out;have hf2 := (HE.out.2.below HB2.out).cell 1;have hf2 : w2.cell? ⟨F, 1, none⟩ = some (.iface 407 (.pointer (some (E k)))) := hf2
  by_cases hjk : j + 1 = k
  · have HI := Lib.hid (is_fault_same F (E k) w2 hf2);have HJ := Lib.hid (show (j : Int) + 1 = (k : Int) by omega)
    rw [hjk] at v0 HV hV2 hw2 c0;clear hb2 hV2 hV hw2 hE2 hf2 hjk;go_upto_region 6 with (fail);rw [HV.out.1, HV.out.2];go_wp2_with fail;refine HI.out.mono ?_;rintro e wx ⟨rfl, hwx⟩;rw [hwx];clear hwx;go_wp2_with fail;go_ret;exact ⟨by rw [HJ.out]; rfl, H1.out.1.trans (HB2.out.mono H1.out.1.size)⟩
  · obtain ⟨ca, ta, ha⟩ := hE2.b k HKk.out.1 HKk.out.2;obtain ⟨cb, tb, hbb⟩ := hE2.b (j + 1) (by omega) (by omega)
    have HI := Lib.hid (is_fault_other F (E k) (E (j + 1)) ca cb ta tb w2 hf2 (fun e => hjk (hE2.d k (j + 1) HKk.out.1 HKk.out.2 (by omega) (by omega) e).symm) ha hbb)
    have hjk' : j + 1 < k := by omega
    clear hb2 hV2 hV hw2 hE2 hf2 hjk ha hbb;go_upto_region 6 with (fail);rw [HV.out.1, HV.out.2];go_wp2_with fail;refine HI.out.mono ?_;rintro e wx ⟨rfl, hwx⟩;rw [hwx];clear hwx;go_wp2_with fail
    go_roundw
    case rel => exact ⟨j + 1, by go_num, by omega, HB2⟩
    case measure => simp [intOf]; omega
def rdrC (A : Option Addr) (m c a k : Nat) (D : Option Addr) (dn dc : Nat) (P : Option Addr) (pn pc : Nat) : Array Value := #[.slice A m c, .int .i64 a, .int .i64 k, .slice D dn dc, .slice P pn pc]
theorem rdr_cells {R : Nat} {w : World} {A : Option Addr} {m c a k : Nat} {D : Option Addr} {dn dc : Nat} {P : Option Addr} {pn pc : Nat} (h : Blk w R 71 (rdrC A m c a k D dn dc P pn pc)) :
 (w.cell? ⟨R, 0, none⟩ = some (.slice A m c) ∧ w.cell? ⟨R, 1, none⟩ = some (.int .i64 a) ∧ w.cell? ⟨R, 2, none⟩ = some (.int .i64 k) ∧ w.cell? ⟨R, 3, none⟩ = some (.slice D dn dc) ∧ w.cell? ⟨R, 4, none⟩ = some (.slice P pn pc)) ∧
 (w.frozen? ⟨R, 1, none⟩ = false ∧ w.frozen? ⟨R, 2, none⟩ = false ∧ w.frozen? ⟨R, 3, none⟩ = false ∧ w.frozen? ⟨R, 4, none⟩ = false) :=
 ⟨⟨h.cell 0, h.cell 1, h.cell 2, h.cell 3, h.cell 4⟩, ⟨h.frozen 1, h.frozen 2, h.frozen 3, h.frozen 4⟩⟩
theorem rdr_far (A : Option Addr) (m c a k : Nat) (D : Option Addr) (dn dc : Nat) (P : Option Addr) (pn pc : Nat) : ∀ (j : Nat) (v : Value), (rdrC A m c a k D dn dc P pn pc)[j]? = some v → (match v with | .int .u8 _ => false | _ => true) = true := by
 intro j v hv;rcases j with _ | _ | _ | _ | _ | j <;> simp [rdrC] at hv <;> subst hv <;> rfl
def LaidX (T Rr : Nat → Int) (E : Nat → Addr) (B : Nat) (w : World) : Prop := B ≤ w.heap.size ∧ ∀ W, Below B w W → LaidS T Rr W ∧ Laid W ∧ LaidM W ∧ LaidE E W
theorem LaidX.to {T Rr : Nat → Int} {E : Nat → Addr} {B : Nat} {w w' : World} (h : LaidX T Rr E B w) (hb : Below B w w') : LaidX T Rr E B w' := ⟨Nat.le_trans h.1 hb.size, fun W hW => h.2 W (hb.trans hW)⟩
theorem LaidX.up {T Rr : Nat → Int} {E : Nat → Addr} {B : Nat} {w w' : World} (h : LaidX T Rr E B w) (hb : Below w.heap.size w w') : LaidX T Rr E B w' := h.to (hb.mono h.1)
theorem LaidX.at_ {T Rr : Nat → Int} {E : Nat → Addr} {B : Nat} {w : World} (h : LaidX T Rr E B w) : LaidS T Rr w ∧ Laid w ∧ LaidM w ∧ LaidE E w := h.2 w (Below.refl _ _)
theorem LaidX.fr {T Rr : Nat → Int} {E : Nat → Addr} {B R : Nat} {w w' : World} (h : LaidX T Rr E B w) (hR : B ≤ R) (hf : Fr (fun k => k = R) w w') : LaidX T Rr E B w' := h.to (hf.below h.1 (fun k hk => by have hk : k = R := hk; omega))
theorem LaidX.start {T Rr : Nat → Int} {E : Nat → Addr} {w : World} (h1 : LaidS T Rr w) (h2 : Laid w) (h3 : LaidM w) (h4 : LaidE E w) : LaidX T Rr E w.heap.size w :=
 ⟨Nat.le_refl _, fun W hW => ⟨h1.below hW, h2.low hW h2.1, h3.low hW h3.1, h4.below hW⟩⟩
def SrPost (E : Nat → Addr) (R : Nat) (e : Nat) (C : Array Value) (w : World) (en : Ending) (w' : World) : Prop :=
 Fr (fun k => k = R) w w' ∧ if e = 0 then en = .returned .nilIface ∧ Blk w' R 71 C else ∃ v, en = .returned v ∧ FV E e v w'
theorem sr_no {E : Nat → Addr} {R e : Nat} {C : Array Value} {w w' : World} {v : Value} (he : e ≠ 0) (hf : Fr (fun k => k = R) w w') (hv : FV E e v w') : SrPost E R e C w (.returned v) w' := by
 refine ⟨hf, ?_⟩;rw [if_neg he];exact ⟨v, rfl, hv⟩
theorem snum_any (T Rr : Nat → Int) (E : Nat → Addr) (B : Nat) (R : Nat) (A : Option Addr) (m c a k : Nat) (D : Option Addr) (dn dc : Nat) (P : Option Addr) (pn pc : Nat) (l : List UInt8) (want : Nat) (w : World) (hR : Blk w R 71 (rdrC A m c a k D dn dc P pn pc)) (hI : In w A m l) (hc : m ≤ c) (ha : a ≤ m) (hE : LaidX T Rr E B w) (hw : want < 9223372036854775808) :
 Calls Tryz.prog 70 #[.pointer (some ⟨R, 0, none⟩), .int .i64 want] w (SrPost E R (numF l a want).e (rdrC A m c (numF l a want).at_ k D dn dc P pn pc) w) := by
 have hm := hI.2.2;have hlm := hI.len;obtain ⟨A2, hA2⟩ : ∃ x, (if c = a then A else A.map (·.add a)) = x := ⟨_, rfl⟩
 have hi2 := hI.cut ha hc;rw [hA2] at hi2;have HG := Lib.hid (vGet_any A2 (m - a) (c - a) (l.drop a) w.drew (hi2.below (Below.refl _ _).drew));obtain ⟨X, hX⟩ : ∃ x, numF l a want = x := ⟨_, rfl⟩;rw [hX];unfold numF at hX;have hv := viF_bd (l.drop a);have he := viF_err (l.drop a);have ht := fun h => viF_take (l.drop a) 0 h
 rw [List.length_drop, hlm] at ht;obtain ⟨⟨v, n, ve⟩, hq⟩ : ∃ x, viF (l.drop a) = x := ⟨_, rfl⟩;rw [hq] at HG hX hv he ht;simp only [] at HG hX hv he ht;obtain ⟨⟨c0, c1, c2, c3, c4⟩, ⟨f1, f2, f3, f4⟩⟩ := rdr_cells hR;have HR := Lib.hid hR;have HX := Lib.hid hX;have HT := Lib.hid ht;have hac : (a : Int) ≤ (m : Int) := by omega
 have hac' : (a : Int) ≤ (c : Int) := by omega
 have wu : IntKind.u64.wrap (want : Int) = (want : Int) := by rw [IntKind.wrap_u64]; omega
 have HF := Lib.hid (fun off kk w' (hb : Below w.heap.size w w') h1 h9 => fault_any E off kk w' (hE.up hb).at_.2.2.2 h1 h9)
 clear hI hlm hi2 hX hq ht hE hR;go_enter Tryz.func70, Tryz.ntmps70;go_wp2_with fail
 go_region_held3 (fun w' => w'.cell? ⟨R, 0, none⟩ = some (.slice A m c) ∧ w'.cell? ⟨R, 1, none⟩ = some (.int .i64 a))
  (first | (with_reducible exact ⟨c0, c1⟩) | go_keep)
  (first | (go_at_call 91; refine HG.out.mono ?_; rintro e w5 ⟨rfl, rfl⟩))
 have HRd := Lib.hid (HR.out.drew);obtain ⟨⟨c0, c1, c2, c3, c4⟩, ⟨f1, f2, f3, f4⟩⟩ := rdr_cells HRd.out;have HB1 := Lib.hid (show Below w.heap.size w w.drew from (Below.refl _ _).drew)
 by_cases h0 : ve = 0
 · subst h0;have HX2 := Lib.hid (show (if v ≠ want then ⟨a, 2⟩ else ⟨a + n, 0⟩ : Nx) = X by have := HX.out; rw [if_neg (fun h => h rfl)] at this; exact this)
   by_cases hvw : v = want
   · have HXr := Lib.hid (show X = ⟨a + n, 0⟩ by rw [← HX2.out, if_neg (fun h => h hvw)])
     have g1 : ((v : Int) != (want : Int)) = false := by rw [bne_eq_false_iff_eq]; omega
     have g2 : (v != want) = false := by rw [bne_eq_false_iff_eq]; exact hvw
     obtain ⟨q, hq⟩ : ∃ x, a + n = x := ⟨_, rfl⟩;have hn2 := (HT.out rfl).2.1;have wq : IntKind.i64.wrap ((a : Int) + (n : Int)) = (q : Int) := by rw [IntWalk.i64_in _ (by omega)]; omega
     rw [hq] at HXr;clear hq hvw HX HX2;go_wp2_with fail;go_ret;refine ⟨(Fr.refl _ _).drew.trans (Fr.set1 (Fr.refl _ _) 1 _), ?_⟩;rw [HXr.out, if_pos rfl];exact ⟨rfl, HRd.out.set_ 1 _⟩
   · have HXr := Lib.hid (show X = ⟨a, 2⟩ by rw [← HX2.out, if_pos hvw])
     have g1 : ((v : Int) != (want : Int)) = true := by rw [bne_iff_ne]; omega
     have g2 : (v != want) = true := by rw [bne_iff_ne]; exact hvw
     have HF2 := Lib.hid (HF.out (a : Int) 2 w.drew HB1.out (by decide) (by decide))
     clear hvw HX HX2;go_wp2_with fail;refine HF2.out.mono ?_;rintro e w6 ⟨vv, rfl, hv, hb6⟩;have H6 := Lib.hid (And.intro hv hb6);clear hv hb6;go_wp2_with fail;go_ret;rw [HXr.out];exact sr_no (e := 2) (by decide) (Fr.of_below (HB1.out.trans H6.out.2)) H6.out.1
 · have HXr := Lib.hid (show X = ⟨a, ve⟩ by rw [← HX.out, if_pos h0])
   have H0 := Lib.hid h0;have g1 : ((ve : Int) != 0) = true := by rw [bne_iff_ne]; omega
   have g2 : (ve != 0) = true := by rw [bne_iff_ne]; exact h0
   have HF2 := Lib.hid (HF.out (a : Int) ve w.drew HB1.out (by omega) (by omega))
   clear h0 HX;go_wp2_with fail;refine HF2.out.mono ?_;rintro e w6 ⟨vv, rfl, hv, hb6⟩;have H6 := Lib.hid (And.intro hv hb6);clear hv hb6;go_wp2_with fail;go_ret;rw [HXr.out];exact sr_no H0.out (Fr.of_below (HB1.out.trans H6.out.2)) H6.out.1
theorem backF_err (S : Sums) (b : List UInt8) : (backF S b).e ≤ 3 := by unfold backF; (repeat' split) <;> simp
theorem backF_bd (S : Sums) (b : List UInt8) : (backF S b).kind < 256 := by
 unfold backF
 (repeat' split) <;> simp
 exact (b.getD 9 0).toNat_lt
theorem sfoot_any (S : Sums) (hS : S.c32 = crc32) (T Rr : Nat → Int) (E : Nat → Addr) (B R : Nat) (A : Option Addr) (m c a k : Nat) (D : Option Addr) (dn dc : Nat) (P : Option Addr) (pn pc : Nat) (l : List UInt8) (size : Nat) (w : World) (hR : Blk w R 71 (rdrC A m c a k D dn dc P pn pc)) (hI : In w A m l) (hc : m ≤ c) (ha : a ≤ m) (hE : LaidX T Rr E B w) (hRB : B ≤ R) :
 Calls Tryz.prog 74 #[.pointer (some ⟨R, 0, none⟩), .int .i64 size] w (SrPost E R (footF S l k a size) (rdrC A m c (a + 12) k D dn dc P pn pc) w) := by
 have hm := hI.2.2;have hlm := hI.len;obtain ⟨X, hX⟩ : ∃ x, footF S l k a size = x := ⟨_, rfl⟩;rw [hX];unfold footF at hX;rw [hlm] at hX;obtain ⟨⟨c0, c1, c2, c3, c4⟩, ⟨f1, f2, f3, f4⟩⟩ := rdr_cells hR;have HR := Lib.hid hR;have HX := Lib.hid hX;have HE := Lib.hid (And.intro hE hRB);have HF := Lib.hid (fun off kk w' (hb : Below B w w') h1 h9 => fault_any E off kk w' (hE.2 w' hb).2.2.2 h1 h9)
 have HI := Lib.hid hI;obtain ⟨r, hr⟩ : ∃ x, m - a = x := ⟨_, rfl⟩;have wr : IntKind.i64.wrap ((m : Int) - (a : Int)) = (r : Int) := by rw [IntWalk.i64_in _ (by omega)]; omega
 rw [hr] at HX;have HMr := Lib.hid hr;have HRd := Lib.hid (HR.out.drew);clear hI hlm hX hE hR hr hRB;by_cases hlt : r < 12
 · have HXr := Lib.hid (show X = 1 by rw [← HX.out, if_pos hlt])
   have k1 : (r : Int) < 12 := by omega
   have k2 : decide ((r : Int) < 12) = true := decide_eq_true k1;have HF2 := Lib.hid (HF.out (a : Int) 1 w.drew ((Below.refl _ _).drew) (by decide) (by decide))
   clear hlt HX;go_enter Tryz.func74, Tryz.ntmps74;go_wp2_with fail
   go_region
   obtain ⟨⟨d0, d1, d2, d3, d4⟩, _⟩ := rdr_cells HRd.out;go_wp2_with fail;refine HF2.out.mono ?_;rintro e w6 ⟨vv, rfl, hv, hb6⟩;have H6 := Lib.hid (And.intro hv hb6);clear hv hb6;go_wp2_with fail;go_ret;rw [HXr.out];exact sr_no (e := 1) (by decide) ((Fr.refl _ _).drew.trans (Fr.of_below H6.out.2)) H6.out.1
 · have hX2 := HX.out;rw [if_neg hlt] at hX2;have k1 : ¬ (r : Int) < 12 := by omega
   have k2 : decide ((r : Int) < 12) = false := decide_eq_false k1;obtain ⟨q, hq⟩ : ∃ x, a + 12 = x := ⟨_, rfl⟩;have wq : IntKind.i64.wrap ((a : Int) + 12) = (q : Int) := by have := HMr.out; rw [IntWalk.i64_in _ (by omega)]; omega
   have hqm : q ≤ m ∧ a ≤ q := by have := HMr.out; omega
   have y2 : (a : Int) ≤ (q : Int) := by omega
   have y3 : (q : Int) ≤ (c : Int) := by omega
   have hqs : q - a = 12 := by omega
   obtain ⟨A3, hA3⟩ : ∃ x, (if c = a then A else A.map (·.add a)) = x := ⟨_, rfl⟩
   have hI3 := (HI.out.cut (k := a) (by omega) hc).take (k := 12) (by have := HMr.out; omega)
   rw [hA3] at hI3;have hd2 : Below w.heap.size w w.drew.drew := (Below.refl _ _).drew.drew;have HFt := Lib.hid (ReadFooter_any S hS A3 (c - a) ((l.drop a).take 12) w.drew.drew (hI3.below hd2) (by omega) (HE.out.1.up hd2).at_.1.c (HE.out.1.up hd2).at_.1.f)
   have hbe := backF_err S ((l.drop a).take 12);have hbk := backF_bd S ((l.drop a).take 12);obtain ⟨⟨be, bk, bs⟩, hb⟩ : ∃ x, backF S ((l.drop a).take 12) = x := ⟨_, rfl⟩;rw [hb] at HFt hX2 hbe hbk;simp only [] at HFt hX2 hbe hbk;rw [hq] at hX2 ⊢;have HX2 := Lib.hid hX2;clear hlt HX hX2 hI3 hd2 hb hq;obtain ⟨⟨d0, d1, d2, d3, d4⟩, ⟨g1, g2, g3, g4⟩⟩ := rdr_cells HRd.out;obtain ⟨⟨e0, e1, e2, e3, e4⟩, _⟩ := rdr_cells HRd.out.drew
   go_enter Tryz.func74, Tryz.ntmps74;go_wp2_with fail
   go_region
   go_wp2_with fail
   go_region_held3 (fun w' => w'.cell? ⟨R, 0, none⟩ = some (.slice A m c) ∧ w'.cell? ⟨R, 1, none⟩ = some (.int .i64 a))
    (first | (with_reducible exact ⟨e0, e1⟩) | (with_reducible exact ⟨z0, z1⟩) | go_keep)
    (first | (go_at_call 95; refine HFt.out.mono ?_; rintro e w5 ⟨rfl, hb5⟩; obtain ⟨⟨z0, z1, z2, z3, z4⟩, ⟨x1, x2, x3, x4⟩⟩ := rdr_cells (HRd.out.drew.below hb5); have H5 := Lib.hid hb5; clear hb5))
   have HR5 := Lib.hid (HRd.out.drew.below H5.out);have HF5 := Lib.hid (show Fr (fun k => k = R) w w5 from (Fr.refl _ _).drew.drew.trans (Fr.of_below H5.out))
   have HB5 := Lib.hid (HF5.out.below HE.out.1.1 (fun k hk => by have hk : k = R := hk; have := HE.out.2; omega))
   by_cases h0 : be = 0
   · subst h0;have HX3 := Lib.hid (show (if bk ≠ k ∨ bs ≠ size then 2 else if q < m then 2 else 0) = X by have := HX2.out; rw [if_neg (fun h => h rfl)] at this; exact this)
     clear HX2;by_cases hbad : bk ≠ k ∨ bs ≠ size
     · have HXr := Lib.hid (show X = 2 by rw [← HX3.out, if_pos hbad])
       clear HX3;by_cases hkk : bk = k
       · have hss : ¬ bs = size := by rcases hbad with h | h; exact absurd hkk h; exact h
         have g1 : ((bk : Int) != (k : Int)) = false := by rw [bne_eq_false_iff_eq]; omega
         have g2 : ((bs : Int) != (size : Int)) = true := by rw [bne_iff_ne]; omega
         clear hbad hkk hss;go_wp2_with fail;refine (HF.out (a : Int) 2 w5 HB5.out (by omega) (by omega)).mono ?_
         rintro e w7 ⟨vv, rfl, hv, hb7⟩;have H7 := Lib.hid (And.intro hv hb7);clear hv hb7;go_wp2_with fail;go_ret;rw [HXr.out];exact sr_no (e := 2) (by decide) (HF5.out.trans (Fr.of_below H7.out.2)) H7.out.1
       · have g1 : ((bk : Int) != (k : Int)) = true := by rw [bne_iff_ne]; omega
         clear hbad hkk;go_wp2_with fail;refine (HF.out (a : Int) 2 w5 HB5.out (by omega) (by omega)).mono ?_
         rintro e w7 ⟨vv, rfl, hv, hb7⟩;have H7 := Lib.hid (And.intro hv hb7);clear hv hb7;go_wp2_with fail;go_ret;rw [HXr.out];exact sr_no (e := 2) (by decide) (HF5.out.trans (Fr.of_below H7.out.2)) H7.out.1
     · have HX4 := Lib.hid (show (if q < m then 2 else 0) = X by have := HX3.out; rw [if_neg hbad] at this; exact this)
       have g1 : ((bk : Int) != (k : Int)) = false := by rw [bne_eq_false_iff_eq]; omega
       have g2 : ((bs : Int) != (size : Int)) = false := by rw [bne_eq_false_iff_eq]; omega
       obtain ⟨w6, hw6⟩ : ∃ x, w5.setCell ⟨R, 1, none⟩ (.int .i64 q) = x := ⟨_, rfl⟩;have hf6 : Fr (fun k => k = R) w5 w6 := by rw [← hw6]; exact Fr.set1 (Fr.refl _ _) 1 _
       have hR6 : Blk w6 R 71 (rdrC A m c q k D dn dc P pn pc) := by rw [← hw6]; exact HR5.out.set_ 1 _
       obtain ⟨⟨u0, u1, u2, u3, u4⟩, _⟩ := rdr_cells hR6;obtain ⟨⟨v0, v1, v2, v3, v4⟩, _⟩ := rdr_cells hR6.drew;have H6 := Lib.hid (And.intro hw6 (And.intro (HF5.out.trans hf6).drew hR6.drew));have hb6 := H6.out.2.1.below HE.out.1.1 (fun k hk => by have hk : k = R := hk; have := HE.out.2; omega)
       have HB6 := Lib.hid hb6;clear hbad HX3 hw6 hf6 hR6 hb6;by_cases hqm2 : q < m
       · have HXr := Lib.hid (show X = 2 by rw [← HX4.out, if_pos hqm2])
         have k3 : (q : Int) < (m : Int) := by omega
         have k4 : decide ((q : Int) < (m : Int)) = true := decide_eq_true k3;go_upto_region 9 with (fail);rw [H6.out.1]
         go_region
         go_wp2_with fail;refine (HF.out (q : Int) 2 w6.drew HB6.out (by omega) (by omega)).mono ?_
         rintro e w7 ⟨vv, rfl, hv, hb7⟩;have H7 := Lib.hid (And.intro hv hb7);clear hv hb7;go_wp2_with fail;go_ret;rw [HXr.out];exact sr_no (e := 2) (by decide) (H6.out.2.1.trans (Fr.of_below H7.out.2)) H7.out.1
       · have HXr := Lib.hid (show X = 0 by rw [← HX4.out, if_neg hqm2])
         have k3 : ¬ (q : Int) < (m : Int) := by omega
         have k4 : decide ((q : Int) < (m : Int)) = false := decide_eq_false k3;go_upto_region 9 with (fail);rw [H6.out.1]
         go_region
         go_wp2_with fail;go_ret;refine ⟨H6.out.2.1, ?_⟩;rw [HXr.out, if_pos rfl];exact ⟨rfl, H6.out.2.2⟩
   · have HXr := Lib.hid (show X = be by rw [← HX2.out, if_pos h0])
     have H0 := Lib.hid h0;have g1 : ((be : Int) != 0) = true := by rw [bne_iff_ne]; omega
     have g2 : (be != 0) = true := by rw [bne_iff_ne]; exact h0
     have hbe1 : 1 ≤ be := by omega
     clear h0 HX2;go_wp2_with fail;refine (HF.out (a : Int) be w5 HB5.out (by omega) (by omega)).mono ?_
     rintro e w7 ⟨vv, rfl, hv, hb7⟩;have H7 := Lib.hid (And.intro hv hb7);clear hv hb7;go_wp2_with fail;go_ret;rw [HXr.out];exact sr_no (e := be) H0.out (HF5.out.trans (Fr.of_below H7.out.2)) H7.out.1
end Go.Proofs.YtcjehjdehdoaeaaGreatDoor
