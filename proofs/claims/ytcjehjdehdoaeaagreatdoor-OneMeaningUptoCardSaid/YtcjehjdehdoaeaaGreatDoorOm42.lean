/-
  Laws on the way to the claim (OtG OuA OuB). Conditions: those that each theorem states.
-/
import Derived.Test.YtcjehjdehdoaeaaGreatDoorOm41
import Derived.Test.YtcjehjdehdoaeaaGreatDoorOm26
import Derived.Test.YtcjehjdehdoaeaaGreatDoorOm21
import Derived.Test.YtcjehjdehdoaeaaGreatDoorOm25
set_option linter.unusedVariables false
set_option linter.unusedSimpArgs false
set_option maxRecDepth 1000000
set_option maxHeartbeats 16000000
namespace Go.Proofs.YtcjehjdehdoaeaaGreatDoor
open Go.RowKit
def fnC (R : Nat) : Array Value := #[.func (.func 46) #[.pointer (some ⟨R, 0, none⟩)] #[], .func (.func 47) #[.pointer (some ⟨R, 0, none⟩)] #[], .func (.func 48) #[.pointer (some ⟨R, 0, none⟩)] #[]]
def RdD (B R : Nat) (A : Option Addr) (m c : Nat) (X : Fs) (k a : Nat) (w : World) : Prop :=
 ∃ D dc P pc ps, Blk w R 71 (rdrC A m c a k D X.data.length dc P ps.length pc) ∧ w.ownsRow B 5 1 (.slice D X.data.length dc) X.data.length (bys X.data) ∧ w.ownsRow B 73 4 (.slice P ps.length pc) ps.length (pesC ps) ∧ pesR ps = X.recs ∧ ps.length ≤ m ∧ X.data.length ≤ m * 2097152 ∧ (∀ p ∈ ps, p.unp < 9223372036854775808 ∧ p.size < 9223372036854775808)
def filX (S : Sums) (l : List UInt8) (mem : Int) : Fs := blocksGo S l (frontF S (l.take 12)).kind mem (l.length + 1) 12 [] []
def RdJ (S : Sums) (B R F : Nat) (A : Option Addr) (m c : Nat) (l : List UInt8) (mem : Int) (w0 : World) (i : Nat) (w : World) : Prop :=
 Below B w0 w ∧ Blk w F 112 (fnC R) ∧ match i with
 | 0 => Blk w R 71 (rdrC A m c 0 0 none 0 0 none 0 0)
 | 1 => ¬ l.length < 12 ∧ (frontF S (l.take 12)).e = 0 ∧ Blk w R 71 (rdrC A m c 12 (frontF S (l.take 12)).kind none 0 0 none 0 0)
 | 2 => ¬ l.length < 12 ∧ (frontF S (l.take 12)).e = 0 ∧ (filX S l mem).e = 0 ∧ (filX S l mem).at_ < m ∧ RdD B R A m c (filX S l mem) (frontF S (l.take 12)).kind (filX S l mem).at_ w
 | _ => decF S l mem = ⟨0, (filX S l mem).data⟩ ∧ ∃ a, RdD B R A m c (filX S l mem) (frontF S (l.take 12)).kind a w
def SReadPost (S : Sums) (E : Nat → Addr) (A : Option Addr) (m c : Nat) (l : List UInt8) (mem : Int) (w : World) (en : Ending) (w' : World) : Prop :=
 Below w.heap.size w w' ∧ if (decF S l mem).e = 0 then decF S l mem = ⟨0, (filX S l mem).data⟩ ∧ ∃ R a, en = .returned (.tuple #[.pointer (some ⟨R, 0, none⟩), .nilIface]) ∧ RdD w.heap.size R A m c (filX S l mem) (frontF S (l.take 12)).kind a w'
  else ∃ v, en = .returned (.tuple #[.pointer none, v]) ∧ FV E (decF S l mem).e v w'
theorem decF_0 (S : Sums) (l : List UInt8) (mem : Int) (e : Nat) (h : (if l.length < 12 then 1 else (frontF S (l.take 12)).e) = e) (he : e ≠ 0) : (decF S l mem).e = e := by
 unfold decF;split at h
 · rename_i h1; rw [if_pos h1]; exact h
 · rename_i h1; rw [if_neg h1, if_pos (by omega)]; exact h
theorem decF_1 (S : Sums) (l : List UInt8) (mem : Int) (h1 : ¬ l.length < 12) (h2 : (frontF S (l.take 12)).e = 0) (he : (filX S l mem).e ≠ 0) : (decF S l mem).e = (filX S l mem).e := by
 unfold decF;rw [if_neg h1, if_neg (by omega)]
 unfold decB;rw [if_pos (by exact he)]
 rfl
theorem decF_2 (S : Sums) (l : List UInt8) (mem : Int) (h1 : ¬ l.length < 12) (h2 : (frontF S (l.take 12)).e = 0) (h3 : (filX S l mem).e = 0) :
 decF S l mem = if indexF S l (frontF S (l.take 12)).kind (filX S l mem).at_ (filX S l mem).recs ≠ 0 then ⟨indexF S l (frontF S (l.take 12)).kind (filX S l mem).at_ (filX S l mem).recs, []⟩ else ⟨0, (filX S l mem).data⟩ := by
 unfold decF;rw [if_neg h1, if_neg (by omega)]
 unfold decB;rw [if_neg (by exact fun h => h h3)]
 rfl
theorem frontF_kind (S : Sums) (b : List UInt8) (h : (frontF S b).e = 0) : kindOk (frontF S b).kind := by
 unfold frontF at h ⊢;split
 · rename_i h1; rw [if_pos h1] at h; simp at h
 split
 · rename_i h1 h2; rw [if_neg h1, if_pos h2] at h; simp at h
 split
 · rename_i h1 h2 h3; rw [if_neg h1, if_neg h2, if_pos h3] at h; simp at h
 rename_i h3;exact Classical.byContradiction fun h => h3 (.inr h)
theorem kind_256 {k : Nat} (h : kindOk k) : k < 256 := by rcases h with rfl | rfl | rfl | rfl <;> decide
theorem FnC.cells {w : World} {F R : Nat} (h : Blk w F 112 (fnC R)) : w.cell? ⟨F, 0, none⟩ = some (.func (.func 46) #[.pointer (some ⟨R, 0, none⟩)] #[]) ∧ w.cell? ⟨F, 1, none⟩ = some (.func (.func 47) #[.pointer (some ⟨R, 0, none⟩)] #[]) ∧ w.cell? ⟨F, 2, none⟩ = some (.func (.func 48) #[.pointer (some ⟨R, 0, none⟩)] #[]) := ⟨h.cell 0, h.cell 1, h.cell 2⟩
theorem rd_no {S : Sums} {E : Nat → Addr} {A : Option Addr} {m c : Nat} {l : List UInt8} {mem : Int} {e : Nat} {w w' : World} {v : Value} (h : (decF S l mem).e = e) (he : e ≠ 0) (hb : Below w.heap.size w w') (hv : FV E e v w') : SReadPost S E A m c l mem w (.returned (.tuple #[.pointer none, v])) w' := by
 subst h;refine ⟨hb, ?_⟩;rw [if_neg he];exact ⟨v, rfl, hv⟩
theorem sread_any (S : Sums) (T Rr : Nat → Int) (hS : S.c32 = crc32) (hS2 : S.dl = deltaL) (hS3 : S.sum = ckSum T Rr) (E : Nat → Addr) (A : Option Addr) (m c : Nat) (l : List UInt8) (mem : Int) (w : World)
 (hI : In w A m l) (hc : m ≤ c) (hc63 : c ≤ 9223372036854775807) (hm6 : m ≤ 1048576) (hA : ∀ ad, A = some ad → ad.block < w.heap.size) (h1 : LaidS T Rr w) (h2 : Laid w) (h3 : LaidM w) (h4 : LaidE E w) :
 Calls Tryz.prog 24 #[.slice A m c, .int .i64 mem] w (SReadPost S E A m c l mem w) := by
 have hlm := hI.len;obtain ⟨B, hB⟩ : ∃ x, w.heap.size = x := ⟨_, rfl⟩;obtain ⟨w1, hw1⟩ : ∃ x, w.alloc (.cells #[.slice A m c, .int .i64 0, .int .i64 0, .slice none 0 0, .slice none 0 0] 71) = x := ⟨_, rfl⟩;obtain ⟨F, hF⟩ : ∃ x, w1.heap.size = x := ⟨_, rfl⟩;obtain ⟨w2, hw2⟩ : ∃ x, w1.alloc (.cells #[.func (.func 46) #[.pointer (some ⟨B, 0, none⟩)] #[], .func (.func 47) #[.pointer (some ⟨B, 0, none⟩)] #[], .func (.func 48) #[.pointer (some ⟨B, 0, none⟩)] #[]] 112) = x := ⟨_, rfl⟩
 have hb1 : Below w.heap.size w w1 := by rw [← hw1]; exact (Below.refl _ _).alloc (Nat.le_refl _) _
 have hb2 : Below w1.heap.size w1 w2 := by rw [← hw2]; exact (Below.refl _ _).alloc (Nat.le_refl _) _
 have hR1 : Blk w1 B 71 (rdrC A m c 0 0 none 0 0 none 0 0) := by rw [← hw1]; exact Blk.new_at hB.symm
 have hF2 : Blk w2 F 112 (fnC B) := by rw [← hw2]; exact Blk.new_at hF.symm
 have hb := bup hb1 hb2;rw [hB] at hb;have HX := Lib.hid (LaidX.start (E := E) h1 h2 h3 h4);rw [hB] at HX;have HE := Lib.hid (fun W (hb : Below B w W) => HX.out.to hb)
 have HI := Lib.hid (fun W (hb : Below B w W) => show In W A m l from hI.fr (S := fun g => B ≤ g) ⟨hb.os, hb.tape, hb.output, hb.size, fun i hi hn => hb.block i (by omega)⟩ (fun h0 ad had => by have := hA ad had; omega))
 have hF1 : B + 1 = F := by rw [← hF, ← hw1, ← hB]; simp
 have HW := Lib.hid (And.intro hw1 (And.intro hw2 (And.intro hF1 hB)));have HJ := Lib.hid (show RdJ S B B F A m c l mem w 0 w2 from ⟨hb, hF2, hR1.below hb2⟩)
 have HC := Lib.hid (And.intro hlm (And.intro hc (And.intro hc63 (And.intro hm6 (And.intro hA (And.intro hS (And.intro hS2 hS3)))))));clear hI hlm hc hc63 hm6 hA h1 h2 h3 h4 hb1 hb2 hR1 hF2 hb hw1 hw2 hF hF1 hB hS hS2 hS3 HX;go_enter Tryz.func24, Tryz.ntmps24;go_wp2_with fail;rw [HW.out.1];go_wp2_with fail;rw [HW.out.2.2.2];go_wp2_with fail;rw [HW.out.2.1, HW.out.2.2.1]
 go_loopw [21] (fun s21 wr => ∃ i : Nat, s21 = .int .i64 (i : Int) ∧ i ≤ 3 ∧ Hid (RdJ S B B F A m c l mem w i wr)) (fun s21 _ => 3 - (intOf s21).toNat)
 case atStart => exact ⟨0, rfl, by decide, HJ⟩
 case round =>
  clear HJ;obtain ⟨i, rfl, hi, HJ⟩ := hrel;obtain ⟨hb, hF, hJ⟩ := HJ.out;obtain ⟨k0, k1, k2⟩ := FnC.cells hF;have HB := Lib.hid hb;have HFb := Lib.hid hF;have HI2 := Lib.hid (HI.out wr hb);have HE2 := Lib.hid (HE.out wr hb);obtain ⟨hlm, hc, hc63, hm6, hA, hS, hS2, hS3⟩ := HC.out;have hFB : F ≠ B := by have := HW.out.2.2.1; omega
  have HSz : Hid (B ≤ wr.heap.size) := Lib.hid (by have := hb.size; rw [HW.out.2.2.2] at this; exact this)
  obtain rfl | rfl | rfl | rfl : i = 0 ∨ i = 1 ∨ i = 2 ∨ i = 3 := by omega
  · have HH := Lib.hid (shd_any S hS T Rr E B B A m c l mem wr hJ HI2.out hc HE2.out (Nat.le_refl _));have hd0 := fun e (h : (if l.length < 12 then 1 else (frontF S (l.take 12)).e) = e) => decF_0 S l mem e h
    rw [hlm] at hd0;obtain ⟨X, hX⟩ : ∃ x, (if m < 12 then 1 else (frontF S (l.take 12)).e) = x := ⟨_, rfl⟩
    rw [hX] at HH;have HX := Lib.hid (And.intro hX (hd0 X hX));have HL := Lib.hid hlm;clear hX hd0 hJ hF hb HJ hlm hc hc63 hm6 hA hS hS2 hS3;go_wp2_with fail;refine HH.out.mono ?_;rintro e w5 ⟨hf5, he⟩;have H5 := Lib.hid (And.intro (HB.out.trans (hf5.below HSz.out (fun k hk => Nat.le_of_eq (Eq.symm hk)))) (HFb.out.fr hf5 hFB))
    clear hf5;by_cases h0 : X = 0
    · rw [if_pos h0] at he;obtain ⟨rfl, hR5⟩ := he;have hfin := HX.out.1.trans h0;have hnl : ¬ m < 12 := fun h => by rw [if_pos h] at hfin; simp at hfin
      rw [if_neg hnl] at hfin;have HN := Lib.hid (show RdJ S B B F A m c l mem w 1 w5 from ⟨H5.out.1, H5.out.2, by rw [HL.out]; exact hnl, hfin, hR5⟩)
      clear hR5 hfin hnl h0;go_wp2_with fail
      go_roundw
      case rel => exact ⟨1, by go_num, by decide, HN⟩
      case measure => simp [intOf]
    · rw [if_neg h0] at he;obtain ⟨v, rfl, Fb, off, rfl, hv⟩ := he;have HV := Lib.hid hv;have H0 := Lib.hid h0;clear hv h0;go_wp2_with fail;refine bodyPost_ret (v := .tuple #[.pointer none, .iface 80 (.pointer (some ⟨Fb, 0, none⟩))]) (by simp [results, Tryz.results24, go_sem]) rfl ?_
      exact rd_no (HX.out.2 H0.out) H0.out (by rw [HW.out.2.2.2]; exact H5.out.1) ⟨Fb, off, rfl, HV.out⟩
  · obtain ⟨h12, hfe, hR⟩ := hJ;have hkk := frontF_kind S _ hfe;have hd1 := decF_1 S l mem h12 hfe;have hX : blocksGo S l (frontF S (l.take 12)).kind mem (l.length + 1) 12 [] (pesR []) = filX S l mem := rfl;obtain ⟨X, hXe⟩ : ∃ x, filX S l mem = x := ⟨_, rfl⟩;rw [hXe] at hX hd1;have HX := Lib.hid (And.intro h12 (And.intro hfe (And.intro hXe hd1)));obtain ⟨k, hke⟩ : ∃ x, (frontF S (l.take 12)).kind = x := ⟨_, rfl⟩
    rw [hke] at hR hkk hX;have HK := Lib.hid hke;have HH := Lib.hid (sblk_any S T Rr hS hS2 hS3 E B B A m c l k mem X (l.length + 1) wr HI2.out hc hc63 hm6 (fun ad had => by have := hA ad had; rw [HW.out.2.2.2] at this; exact this) HE2.out (Nat.le_refl _) hkk
     ⟨hR, World.ownsRow_nil _ _ _ _, World.ownsRow_nil _ _ _ _, Nat.zero_le _, Nat.zero_le _, fun p hp => (by simp at hp), hX, by rw [hlm]; omega, fun g t cs h _ _ _ => h, Below.refl _ _, by omega⟩)
    clear hX hXe hd1 hR hkk hke h12 hfe hF hb HJ hlm hc hc63 hm6 hA hS hS2 hS3;go_wp2_with fail;refine HH.out.mono ?_;rintro e w5 ⟨hb5, he⟩;have H5 := Lib.hid (HB.out.trans hb5);clear hb5;by_cases h0 : X.e = 0
    · rw [if_pos h0] at he;obtain ⟨D, dc, P, pc, ps, rfl, g1, g2, g3, g4, g5, g6, g7, g8, g9⟩ := he;obtain ⟨h12, hfe, hXe, hd1⟩ := HX.out;have HN := Lib.hid (show RdJ S B B F A m c l mem w 2 w5 from ⟨H5.out, g9 _ _ _ HFb.out (by decide) (by decide) (by decide), h12, hfe, by rw [hXe]; exact h0, by rw [hXe]; exact g5, by rw [hXe, HK.out]; exact ⟨D, dc, P, pc, ps, g1, g2, g3, g4, g7, g6, g8⟩⟩)
      clear g1 g2 g3 g4 g5 g6 g7 g8 g9 h12 hfe hXe hd1 h0;go_wp2_with fail
      go_roundw
      case rel => exact ⟨2, by go_num, by decide, HN⟩
      case measure => simp [intOf]
    · rw [if_neg h0] at he;obtain ⟨v, rfl, Fb, off, rfl, hv⟩ := he;have HV := Lib.hid hv;have H0 := Lib.hid h0;clear hv h0;go_wp2_with fail;refine bodyPost_ret (v := .tuple #[.pointer none, .iface 80 (.pointer (some ⟨Fb, 0, none⟩))]) (by simp [results, Tryz.results24, go_sem]) rfl ?_
      exact rd_no (HX.out.2.2.2 H0.out) H0.out (by rw [HW.out.2.2.2]; exact H5.out) ⟨Fb, off, rfl, HV.out⟩
  · obtain ⟨h12, hfe, hXe, hat, D, dc, P, pc, ps, g1, g2, g3, g4, g5, g6, g7⟩ := hJ;have hkk := kind_256 (frontF_kind S _ hfe);have hd2 := decF_2 S l mem h12 hfe hXe;have hx := sidx_any S hS T Rr E B B A m c (filX S l mem).at_ (frontF S (l.take 12)).kind D (filX S l mem).data.length dc P ps.length pc B ps l mem wr g1 HI2.out hc hat HE2.out (Nat.le_refl _) g3 rfl g7 hm6 (by omega) hkk
    rw [g4] at hx;have HH := Lib.hid hx;obtain ⟨X, hX⟩ : ∃ x, indexF S l (frontF S (l.take 12)).kind (filX S l mem).at_ (filX S l mem).recs = x := ⟨_, rfl⟩;rw [hX] at HH hd2;have HX := Lib.hid hd2;have HG := Lib.hid (And.intro g1 (And.intro g2 (And.intro g3 (And.intro g4 (And.intro g5 (And.intro g6 g7))))));clear hx hX hd2 hkk h12 hfe hXe hat g1 g2 g3 g4 g5 g6 g7 hF hb HJ hlm hc hc63 hm6 hA hS hS2 hS3
    go_wp2_with fail;refine HH.out.mono ?_;rintro e w5 ⟨hf5, he⟩;have H5 := Lib.hid (And.intro (HB.out.trans (hf5.below HSz.out (fun k hk => Nat.le_of_eq (Eq.symm hk)))) (And.intro (HFb.out.fr hf5 hFB) hf5))
    clear hf5;by_cases h0 : X = 0
    · rw [if_pos h0] at he;obtain ⟨a', rfl, hR5⟩ := he;obtain ⟨g1, g2, g3, g4, g5, g6, g7⟩ := HG.out;have hd := HX.out;rw [if_neg (fun h => h h0)] at hd
      have o2 := own_fr g2 H5.out.2.2 (fun g hg => by have h := own_ne g2 g1 (by decide); exact fun e => h (by rw [hg]; exact congrArg some (Eq.symm e)))
      have o3 := own_fr g3 H5.out.2.2 (fun g hg => by have h := own_ne g3 g1 (by decide); exact fun e => h (by rw [hg]; exact congrArg some (Eq.symm e)))
      have HN := Lib.hid (show RdJ S B B F A m c l mem w 3 w5 from ⟨H5.out.1, H5.out.2.1, hd, a', D, dc, P, pc, ps, hR5, o2, o3, g4, g5, g6, g7⟩)
      clear g1 g2 g3 g4 g5 g6 g7 hd o2 o3 h0 hR5;go_wp2_with fail
      go_roundw
      case rel => exact ⟨3, by go_num, by decide, HN⟩
      case measure => simp [intOf]
    · rw [if_neg h0] at he;obtain ⟨v, rfl, Fb, off, rfl, hv⟩ := he;have HV := Lib.hid hv;have H0 := Lib.hid h0;clear hv h0;go_wp2_with fail;refine bodyPost_ret (v := .tuple #[.pointer none, .iface 80 (.pointer (some ⟨Fb, 0, none⟩))]) (by simp [results, Tryz.results24, go_sem]) rfl ?_
      exact rd_no (by have := HX.out; rw [if_pos H0.out] at this; rw [this]) H0.out (by rw [HW.out.2.2.2]; exact H5.out.1) ⟨Fb, off, rfl, HV.out⟩
  · obtain ⟨hd, a, hD⟩ := hJ;have HD := Lib.hid (And.intro hd hD);clear hd hD hF hb HJ hlm hc hc63 hm6 hA hS hS2 hS3;go_wp2_with fail;refine bodyPost_ret (v := .tuple #[.pointer (some ⟨B, 0, none⟩), .nilIface]) (by simp [results, Tryz.results24, go_sem]) rfl ?_
    refine ⟨by rw [HW.out.2.2.2]; exact HB.out, ?_⟩
    rw [if_pos (by rw [HD.out.1])]
    exact ⟨HD.out.1, B, a, rfl, by rw [HW.out.2.2.2]; exact HD.out.2⟩
def SDecPost (S : Sums) (E : Nat → Addr) (l : List UInt8) (mem : Int) (w : World) (en : Ending) (w' : World) : Prop :=
 Below w.heap.size w w' ∧ if (decF S l mem).e = 0 then ∃ D dc, en = .returned (.tuple #[.slice D (decF S l mem).data.length dc, .nilIface]) ∧ w'.ownsRow w.heap.size 5 1 (.slice D (decF S l mem).data.length dc) (decF S l mem).data.length (bys (decF S l mem).data)
  else ∃ v, en = .returned (.tuple #[.slice none 0 0, v]) ∧ FV E (decF S l mem).e v w'
theorem SDec_any (S : Sums) (T Rr : Nat → Int) (hS : S.c32 = crc32) (hS2 : S.dl = deltaL) (hS3 : S.sum = ckSum T Rr) (E : Nat → Addr) (A : Option Addr) (m c : Nat) (l : List UInt8) (mem : Int) (w : World)
 (hI : In w A m l) (hc : m ≤ c) (hc63 : c ≤ 9223372036854775807) (hm6 : m ≤ 1048576) (hA : ∀ ad, A = some ad → ad.block < w.heap.size) (h1 : LaidS T Rr w) (h2 : Laid w) (h3 : LaidM w) (h4 : LaidE E w) :
 Calls Tryz.prog 12 #[.slice A m c, .int .i64 mem] w (SDecPost S E l mem w) := by
 have HH := Lib.hid (sread_any S T Rr hS hS2 hS3 E A m c l mem w hI hc hc63 hm6 hA h1 h2 h3 h4);clear hI hc hc63 hm6 hA h1 h2 h3 h4 hS hS2 hS3;go_enter Tryz.func12, Tryz.ntmps12;go_wp2_with fail;refine HH.out.mono ?_;rintro e w5 ⟨hb5, he⟩;have HB := Lib.hid hb5;clear hb5;by_cases h0 : (decF S l mem).e = 0
 · rw [if_pos h0] at he;obtain ⟨hd, R, a, rfl, D, dc, P, pc, ps, g1, g2, g3, g4, g5, g6, g7⟩ := he;obtain ⟨⟨c0, c1, c2, c3, c4⟩, _⟩ := rdr_cells g1;have HG := Lib.hid (And.intro hd g2);obtain ⟨n, hn⟩ : ∃ x, (filX S l mem).data.length = x := ⟨_, rfl⟩;rw [hn] at c3;have HN := Lib.hid hn;have H0 := Lib.hid h0;clear hd g1 g2 g3 g4 g5 g6 g7 hn h0;go_wp2_with fail;refine bodyPost_ret (v := .tuple #[.slice D n dc, .nilIface]) (by simp [results, Tryz.results12, go_sem]) rfl ?_
   refine ⟨HB.out, ?_⟩;rw [if_pos H0.out, HG.out.1];exact ⟨D, dc, by rw [HN.out], HG.out.2⟩
 · rw [if_neg h0] at he;obtain ⟨v, rfl, Fb, off, rfl, hv⟩ := he;have HV := Lib.hid hv;have H0 := Lib.hid h0;clear hv h0;go_wp2_with fail;refine bodyPost_ret (v := .tuple #[.slice none 0 0, .iface 80 (.pointer (some ⟨Fb, 0, none⟩))]) (by simp [results, Tryz.results12, go_sem]) rfl ?_
   refine ⟨HB.out, ?_⟩;rw [if_neg H0.out];exact ⟨_, rfl, Fb, off, rfl, HV.out⟩
structure Cfg where
 ck : Nat
 dl : Nat
 lc : Nat
 lp : Nat
 pb : Nat
 dict : Nat
 blk : Nat
 mode : Nat
structure Cfg.Ok (c : Cfg) : Prop where
 k : kindOk c.ck
 d : c.dl ≤ 256
 l : c.lc + c.lp ≤ 4
 p : c.pb ≤ 4
 i : 4096 ≤ c.dict ∧ c.dict ≤ 67108864
 b : 1 ≤ c.blk ∧ c.blk ≤ 2147483648
 m : c.mode ≤ 2
def viN (v : Nat) : Nat := if v < 128 then 1 else if v < 16384 then 2 else if v < 2097152 then 3 else if v < 268435456 then 4 else if v < 34359738368 then 5 else if v < 4398046511104 then 6 else if v < 562949953421312 then 7 else if v < 72057594037927936 then 8 else 9
def viP (v : Nat) : List UInt8 := (List.range (viN v)).map fun i => UInt8.ofNat (v / 2 ^ (7 * i) % 128 + if i + 1 < viN v then 128 else 0)
def dbGo (n : Nat) : Nat → Nat → Nat
 | 0, b => b
 | k + 1, b => if dictN b < n then dbGo n k (b + 1) else b
def dbF (n : Nat) : Nat := dbGo n 41 0
def fiP (id : Nat) (ps : List UInt8) : List UInt8 := viP id ++ viP ps.length ++ ps
def filsP (c : Cfg) : List (Nat × List UInt8) := (if c.dl = 0 then [] else [(3, [UInt8.ofNat (c.dl - 1)])]) ++ [(33, [UInt8.ofNat (dbF c.dict)])]
def hdB (fl : List (Nat × List UInt8)) : List UInt8 := fl.foldl (fun b f => b ++ fiP f.1 f.2) [0, UInt8.ofNat (fl.length - 1)]
def hdQ (b : List UInt8) : List UInt8 := (b ++ List.replicate (padI b.length) 0).set 0 (UInt8.ofNat ((b.length + padI b.length + 4) / 4 - 1))
def hdP (S : Sums) (fl : List (Nat × List UInt8)) : List UInt8 := hdQ (hdB fl) ++ leN 4 (S.c32 (hdQ (hdB fl)))
def ixB (l : List (Nat × Nat)) : List UInt8 := l.foldl (fun b p => b ++ viP p.1 ++ viP p.2) (0 :: viP l.length)
def ixQ (b : List UInt8) : List UInt8 := b ++ List.replicate (padI b.length) 0
def ixP (S : Sums) (l : List (Nat × Nat)) : List UInt8 := ixQ (ixB l) ++ leN 4 (S.c32 (ixQ (ixB l)))
def frP (S : Sums) (k : Nat) : List UInt8 := magic ++ [0, UInt8.ofNat k] ++ leN 4 (S.c32 [0, UInt8.ofNat k])
def bkP (S : Sums) (k n : Nat) : List UInt8 := leN 4 (S.c32 (leN 4 (n / 4 - 1) ++ [0, UInt8.ofNat k])) ++ (leN 4 (n / 4 - 1) ++ [0, UInt8.ofNat k]) ++ [89, 90]
def bndV : Array Value := #[.int .u64 128, .int .u64 16384, .int .u64 2097152, .int .u64 268435456, .int .u64 34359738368, .int .u64 4398046511104, .int .u64 562949953421312, .int .u64 72057594037927936, .int .u64 9223372036854775808]
def LaidB (w : World) : Prop := 10 < w.heap.size ∧ ∀ i : Nat, i < 9 → w.cell? ⟨10, i, none⟩ = bndV[i]?
theorem LaidB.low {w w' : World} {B : Nat} (h : LaidB w) (hb : Below B w w') (hB : 10 < B) : LaidB w' := ⟨Nat.lt_of_lt_of_le h.1 hb.size, fun i hi => (hb.cell (p := ⟨10, i, none⟩) hB).trans (h.2 i hi)⟩
theorem LaidB.below {w w' : World} (h : LaidB w) (hb : Below w.heap.size w w') : LaidB w' := h.low hb h.1
theorem LaidB.cells {w : World} (h : LaidB w) : w.cell? ⟨10, 0, none⟩ = some (.int .u64 128) ∧ w.cell? ⟨10, 1, none⟩ = some (.int .u64 16384) ∧ w.cell? ⟨10, 2, none⟩ = some (.int .u64 2097152) ∧ w.cell? ⟨10, 3, none⟩ = some (.int .u64 268435456) ∧ w.cell? ⟨10, 4, none⟩ = some (.int .u64 34359738368) ∧ w.cell? ⟨10, 5, none⟩ = some (.int .u64 4398046511104) ∧ w.cell? ⟨10, 6, none⟩ = some (.int .u64 562949953421312) ∧ w.cell? ⟨10, 7, none⟩ = some (.int .u64 72057594037927936) ∧ w.cell? ⟨10, 8, none⟩ = some (.int .u64 9223372036854775808) :=
 ⟨h.2 0 (by decide), h.2 1 (by decide), h.2 2 (by decide), h.2 3 (by decide), h.2 4 (by decide), h.2 5 (by decide), h.2 6 (by decide), h.2 7 (by decide), h.2 8 (by decide)⟩
def bndN (i : Nat) : Nat := [128, 16384, 2097152, 268435456, 34359738368, 4398046511104, 562949953421312, 72057594037927936, 9223372036854775808].getD i 0
theorem bnd_at {i : Nat} (h : i < 9) (W : World) : (Instr.index 167 (.agg #[.int .u64 128, .int .u64 16384, .int .u64 2097152, .int .u64 268435456, .int .u64 34359738368, .int .u64 4398046511104, .int .u64 562949953421312, .int .u64 72057594037927936, .int .u64 9223372036854775808]) (.int .i64 i)).run Tryz.prog W = .ok (.int .u64 (bndN i)) W := by
 obtain rfl | rfl | rfl | rfl | rfl | rfl | rfl | rfl | rfl : i = 0 ∨ i = 1 ∨ i = 2 ∨ i = 3 ∨ i = 4 ∨ i = 5 ∨ i = 6 ∨ i = 7 ∨ i = 8 := by omega
 all_goals kernel_rfl
theorem viN_at {v i : Nat} (h : i < 9) (h0 : ∀ j, j < i → bndN j ≤ v) (h1 : v < bndN i) : viN v = i + 1 := by
 obtain rfl | rfl | rfl | rfl | rfl | rfl | rfl | rfl | rfl : i = 0 ∨ i = 1 ∨ i = 2 ∨ i = 3 ∨ i = 4 ∨ i = 5 ∨ i = 6 ∨ i = 7 ∨ i = 8 := by omega
 all_goals
  have a0 := h0 0;have a1 := h0 1;have a2 := h0 2;have a3 := h0 3;have a4 := h0 4;have a5 := h0 5;have a6 := h0 6;have a7 := h0 7;simp [bndN] at a0 a1 a2 a3 a4 a5 a6 a7 h1;unfold viN
  (repeat' split) <;> omega
theorem vSize_any (v : Nat) (w : World) (hv : v < 9223372036854775808) (hB : LaidB w) : Calls Tryz.prog 62 #[.int .u64 v] w fun e w' => e = .returned (.int .i64 (viN v)) ∧ w' = w := by
 obtain ⟨c0, c1, c2, c3, c4, c5, c6, c7, c8⟩ := hB.cells;have HN := Lib.hid (fun i (h : i < 9) (h0 : ∀ j, j < i → bndN j ≤ v) (h1 : v < bndN i) => viN_at h h0 h1)
 obtain ⟨N, hN⟩ : ∃ x, viN v = x := ⟨_, rfl⟩;rw [hN] at HN ⊢;have HV := Lib.hid hv;clear hB hv hN;go_enter Tryz.func62, Tryz.ntmps62;go_wp2_with fail
 go_loopw [6] (fun s6 wr => ∃ i : Nat, s6 = .int .i64 (i : Int) ∧ i < 9 ∧ Hid (∀ j, j < i → bndN j ≤ v) ∧ wr = w) (fun s6 _ => 9 - (intOf s6).toNat)
 case atStart => exact ⟨0, rfl, by decide, Lib.hid (fun j hj => by omega), rfl⟩
 case round =>
  obtain ⟨i, rfl, hi, H, rfl⟩ := hrel;have hi' : (i : Int) < 9 := by omega
  have hb := bnd_at hi;have HA := Lib.hid (fun h => HN.out i hi H.out h)
  obtain ⟨b, hbb⟩ : ∃ x, bndN i = x := ⟨_, rfl⟩;rw [hbb] at hb HA;have HBB := Lib.hid hbb;clear hbb;by_cases hlt : v < b
  · have h1 : (v : Int) < (b : Int) := by omega
    have hN := HA.out hlt;subst hN;go_wp2_with fail;go_ret;exact ⟨rfl, rfl⟩
  · have h1 : ¬ (v : Int) < (b : Int) := by omega
    go_wp2_with fail
    go_roundw
    case rel =>
     have h8 : i ≠ 8 := fun h => by have h5 := HBB.out; rw [h] at h5; have := HV.out; simp [bndN] at h5; omega
     refine ⟨i + 1, by go_num, by omega, Lib.hid (fun j hj => ?_), trivial⟩
     by_cases h : j < i
     · exact H.out j h
     · rw [show j = i by omega, HBB.out]; omega
    case measure => simp [intOf]; omega
theorem or128 (z : Nat) (h : z < 256) : bits .or .u8 (z : Int) 128 = ((z % 128 + 128 : Nat) : Int) := by
 have : ∀ k : Fin 256, bits .or .u8 (k.val : Int) 128 = ((k.val % 128 + 128 : Nat) : Int) := by decide +kernel
 exact this ⟨z, h⟩
theorem and128 (z : Nat) (h : z < 128) : bits .andNot .u8 ((z + 128 : Nat) : Int) 128 = (z : Int) := by
 have : ∀ k : Fin 128, bits .andNot .u8 ((k.val + 128 : Nat) : Int) 128 = (k.val : Int) := by decide +kernel
 exact this ⟨z, h⟩
def vD (v i : Nat) : UInt8 := UInt8.ofNat (v / 2 ^ (7 * i) % 128 + 128)
def viK (n v : Nat) : Nat → List UInt8
 | 0 => List.replicate n 0
 | k + 1 => (viK n v k).set k (vD v k)
theorem viK_len (n v k : Nat) : (viK n v k).length = n := by
 induction k with
 | zero => simp [viK]
 | succ k ih => rw [viK, List.length_set, ih]
theorem viK_get (n v k j : Nat) (hj : j < n) : (viK n v k)[j]? = some (if j < k then vD v j else 0) := by
 induction k with
 | zero => simp [viK, hj]
 | succ k ih =>
  rw [viK, List.getElem?_set, viK_len, ih];by_cases h : k = j
  · subst h; simp [hj]
  · rw [if_neg h];by_cases h2 : j < k
    · rw [if_pos h2, if_pos (by omega)]
    · rw [if_neg h2, if_neg (by omega)]
theorem viN_pos (v : Nat) : 1 ≤ viN v ∧ viN v ≤ 9 := by unfold viN; (repeat' split) <;> decide
theorem viP_len (v : Nat) : (viP v).length = viN v := by simp [viP]
theorem viK_full (v n : Nat) (hn : n + 1 = viN v) : (viK (n + 1) v (n + 1)).set n (UInt8.ofNat (v / 2 ^ (7 * n) % 128)) = viP v := by
 apply List.ext_getElem?;intro j;rw [List.getElem?_set, viK_len];by_cases hj : j < n + 1
 · have e : (viP v)[j]? = some (UInt8.ofNat (v / 2 ^ (7 * j) % 128 + if j + 1 < viN v then 128 else 0)) := by
    unfold viP;rw [List.getElem?_map, List.getElem?_range (by omega)]
    rfl
   rw [e, ← hn];by_cases h : n = j
   · subst h;rw [if_pos rfl, if_pos hj, if_neg (by omega)]
     simp
   · rw [if_neg h, viK_get _ _ _ _ hj, if_pos hj, if_pos (by omega)]
     rfl
 · rw [if_neg (by omega), List.getElem?_eq_none (show (viK (n + 1) v (n + 1)).length ≤ j by rw [viK_len]; omega), List.getElem?_eq_none (show (viP v).length ≤ j by rw [viP_len]; omega)]
theorem vPut_any (v : Nat) (w : World) (hv : v < 9223372036854775808) (hB : LaidB w) :
 Calls Tryz.prog 39 #[.int .u64 v] w fun e w' => e = .returned (.tuple #[.slice (some ⟨w.heap.size, 0, none⟩) (viN v) (viN v), .int .i64 0]) ∧ Blk w' w.heap.size 5 (bys (viP v)).toArray ∧ Below w.heap.size w w' := by
 obtain ⟨i0, hi0, hz0, hz1, hz2⟩ := info_parts infou8;have HSz := Lib.hid (vSize_any v w hv hB);have HFull := Lib.hid (fun n hn => viK_full v n hn)
 have hnp := viN_pos v;obtain ⟨n, hn⟩ : ∃ x, viN v = x := ⟨_, rfl⟩;rw [hn] at HSz HFull hnp ⊢;have HPS := Lib.hid (fun k => show viK n v (k + 1) = (viK n v k).set k (vD v k) from rfl)
 have HPL := Lib.hid (viK_len n v);obtain ⟨R, hR⟩ : ∃ R, w.heap.size = R := ⟨_, rfl⟩;have HR := Lib.hid hR;have hv18 : v < 18446744073709551616 := by omega
 have g0 : ((n : Int) == 0) = false := beq_eq_false_iff_ne.2 (by omega)
 clear hR hn hv hB;go_enter Tryz.func39, Tryz.ntmps39;go_wp2_with fail;refine HSz.out.mono ?_;rintro e wz ⟨rfl, hwz⟩;rw [hwz];clear hwz;go_upto_region 5 with (at_make; refine wpList_make_full w rfl (.tmp 11) (.tmp 11) 22 rfl w.heap.size 5 i0 _ 1 Tryz.underlying22 hi0 hz0 hz1 .i64 .i64 n n n rfl rfl rfl rfl (by rw [hz2]; omega) (by unfold maxLen; omega) (Nat.le_refl _) ?_; intro w1 hown1 hg1)
 rw [made_zeros'] at hown1;have hb1 : Below w.heap.size w w1 := (Below.refl _ w).grown hg1 (Nat.le_refl _) (fun g hg => by cases hg)
 have hk1 := (blk_of_own hown1).1;rw [HR.out] at hk1 ⊢;have H0 := Lib.hid (show Blk w1 R 5 (bys (viK n v 0)).toArray ∧ Below w.heap.size w w1 from ⟨hk1, hb1⟩)
 clear hown1 hg1 hb1 hk1;go_wp2_with fail
 go_loopw [0, 15] (fun s0 s15 wr => ∃ k : Nat, s0 = .int .u64 ((v / 2 ^ (7 * k) : Nat) : Int) ∧ s15 = .int .i64 (k : Int) ∧ k ≤ n ∧ Hid (Blk wr R 5 (bys (viK n v k)).toArray ∧ Below w.heap.size w wr)) (fun _ s15 _ => n - (intOf s15).toNat)
 case atStart => exact ⟨0, by simp, rfl, by omega, H0⟩
 case round =>
  clear H0;obtain ⟨k, rfl, rfl, hk, H⟩ := hrel;by_cases hlt : k < n
  · have hlt' : (k : Int) < (n : Int) := by omega
    have c0 := (H.out.1.cell k).trans (bys_at (by rw [HPL.out]; omega))
    have f0 := H.out.1.frozen k;have hx : v / 2 ^ (7 * k) ≤ v := Nat.div_le_self _ _;have hx2 : v / 2 ^ (7 * k) / 128 = v / 2 ^ (7 * (k + 1)) := by rw [Nat.div_div_eq_div_mul, show 7 * (k + 1) = 7 * k + 7 by omega, Nat.pow_add]
    have ho : bits .or .u8 (((v / 2 ^ (7 * k) : Nat) : Int) % 256) 128 = ((vD v k).toNat : Int) := by
     rw [show ((v / 2 ^ (7 * k) : Nat) : Int) % 256 = ((v / 2 ^ (7 * k) % 256 : Nat) : Int) by omega, or128 _ (Nat.mod_lt _ (by decide)), Nat.mod_mod_of_dvd _ (by decide)]
     unfold vD;rw [UInt8.toNat_ofNat']; omega
    obtain ⟨x, hxx⟩ : ∃ x, v / 2 ^ (7 * k) = x := ⟨_, rfl⟩;rw [hxx] at ho hx hx2 ⊢;have HX2 := Lib.hid hx2;clear hxx hx2;go_wp2_with fail
    go_roundw
    case rel =>
     refine ⟨k + 1, by rw [← HX2.out]; simp, by go_num, by omega, ?_⟩
     have := H.out.1.set_ k (.int .u8 ((vD v k).toNat : Int));have e : (bys (viK n v k)).toArray.setIfInBounds k (.int .u8 ((vD v k).toNat : Int)) = (bys (viK n v (k + 1))).toArray := by
      rw [HPS.out]; simp [bys, List.map_set]
     rw [e] at this;exact Lib.hid ⟨this, H.out.2.setCell (by have := HR.out; show _ ≤ R; omega) _⟩
    case measure => simp [intOf]; omega
  · obtain rfl : k = n := by omega
    have hlt' : ¬ (k : Int) < (k : Int) := by omega
    obtain ⟨q, rfl⟩ : ∃ q, k = q + 1 := ⟨k - 1, by omega⟩
    have hf := HFull.out q rfl;have c0 : World.cell? _ ⟨R, q, none⟩ = some (.int .u8 ((v / 2 ^ (7 * q) % 128 + 128 : Nat) : Int)) := (H.out.1.cell q).trans (by
     rw [List.getElem?_toArray];unfold bys;rw [List.getElem?_map, viK_get _ _ _ _ (Nat.lt_succ_self _), if_pos (Nat.lt_succ_self _)];unfold vD;simp;omega)
    have f0 := H.out.1.frozen q;have hq : bits .andNot .u8 ((v / 2 ^ (7 * q) % 128 + 128 : Nat) : Int) 128 = ((v / 2 ^ (7 * q) % 128 : Nat) : Int) := and128 _ (Nat.mod_lt _ (by decide))
    have h3 := H.out.1.set_ q (.int .u8 ((UInt8.ofNat (v / 2 ^ (7 * q) % 128)).toNat : Int));have e : (bys (viK (q + 1) v (q + 1))).toArray.setIfInBounds q (.int .u8 ((UInt8.ofNat (v / 2 ^ (7 * q) % 128)).toNat : Int)) = (bys (viP v)).toArray := by
     rw [← hf]; simp [bys, List.map_set]
    rw [e, show (UInt8.ofNat (v / 2 ^ (7 * q) % 128)).toNat = v / 2 ^ (7 * q) % 128 by rw [UInt8.toNat_ofNat']; omega] at h3
    obtain ⟨y, hy⟩ : ∃ y, v / 2 ^ (7 * q) % 128 = y := ⟨_, rfl⟩;rw [hy] at c0 hq h3;obtain ⟨y2, hy2⟩ : ∃ y2, y + 128 = y2 := ⟨_, rfl⟩;rw [hy2] at c0 hq;have H3 := Lib.hid (And.intro h3 H.out.2);have w1 : IntKind.i64.wrap (((q + 1 : Nat) : Int) - 1) = (q : Int) := by rw [IntWalk.i64_in _ (by omega)]; omega
    have hqq : (q : Int) < ((q + 1 : Nat) : Int) := by omega
    clear hf e h3 hy hy2 H;go_wp2_with fail;refine bodyPost_ret (v := .tuple #[.slice (some ⟨R, 0, none⟩) (q + 1) (q + 1), .int .i64 0]) (by simp [results, Tryz.results39, go_sem]) rfl ?_
    refine ⟨by rw [HR.out], by rw [HR.out]; exact H3.out.1, H3.out.2.setCell (by have := HR.out; show _ ≤ R; omega) _⟩
end Go.Proofs.YtcjehjdehdoaeaaGreatDoor
