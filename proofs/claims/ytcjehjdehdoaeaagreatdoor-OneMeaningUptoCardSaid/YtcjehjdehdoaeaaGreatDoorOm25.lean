/-
  Laws on the way to the claim (OrK OrP OrQ OrR). Conditions: those that each theorem states.
-/
import Derived.Test.YtcjehjdehdoaeaaGreatDoorOm03
import Derived.Test.YtcjehjdehdoaeaaGreatDoorOm24
import Derived.Test.YtcjehjdehdoaeaaGreatDoorOm05
set_option linter.unusedVariables false
set_option linter.unusedSimpArgs false
set_option maxRecDepth 1000000
set_option maxHeartbeats 16000000
namespace Go.Proofs.YtcjehjdehdoaeaaGreatDoor
open Go.RowKit
theorem xor64 (a b : Int) : bits .xor .u64 a b = ((bits .xor .u64 a b).toNat : Int) := by
 have : 0 ≤ bits .xor .u64 a b := by
  show 0 ≤ IntKind.u64.wrap ((BitVec.ofInt 64 a ^^^ BitVec.ofInt 64 b).toNat : Int);rw [IntKind.wrap_u64];omega
 omega
theorem and15_64 (a : Nat) : bits .and .u64 (a : Int) 15 = ((a % 16 : Nat) : Int) := by
 show IntKind.u64.wrap ((BitVec.ofInt 64 (a : Int) &&& BitVec.ofInt 64 15).toNat : Int) = _;have h2 : (BitVec.ofInt 64 (a : Int) &&& BitVec.ofInt 64 15).toNat = a % 16 := by
  rw [BitVec.toNat_and, show (BitVec.ofInt 64 15).toNat = 2 ^ 4 - 1 from rfl, Nat.and_two_pow_sub_one_eq_mod, BitVec.toNat_ofInt]
  omega
 rw [h2, IntKind.wrap_u64];omega
def x64 (a b : Int) : Nat := (bits .xor .u64 a b).toNat
def half64 (T : Nat → Int) (s : Nat) : Nat := x64 (T (s % 16)) ((s / 16 : Nat) : Int)
def byte64 (T : Nat → Int) (s : Nat) (c : UInt8) : Nat := half64 T (half64 T (x64 s (c.toNat : Int)))
def put64 (T : Nat → Int) (s : Nat) (l : List UInt8) : Nat := l.foldl (byte64 T) s
def not64 (s : Nat) : Nat := x64 IntKind.u64.max s
def crc64 (T : Nat → Int) (l : List UInt8) : Nat := not64 (put64 T (not64 0) l)
theorem put64_snoc (T : Nat → Int) (s : Nat) (l : List UInt8) (c : UInt8) : put64 T s (l ++ [c]) = byte64 T (put64 T s l) c := by simp [put64]
def LaidC64 (T : Nat → Int) (w : World) : Prop := 18 < w.heap.size ∧ ∀ i : Nat, i < 16 → w.cell? ⟨18, i, none⟩ = some (.int .u64 (T i))
theorem LaidC64.below {T : Nat → Int} {w w' : World} (h : LaidC64 T w) (hb : Below w.heap.size w w') : LaidC64 T w' := ⟨Nat.lt_of_lt_of_le h.1 hb.size, fun i hi => (hb.cell (p := ⟨18, i, none⟩) h.1).trans (h.2 i hi)⟩
theorem put64_any (T : Nat → Int) (s : Nat) (A : Option Addr) (n c : Nat) (l : List UInt8) (w : World) (hI : In w A n l) (hl : LaidC64 T w) :
 Calls Tryz.prog 290 #[.pointer (some ⟨18, 0, none⟩), .int .u64 s, .slice A n c] w fun e w' => e = .returned (.int .u64 (put64 T s l)) ∧ w' = w := by
 have hn := hI.2.2;have HI := Lib.hid hI;have HL := Lib.hid hI.len;have HT := Lib.hid hl.2;clear hI hl;go_enter Tryz.func290, Tryz.ntmps290;go_wp2_with fail
 go_loopw [1, 11] (fun s1 s11 wr => ∃ (i v : Nat), s1 = .int .u64 (v : Int) ∧ s11 = .int .i64 (i : Int) ∧ i ≤ n ∧ Hid (put64 T s (l.take i) = v) ∧ wr = w) (fun _ s11 _ => n - (intOf s11).toNat)
 case atStart => exact ⟨0, s, rfl, rfl, Nat.zero_le _, Lib.hid rfl, rfl⟩
 case round =>
  obtain ⟨i, v, rfl, rfl, hi, HR, rfl⟩ := hrel;by_cases hlt : i < n
  · have hlt' : (i : Int) < (n : Int) := by omega
    obtain ⟨ab, ao, rfl, hcell⟩ := HI.out.1.cells_at (by omega)
    obtain ⟨z, hz⟩ : ∃ z, l[i]? = some z := ⟨_, List.getElem?_eq_getElem (by have := HL.out; omega)⟩
    have c0 := hcell i z hz;have hz255 : z.toNat ≤ 255 := by have := z.toNat_lt; omega
    have HB := Lib.hid (show put64 T s (l.take (i + 1)) = half64 T (half64 T (x64 v (z.toNat : Int))) by
     rw [List.take_add_one, hz, Option.toList, put64_snoc, HR.out]; rfl)
    obtain ⟨k, hk⟩ : ∃ k, z.toNat = k := ⟨_, rfl⟩;rw [hk] at c0 hz255 HB;have x1 : bits .xor .u64 (v : Int) (k : Int) = (x64 v k : Int) := xor64 _ _;obtain ⟨a, ha⟩ : ∃ a, x64 v k = a := ⟨_, rfl⟩;rw [ha] at x1 HB;have z1 := and15_64 a;have hm1 : a % 16 < 16 := by omega
    have cA := HT.out (a % 16) hm1;have x2 : bits .xor .u64 (T (a % 16)) ((a / 16 : Nat) : Int) = (half64 T a : Int) := xor64 _ _;obtain ⟨q1, hq1⟩ : ∃ q, T (a % 16) = q := ⟨_, rfl⟩;obtain ⟨p1, hp1⟩ : ∃ q, a % 16 = q := ⟨_, rfl⟩;rw [hq1] at x2 cA;rw [hp1] at z1 hm1 cA;obtain ⟨b, hb⟩ : ∃ b, half64 T a = b := ⟨_, rfl⟩;rw [hb] at x2 HB;have z2 := and15_64 b;have hm2 : b % 16 < 16 := by omega
    have cB := HT.out (b % 16) hm2;have x3 : bits .xor .u64 (T (b % 16)) ((b / 16 : Nat) : Int) = (half64 T b : Int) := xor64 _ _;obtain ⟨q2, hq2⟩ : ∃ q, T (b % 16) = q := ⟨_, rfl⟩;obtain ⟨p2, hp2⟩ : ∃ q, b % 16 = q := ⟨_, rfl⟩;rw [hq2] at x3 cB;rw [hp2] at z2 hm2 cB;obtain ⟨d, hd⟩ : ∃ d, half64 T b = d := ⟨_, rfl⟩;rw [hd] at x3 HB;rw [show ((a / 16 : Nat) : Int) = (a : Int) / 16 by omega] at x2
    rw [show ((b / 16 : Nat) : Int) = (b : Int) / 16 by omega] at x3
    clear hcell hz hk ha hq1 hp1 hb hq2 hp2 hd;go_wp2_with fail
    go_roundw
    case rel => exact ⟨i + 1, d, rfl, by go_num, by omega, HB, trivial⟩
    case measure => simp [intOf]; omega
  · obtain rfl : i = n := by omega
    have hlt' : ¬ (i : Int) < (i : Int) := by omega
    have HR3 := Lib.hid (by have := HR.out; rw [List.take_of_length_le (by have := HL.out; omega)] at this; exact this)
    clear HR;go_wp2_with fail;go_ret;exact ⟨by rw [HR3.out]; rfl, rfl⟩
theorem More64_any (T : Nat → Int) (A : Option Addr) (n c : Nat) (l : List UInt8) (w : World) (hI : In w A n l) (hl : LaidC64 T w) :
 Calls Tryz.prog 288 #[.int .u64 0, .slice A n c] w fun e w' => e = .returned (.int .u64 (crc64 T l)) ∧ w' = w := by
 have HP := Lib.hid (put64_any T (not64 0) A n c l w hI hl);have h1 : bits .xor .u64 IntKind.u64.max 0 = (not64 0 : Int) := xor64 _ _;have h2 : bits .xor .u64 IntKind.u64.max (put64 T (not64 0) l : Int) = (crc64 T l : Int) := xor64 _ _;obtain ⟨t, ht⟩ : ∃ t, not64 0 = t := ⟨_, rfl⟩;rw [ht] at HP h1 h2;obtain ⟨p, hpp⟩ : ∃ q, put64 T t l = q := ⟨_, rfl⟩;obtain ⟨r, hr⟩ : ∃ q, crc64 T l = q := ⟨_, rfl⟩
 rw [hpp] at HP h2;rw [hr] at h2 ⊢;clear ht hpp hr hI hl;have HM : Calls Tryz.prog 289 #[.pointer (some ⟨18, 0, none⟩), .int .u64 0, .slice A n c] w fun e w' => e = .returned (.int .u64 (r : Int)) ∧ w' = w := by
  go_enter Tryz.func289, Tryz.ntmps289;go_wp2_with fail;refine HP.out.mono ?_;rintro e w1 ⟨rfl, rfl⟩;go_wp2_with fail;go_ret;exact ⟨rfl, rfl⟩
 have HM := Lib.hid HM;clear HP h1 h2;go_enter Tryz.func288, Tryz.ntmps288;go_wp2_with fail;refine HM.out.mono ?_;rintro e w1 ⟨rfl, rfl⟩;go_wp2_with fail;go_ret;exact ⟨rfl, rfl⟩
def lowK (n v : Nat) : Nat → List UInt8
 | 0 => List.replicate n 0
 | k + 1 => (lowK n v k).set k (UInt8.ofNat (v / 2 ^ (8 * k)))
theorem lowK_len (n v k : Nat) : (lowK n v k).length = n := by
 induction k with
 | zero => simp [lowK]
 | succ k ih => rw [lowK, List.length_set, ih]
theorem lowK_get (n v k j : Nat) (hj : j < n) : (lowK n v k)[j]? = some (if j < k then UInt8.ofNat (v / 2 ^ (8 * j)) else 0) := by
 induction k with
 | zero => simp [lowK, hj]
 | succ k ih =>
  rw [lowK, List.getElem?_set, lowK_len, ih];by_cases h : k = j
  · subst h; simp [hj]
  · rw [if_neg h];by_cases h2 : j < k
    · rw [if_pos h2, if_pos (by omega)]
    · rw [if_neg h2, if_neg (by omega)]
theorem lowK_full (n v : Nat) : lowK n v n = leN n v := by
 apply List.ext_getElem?;intro j;by_cases hj : j < n
 · rw [lowK_get n v n j hj, if_pos hj];simp [leN, hj]
 · rw [List.getElem?_eq_none (by rw [lowK_len]; omega), List.getElem?_eq_none (by rw [leN_length]; omega)]
theorem low_any (v n : Nat) (w : World) (h1 : 1 ≤ n) (h8 : n ≤ 8) :
 Calls Tryz.prog 284 #[.int .u64 v, .int .i64 n] w fun e w' => e = .returned (.slice (some ⟨w.heap.size, 0, none⟩) n n) ∧ Blk w' w.heap.size 5 (bys (leN n v)).toArray ∧ Below w.heap.size w w' := by
 obtain ⟨i0, hi0, hz0, hz1, hz2⟩ := info_parts infou8;have HPS := Lib.hid (fun k => show lowK n v (k + 1) = (lowK n v k).set k (UInt8.ofNat (v / 2 ^ (8 * k))) from rfl)
 have HPL := Lib.hid (lowK_len n v);obtain ⟨R, hR⟩ : ∃ R, w.heap.size = R := ⟨_, rfl⟩;have HR := Lib.hid hR;clear hR;go_enter Tryz.func284, Tryz.ntmps284;go_upto_region 2 with (at_make; refine wpList_make_full w rfl (.tmp 7) (.tmp 7) 22 rfl w.heap.size 5 i0 _ 1 Tryz.underlying22 hi0 hz0 hz1 .i64 .i64 n n n rfl rfl rfl rfl (by rw [hz2]; omega) (by unfold maxLen; omega) (Nat.le_refl _) ?_; intro w1 hown1 hg1)
 rw [made_zeros'] at hown1;have hb1 : Below w.heap.size w w1 := (Below.refl _ w).grown hg1 (Nat.le_refl _) (fun g hg => by cases hg)
 have hk1 := (blk_of_own hown1).1;rw [HR.out] at hk1 ⊢;have H0 := Lib.hid (show Blk w1 R 5 (bys (lowK n v 0)).toArray ∧ Below w.heap.size w w1 from ⟨hk1, hb1⟩)
 clear hown1 hg1 hb1 hk1;go_wp2_with fail
 go_loopw [11] (fun s11 wr => ∃ k : Nat, s11 = .int .i64 (k : Int) ∧ k ≤ n ∧ Hid (Blk wr R 5 (bys (lowK n v k)).toArray ∧ Below w.heap.size w wr)) (fun s11 _ => n - (intOf s11).toNat)
 case atStart => exact ⟨0, rfl, by omega, H0⟩
 case round =>
  clear H0;obtain ⟨k, rfl, hk, H⟩ := hrel;by_cases hlt : k < n
  · have hlt' : (k : Int) < (n : Int) := by omega
    have c0 := (H.out.1.cell k).trans (bys_at (by rw [HPL.out]; omega))
    have f0 := H.out.1.frozen k;go_wp2_with fail
    go_roundw
    case rel =>
     refine ⟨k + 1, by go_num, by omega, ?_⟩
     have := H.out.1.set_ k (.int .u8 ((UInt8.ofNat (v / 2 ^ (8 * k))).toNat : Int));have e : (bys (lowK n v k)).toArray.setIfInBounds k (.int .u8 ((UInt8.ofNat (v / 2 ^ (8 * k))).toNat : Int)) = (bys (lowK n v (k + 1))).toArray := by
      rw [HPS.out]; simp [bys, List.map_set]
     rw [e] at this;have e2 : ((UInt8.ofNat (v / 2 ^ (8 * k))).toNat : Int) = IntKind.u8.wrap ((v : Int) / 2 ^ (8 * k)) := by rw [← wrap_of]; simp
     rw [e2] at this;exact Lib.hid ⟨this, H.out.2.setCell (by have := HR.out; show _ ≤ R; omega) _⟩
    case measure => simp [intOf]; omega
  · obtain rfl : k = n := by omega
    have hlt' : ¬ (k : Int) < (k : Int) := by omega
    have hf := lowK_full k v;rw [hf] at H;clear hf;go_wp2_with fail;go_ret;exact ⟨by rw [HR.out]; rfl, by rw [HR.out]; exact H.out.1, H.out.2⟩
theorem mt_aw (v : Value) (w : World) : (method 558 195 v "pith/check.write").run Tryz.prog w = .ok (283, v) w := by kernel_rfl
theorem mt_as (v : Value) (w : World) : (method 558 195 v "pith/check.sum").run Tryz.prog w = .ok (282, v) w := by kernel_rfl
theorem mt_bw (v : Value) (w : World) : (method 558 198 v "pith/check.write").run Tryz.prog w = .ok (287, v) w := by kernel_rfl
theorem mt_bs (v : Value) (w : World) : (method 558 198 v "pith/check.sum").run Tryz.prog w = .ok (286, v) w := by kernel_rfl
theorem mt_hw (v : Value) (w : World) : (method 558 201 v "pith/check.write").run Tryz.prog w = .ok (292, v) w := by kernel_rfl
theorem mt_hs (v : Value) (w : World) : (method 558 201 v "pith/check.sum").run Tryz.prog w = .ok (291, v) w := by kernel_rfl
theorem mt_nw (v : Value) (w : World) : (method 558 194 v "pith/check.write").run Tryz.prog w = .ok (281, v) w := by kernel_rfl
theorem mt_ns (v : Value) (w : World) : (method 558 194 v "pith/check.sum").run Tryz.prog w = .ok (280, v) w := by kernel_rfl
theorem aWrite (g : Nat) (A : Option Addr) (m c : Nat) (l : List UInt8) (w : World) (hg : Blk w g 197 #[.int .u32 0]) (hI : In w A m l) (hl : LaidC w) :
 Calls Tryz.prog 283 #[.pointer (some ⟨g, 0, none⟩), .slice A m c] w fun e w' => e = .returned (.tuple #[]) ∧ Blk w' g 197 #[.int .u32 (crc32 l)] ∧ Fr (fun k => k = g) w w' := by
 have c0 := hg.one;have f0 := hg.frozen 0;have HG := Lib.hid hg;have HM := Lib.hid (More32_any A m c l w hI hl);obtain ⟨r, hr⟩ : ∃ r, crc32 l = r := ⟨_, rfl⟩;rw [hr] at HM ⊢;clear hg hI hl hr;go_enter Tryz.func283, Tryz.ntmps283;go_wp2_with fail;refine HM.out.mono ?_;rintro e w1 ⟨rfl, rfl⟩;go_wp2_with fail
 first | go_end0 | refine bodyPost_ret (results_none rfl _ _ _) rfl ?_
 exact ⟨rfl, HG.out.set_ 0 _, Fr.set1 (Fr.refl _ _) 0 _⟩
theorem bWrite (T : Nat → Int) (g : Nat) (A : Option Addr) (m c : Nat) (l : List UInt8) (w : World) (hg : Blk w g 200 #[.int .u64 0]) (hI : In w A m l) (hl : LaidC64 T w) :
 Calls Tryz.prog 287 #[.pointer (some ⟨g, 0, none⟩), .slice A m c] w fun e w' => e = .returned (.tuple #[]) ∧ Blk w' g 200 #[.int .u64 (crc64 T l)] ∧ Fr (fun k => k = g) w w' := by
 have c0 := hg.one;have f0 := hg.frozen 0;have HG := Lib.hid hg;have HM := Lib.hid (More64_any T A m c l w hI hl);obtain ⟨r, hr⟩ : ∃ r, crc64 T l = r := ⟨_, rfl⟩;rw [hr] at HM ⊢;clear hg hI hl hr;go_enter Tryz.func287, Tryz.ntmps287;go_wp2_with fail;refine HM.out.mono ?_;rintro e w1 ⟨rfl, rfl⟩;go_wp2_with fail
 first | go_end0 | refine bodyPost_ret (results_none rfl _ _ _) rfl ?_
 exact ⟨rfl, HG.out.set_ 0 _, Fr.set1 (Fr.refl _ _) 0 _⟩
theorem aSum (g v : Nat) (w : World) (hg : Blk w g 197 #[.int .u32 v]) (hv : v < 4294967296) :
 Calls Tryz.prog 282 #[.pointer (some ⟨g, 0, none⟩)] w fun e w' => e = .returned (.slice (some ⟨w.heap.size, 0, none⟩) 4 4) ∧ Blk w' w.heap.size 5 (bys (leN 4 v)).toArray ∧ Below w.heap.size w w' := by
 have c0 := hg.one;have HL := Lib.hid (low_any v 4 w (by decide) (by decide))
 have hw : IntKind.u64.wrap (v : Int) = (v : Int) := by rw [IntKind.wrap_u64]; omega
 clear hg;go_enter Tryz.func282, Tryz.ntmps282;go_wp2_with fail;refine HL.out.mono ?_;rintro e w1 ⟨rfl, h1, h2⟩;have H := Lib.hid (And.intro h1 h2);clear h1 h2;go_wp2_with fail;go_ret;exact ⟨rfl, H.out.1, H.out.2⟩
theorem bSum (g v : Nat) (w : World) (hg : Blk w g 200 #[.int .u64 v]) :
 Calls Tryz.prog 286 #[.pointer (some ⟨g, 0, none⟩)] w fun e w' => e = .returned (.slice (some ⟨w.heap.size, 0, none⟩) 8 8) ∧ Blk w' w.heap.size 5 (bys (leN 8 v)).toArray ∧ Below w.heap.size w w' := by
 have c0 := hg.one;have HL := Lib.hid (low_any v 8 w (by decide) (by decide))
 clear hg;go_enter Tryz.func286, Tryz.ntmps286;go_wp2_with fail;refine HL.out.mono ?_;rintro e w1 ⟨rfl, h1, h2⟩;have H := Lib.hid (And.intro h1 h2);clear h1 h2;go_wp2_with fail;go_ret;exact ⟨rfl, H.out.1, H.out.2⟩
def sh0 : ShS := ⟨shaFirst, List.replicate 64 0, 0⟩
theorem hWrite (R : Nat → Int) (g h : Nat) (A : Option Addr) (m c : Nat) (l : List UInt8) (w : World) (hg : Blk w g 205 #[.pointer (some ⟨h, 0, none⟩)]) (hs : ShX h sh0 w) (hI : In w A m l) (hA : 0 < m → ∀ ad, A = some ad → ad.block ≠ h) (hR : LaidR R w) (hne : h ≠ 19) :
 Calls Tryz.prog 292 #[.pointer (some ⟨g, 0, none⟩), .slice A m c] w fun e w' => e = .returned (.tuple #[]) ∧ ShX h (shW R sh0 l) w' ∧ Fr (fun k => k = h) w w' := by
 have c0 := hg.one;have HW := Lib.hid (Write_sha R h sh0 A m c l w hs hI hA hR hne (by show 0 + m ≤ _; have := hI.2.2; omega))
 clear hg hs hI hA hR;go_enter Tryz.func292, Tryz.ntmps292;go_wp2_with fail;refine HW.out.mono ?_;rintro e w1 ⟨rfl, h1, h2⟩;have H := Lib.hid (And.intro h1 h2);clear h1 h2;go_wp2_with fail
 first | go_end0 | refine bodyPost_ret (results_none rfl _ _ _) rfl ?_
 exact ⟨rfl, H.out.1, H.out.2⟩
theorem hSum (R : Nat → Int) (g h : Nat) (x : ShS) (w : World) (hg : Blk w g 205 #[.pointer (some ⟨h, 0, none⟩)]) (hs : ShX h x w) (hR : LaidR R w) (hn : x.n ≤ 1152921504606846000) :
 Calls Tryz.prog 291 #[.pointer (some ⟨g, 0, none⟩)] w fun e w' => ∃ A c, e = .returned (.slice A 32 c) ∧ In w' A 32 (shaSum R x) ∧ Below w.heap.size w w' ∧ ∀ ad, A = some ad → w.heap.size ≤ ad.block := by
 have c0 := hg.one;have HS := Lib.hid (Sum_sha R h x w hs hR hn);have hl32 : (shaSum R x).length = 32 := by simp only [shaSum]; exact outN_len _ _
 obtain ⟨O, hO⟩ : ∃ O, shaSum R x = O := ⟨_, rfl⟩;rw [hO] at HS hl32 ⊢;have hsz : (bys O).toArray.size = 32 := by rw [List.size_toArray, bys_length, hl32]
 have hall : (bys O).toArray.all (·.oneCell') = true := by rw [Array.all_eq_true_iff_forall_mem]; intro u hu; exact bys_one O u (by simpa using hu)
 obtain ⟨D, hD⟩ : ∃ D, (bys O).toArray = D := ⟨_, rfl⟩;rw [hD] at HS hsz hall;have s435 : (Tryz.prog.info? 435).map (·.size) = some D.size := by rw [hsz]; kernel_rfl
 have HSZ := Lib.hid (And.intro s435 (And.intro hsz hall));have HD := Lib.hid (And.intro hD hl32);clear hg hs hR hO hsz hall hD s435 hl32;go_enter Tryz.func291, Tryz.ntmps291;go_wp2_with fail;refine HS.out.mono ?_;rintro e w1 ⟨rfl, hb1⟩;have HB1 := Lib.hid hb1;clear hb1;go_upto_region 2 with (refine wpList_store_row rfl 435 (.tmp 3) (.tmp 8) rfl w1.heap.size D rfl rfl 435 (bys (List.replicate 32 0)).toArray (Blk.new_at rfl) HSZ.out.1 (by rw [HSZ.out.2.1]; simp [bys]) HSZ.out.2.2 ?_)
 obtain ⟨S, hS⟩ : ∃ z, w1.heap.size = z := ⟨_, rfl⟩;obtain ⟨w2, hw2⟩ : ∃ w2, (w1.alloc (.cells #[.int .u8 0, .int .u8 0, .int .u8 0, .int .u8 0, .int .u8 0, .int .u8 0, .int .u8 0, .int .u8 0, .int .u8 0, .int .u8 0, .int .u8 0, .int .u8 0, .int .u8 0, .int .u8 0, .int .u8 0, .int .u8 0, .int .u8 0, .int .u8 0, .int .u8 0, .int .u8 0, .int .u8 0, .int .u8 0, .int .u8 0, .int .u8 0, .int .u8 0, .int .u8 0, .int .u8 0, .int .u8 0, .int .u8 0, .int .u8 0, .int .u8 0, .int .u8 0] 435)).setRow w1.heap.size D = w2 := ⟨_, rfl⟩
 have hk2 : Blk w2 S 435 D := by rw [← hw2, ← hS]; exact setRow_heap _ _ _ _ _ _ (Blk.new _ _ _)
 have hb2 : Below w1.heap.size w1 w2 := by
  rw [← hw2];exact ((Below.refl _ _).alloc (Nat.le_refl _) _).trans ⟨rfl, rfl, rfl, by simp [World.setRow], fun k hk => setRow_other _ _ k D (by omega)⟩
 rw [hw2, hS];have hi2 : In w2 (some ⟨S, 0, none⟩) 32 O := by
  have := in_blk (show Blk w2 S 435 (bys O).toArray by rw [HD.out.1]; exact hk2) (by rw [HD.out.2]; decide)
  rw [HD.out.2] at this;exact this
 have HI2 := Lib.hid hi2;have HB2 := Lib.hid (bup HB1.out hb2);clear hw2 hS hk2 hb2 hi2;go_wp2_with (with_reducible refine wpList_dup rfl _ _ rfl rfl (some ⟨S, 0, none⟩) 32 32 O rfl HI2.out ?_);intro A2 c2 w3 hF;have HF := Lib.hid hF;clear hF;go_wp2_with fail;go_ret;exact ⟨A2, c2, rfl, Fresh.in_ HF.out (by decide), bup HB2.out HF.out.2, fun ad had => Nat.le_trans HB2.out.size (own_lt HF.out.1 (own_addr HF.out.1 had)).1⟩
structure LaidS (T R : Nat → Int) (w : World) : Prop where
 c : LaidC w
 t : LaidC64 T w
 r : LaidR R w
 f : LaidF w
 z : LaidZ w
theorem LaidS.below {T R : Nat → Int} {w w' : World} (h : LaidS T R w) (hb : Below w.heap.size w w') : LaidS T R w' := ⟨h.c.below hb, h.t.below hb, h.r.below hb, h.f.below hb, h.z.below hb⟩
def ckSum (T R : Nat → Int) (k : Nat) (d : List UInt8) : List UInt8 :=
 if k = 1 then leN 4 (crc32 d) else if k = 4 then leN 8 (crc64 T d) else if k = 10 then shaSum R (shW R sh0 d) else []
theorem CNew_any (k : Nat) (w : World) (hf : LaidF w) (hk : kindOk k) :
 Calls Tryz.prog 56 #[.int .i64 k] w fun e w' => ∃ S t x, e = .returned (.tuple #[.pointer (some ⟨S, 0, none⟩), .int .i64 0]) ∧ Blk w' S 164 #[.iface t x] ∧ Mk k w.heap.size (.iface t x) w' ∧ Below w.heap.size w w' ∧ w.heap.size ≤ S := by
 have HR := Lib.hid (ckRead_any k w hf);rw [show ckReadE k = 0 from if_pos hk] at HR
 have HF := Lib.hid hf;have HK := Lib.hid hk;clear hf hk;go_enter Tryz.func56, Tryz.ntmps56;go_wp2_with fail;refine HR.out.mono ?_;rintro e w1 ⟨rfl, hb1⟩;have HB1 := Lib.hid hb1;have HM := Lib.hid (made_yes k w1 (HF.out.below hb1) HK.out);clear hb1;go_wp2_with fail;refine HM.out.mono ?_;rintro e w2 ⟨t, x, rfl, hm, hb2⟩;have HM2 := Lib.hid hm;have HB2 := Lib.hid (bup HB1.out hb2);clear hm hb2 HM;go_wp2_with fail
 go_ret2
 have hal : Below w2.heap.size w2 (w2.alloc (.cells #[.iface t x] 164)) := (Below.refl _ _).alloc (Nat.le_refl _) _;have hsz : w.heap.size ≤ w1.heap.size := HB1.out.size;refine ⟨w2.heap.size, t, x, rfl, Blk.new _ _ _, ?_, bmk_ HB2.out _, HB2.out.size⟩;rcases HM2.out with ⟨h0, h1⟩ | ⟨h0, g, hg, h1, h2⟩ | ⟨h0, g, hg, h1, h2⟩ | ⟨h0, g, h, hg, hh, h1, h2, h3⟩
 · exact .inl ⟨h0, h1⟩
 · exact .inr (.inl ⟨h0, g, by omega, h1, h2.below hal⟩)
 · exact .inr (.inr (.inl ⟨h0, g, by omega, h1, h2.below hal⟩))
 · exact .inr (.inr (.inr ⟨h0, g, h, by omega, by omega, h1, h2.below hal, h3.below hal⟩))
def Wk (T R : Nat → Int) (l : List UInt8) (k : Nat) (v : Value) (w : World) : Prop :=
 (k = 0 ∧ v = .iface 194 (.agg #[])) ∨
 (k = 1 ∧ ∃ g, v = .iface 195 (.pointer (some ⟨g, 0, none⟩)) ∧ Blk w g 197 #[.int .u32 (crc32 l)]) ∨
 (k = 4 ∧ ∃ g, v = .iface 198 (.pointer (some ⟨g, 0, none⟩)) ∧ Blk w g 200 #[.int .u64 (crc64 T l)]) ∨
 (k = 10 ∧ ∃ g h, v = .iface 201 (.pointer (some ⟨g, 0, none⟩)) ∧ Blk w g 205 #[.pointer (some ⟨h, 0, none⟩)] ∧ ShX h (shW R sh0 l) w)
theorem nWrite (A : Option Addr) (m c : Nat) (w : World) :
 Calls Tryz.prog 281 #[.agg #[], .slice A m c] w fun e w' => e = .returned (.tuple #[]) ∧ Below w.heap.size w w' := by
 go_enter Tryz.func281, Tryz.ntmps281;go_wp2_with fail
 first | go_end0 | refine bodyPost_ret (results_none rfl _ _ _) rfl ?_
 exact ⟨rfl, (Below.refl _ _).alloc (Nat.le_refl _) _⟩
theorem nSum (w : World) : Calls Tryz.prog 280 #[.agg #[]] w fun e w' => e = .returned (.slice none 0 0) ∧ Below w.heap.size w w' := by
 go_enter Tryz.func280, Tryz.ntmps280;go_wp2_with fail;go_ret;exact ⟨rfl, (Below.refl _ _).alloc (Nat.le_refl _) _⟩
theorem CWrite_any (T R : Nat → Int) (k B S : Nat) (t : TypeId) (x : Value) (A : Option Addr) (m c : Nat) (l : List UInt8) (w : World) (hS : Blk w S 164 #[.iface t x]) (hM : Mk k B (.iface t x) w) (hI : In w A m l) (hA : 0 < m → ∀ ad, A = some ad → ad.block < B) (hl : LaidS T R w) (hB : 19 < B) (hBw : B ≤ w.heap.size) :
 Calls Tryz.prog 57 #[.pointer (some ⟨S, 0, none⟩), .slice A m c] w fun e w' => e = .returned (.tuple #[]) ∧ Blk w' S 164 #[.iface t x] ∧ Wk T R l k (.iface t x) w' ∧ Below B w w' := by
 have c0 := hS.one;have HS := Lib.hid hS;rcases hM with ⟨rfl, hv⟩ | ⟨rfl, g, hg, hv, h2⟩ | ⟨rfl, g, hg, hv, h2⟩ | ⟨rfl, g, h, hg, hh, hv, h2, h3⟩
 · injection hv with e1 e2;subst e1 e2;have hm := mt_nw (.agg #[]);have HW := Lib.hid (nWrite A m c w)
   skip
   clear hS hI hA hl;go_enter Tryz.func57, Tryz.ntmps57;go_wp2_with fail;refine HW.out.mono ?_;rintro e w1 ⟨rfl, hb⟩;have HB := Lib.hid hb;clear hb HW;go_wp2_with fail
   first | go_end0 | refine bodyPost_ret (results_none rfl _ _ _) rfl ?_
   exact ⟨rfl, HS.out.below HB.out, .inl ⟨rfl, rfl⟩, HB.out.mono hBw⟩
 · injection hv with e1 e2;subst e1 e2;have hm := mt_aw (.pointer (some ⟨g, 0, none⟩));have HW := Lib.hid (aWrite g A m c l w h2 hI hl.c);have hne : ¬ S = g := BT.ne ⟨_, hS⟩ ⟨_, h2⟩ (by decide)
   clear h2;clear hS hI hA hl;go_enter Tryz.func57, Tryz.ntmps57;go_wp2_with fail;refine HW.out.mono ?_;rintro e w1 ⟨rfl, h4, hf⟩;have H4 := Lib.hid (And.intro h4 hf);clear h4 hf HW;go_wp2_with fail
   first | go_end0 | refine bodyPost_ret (results_none rfl _ _ _) rfl ?_
   exact ⟨rfl, HS.out.fr H4.out.2 hne, .inr (.inl ⟨rfl, g, rfl, H4.out.1⟩), H4.out.2.below hBw (fun k hk => by have hk : k = g := hk; omega)⟩
 · injection hv with e1 e2;subst e1 e2;have hm := mt_bw (.pointer (some ⟨g, 0, none⟩));have HW := Lib.hid (bWrite T g A m c l w h2 hI hl.t);have hne : ¬ S = g := BT.ne ⟨_, hS⟩ ⟨_, h2⟩ (by decide)
   clear h2;clear hS hI hA hl;go_enter Tryz.func57, Tryz.ntmps57;go_wp2_with fail;refine HW.out.mono ?_;rintro e w1 ⟨rfl, h4, hf⟩;have H4 := Lib.hid (And.intro h4 hf);clear h4 hf HW;go_wp2_with fail
   first | go_end0 | refine bodyPost_ret (results_none rfl _ _ _) rfl ?_
   exact ⟨rfl, HS.out.fr H4.out.2 hne, .inr (.inr (.inl ⟨rfl, g, rfl, H4.out.1⟩)), H4.out.2.below hBw (fun k hk => by have hk : k = g := hk; omega)⟩
 · injection hv with e1 e2;subst e1 e2;have hm := mt_hw (.pointer (some ⟨g, 0, none⟩));have HW := Lib.hid (hWrite R g h A m c l w h2 h3 hI (fun h0 ad had => by have := hA h0 ad had; omega) hl.r (by omega))
   have hne : ¬ S = h := BT.ne ⟨_, hS⟩ ⟨_, h3.b⟩ (by decide)
   have hgh : ¬ g = h := BT.ne ⟨_, h2⟩ ⟨_, h3.b⟩ (by decide)
   have HG := Lib.hid h2;clear h2 h3;clear hS hI hA hl;go_enter Tryz.func57, Tryz.ntmps57;go_wp2_with fail;refine HW.out.mono ?_;rintro e w1 ⟨rfl, h4, hf⟩;have H4 := Lib.hid (And.intro h4 hf);clear h4 hf HW;go_wp2_with fail
   first | go_end0 | refine bodyPost_ret (results_none rfl _ _ _) rfl ?_
   exact ⟨rfl, HS.out.fr H4.out.2 hne, .inr (.inr (.inr ⟨rfl, g, h, rfl, HG.out.fr H4.out.2 hgh, H4.out.1⟩)), H4.out.2.below hBw (fun k hk => by have hk : k = h := hk; omega)⟩
theorem CSum1_any (T R : Nat → Int) (k S : Nat) (t : TypeId) (x : Value) (l : List UInt8) (w : World) (hS : Blk w S 164 #[.iface t x]) (hM : Wk T R l k (.iface t x) w) (hl : LaidS T R w) (hn : l.length ≤ 140737488351232) :
 Calls Tryz.prog 58 #[.pointer (some ⟨S, 0, none⟩)] w fun e w' => ∃ A n c, e = .returned (.slice A n c) ∧ In w' A n (ckSum T R k l) ∧ Below w.heap.size w w' ∧ ∀ ad, A = some ad → w.heap.size ≤ ad.block := by
 have c0 := hS.one;rcases hM with ⟨rfl, hv⟩ | ⟨rfl, g, hv, h2⟩ | ⟨rfl, g, hv, h2⟩ | ⟨rfl, g, h, hv, h2, h3⟩
 · injection hv with e1 e2;subst e1 e2;have hm := mt_ns (.agg #[]);have HC := Lib.hid (show ckSum T R 0 l = [] from rfl)
   have HW := Lib.hid (nSum w);clear hS;go_enter Tryz.func58, Tryz.ntmps58;go_wp2_with fail;refine HW.out.mono ?_;rintro e w1 ⟨rfl, hb⟩;have HB := Lib.hid hb;clear hb;go_wp2_with fail;go_ret;exact ⟨none, 0, 0, rfl, by rw [HC.out]; exact In.nil _, HB.out, fun ad had => by cases had⟩
 · injection hv with e1 e2;subst e1 e2;have hm := mt_as (.pointer (some ⟨g, 0, none⟩));have HC := Lib.hid (show ckSum T R 1 l = leN 4 (crc32 l) from rfl)
   have HW := Lib.hid (aSum g (crc32 l) w h2 (crc32_lt l));clear hS;go_enter Tryz.func58, Tryz.ntmps58;go_wp2_with fail;refine HW.out.mono ?_;rintro e w1 ⟨rfl, hk, hb⟩;have HB := Lib.hid hb;have hi := in_blk hk (by rw [leN_length]; decide)
   rw [leN_length] at hi;have HI := Lib.hid hi;clear hb hk hi;go_wp2_with fail;go_ret;exact ⟨_, 4, 4, rfl, by rw [HC.out]; exact HI.out, HB.out, fun ad had => by injection had with had; rw [← had]; exact Nat.le_refl _⟩
 · injection hv with e1 e2;subst e1 e2;have hm := mt_bs (.pointer (some ⟨g, 0, none⟩));have HC := Lib.hid (show ckSum T R 4 l = leN 8 (crc64 T l) from rfl)
   have HW := Lib.hid (bSum g (crc64 T l) w h2);clear hS;go_enter Tryz.func58, Tryz.ntmps58;go_wp2_with fail;refine HW.out.mono ?_;rintro e w1 ⟨rfl, hk, hb⟩;have HB := Lib.hid hb;have hi := in_blk hk (by rw [leN_length]; decide)
   rw [leN_length] at hi;have HI := Lib.hid hi;clear hb hk hi;go_wp2_with fail;go_ret;exact ⟨_, 8, 8, rfl, by rw [HC.out]; exact HI.out, HB.out, fun ad had => by injection had with had; rw [← had]; exact Nat.le_refl _⟩
 · injection hv with e1 e2;subst e1 e2;have hm := mt_hs (.pointer (some ⟨g, 0, none⟩));have HC := Lib.hid (show ckSum T R 10 l = shaSum R (shW R sh0 l) from rfl)
   have HW := Lib.hid (hSum R g h (shW R sh0 l) w h2 h3 hl.r (by rw [shW_n]; show 0 + l.length ≤ _; omega))
   clear hS;go_enter Tryz.func58, Tryz.ntmps58;go_wp2_with fail;refine HW.out.mono ?_;rintro e w1 ⟨A, c, rfl, hi, hb⟩;have HB := Lib.hid (And.intro hi hb);clear hi hb;go_wp2_with fail;go_ret;exact ⟨A, 32, c, rfl, by rw [HC.out]; exact HB.out.1, HB.out.2⟩
theorem Equal_any (A1 A2 : Option Addr) (n1 c1 n2 c2 : Nat) (l1 l2 : List UInt8) (w : World) (h1 : In w A1 n1 l1) (h2 : In w A2 n2 l2) :
 Calls Tryz.prog 116 #[.slice A1 n1 c1, .slice A2 n2 c2] w fun e w' => e = .returned (.bool (decide (l1 = l2))) ∧ w' = w := by
 have k1 := conv_rd (c := c1) h1.1;have k2 := conv_rd (c := c2) h2.1;have hb : ((strOf l1).toList == (strOf l2).toList) = decide (l1 = l2) := by
  rw [ByteArray.toList_eq, ByteArray.toList_eq, Bool.eq_iff_iff, beq_iff_eq, decide_eq_true_iff];exact Iff.rfl
 obtain ⟨r, hr⟩ : ∃ r, decide (l1 = l2) = r := ⟨_, rfl⟩;rw [hr] at hb ⊢;obtain ⟨s1, hs1⟩ : ∃ s, strOf l1 = s := ⟨_, rfl⟩;obtain ⟨s2, hs2⟩ : ∃ s, strOf l2 = s := ⟨_, rfl⟩;rw [hs1] at k1 hb;rw [hs2] at k2 hb;clear h1 h2 hr hs1 hs2;go_enter Tryz.func116, Tryz.ntmps116;go_wp2_with fail;go_ret;exact ⟨rfl, rfl⟩
theorem ckSum_any (T R : Nat → Int) (k g c0 : Nat) (A : Option Addr) (m c : Nat) (l : List UInt8) (w : World) (hg : w.cell? ⟨g, 0, none⟩ = some (.slice A m c)) (hI : In w A m l) (hl : LaidS T R w) (hk : kindOk k) :
 Calls Tryz.prog 33 #[.int .i64 k, .slice (some ⟨g, 0, none⟩) 1 c0] w fun e w' => ∃ A n c, e = .returned (.tuple #[.slice A n c, .int .i64 0]) ∧ In w' A n (ckSum T R k l) ∧ Below w.heap.size w w' ∧ ∀ ad, A = some ad → w.heap.size ≤ ad.block := by
 have HI := Lib.hid hI;have HL := Lib.hid hl;have hgl := block_lt_of_cell hg;have HN := Lib.hid (CNew_any k w hl.f hk);have HC := Lib.hid hg;clear hI hl hk hg;go_enter Tryz.func33, Tryz.ntmps33;go_wp2_with fail;refine HN.out.mono ?_;rintro e w1 ⟨S, t, x, rfl, hS, hM, hb, hSo⟩;have hc1 : w1.cell? ⟨g, 0, none⟩ = some (.slice A m c) := (hb.cell (p := ⟨g, 0, none⟩) hgl).trans HC.out;have HW := Lib.hid (CWrite_any T R k w.heap.size S t x A m c l w1 hS hM (HI.out.below hb) (fun h0 ad had => HI.out.2.1 h0 ad had) (HL.out.below hb) HL.out.r.1 hb.size)
 have HB1 := Lib.hid hb;clear hS hM hb HN HC;go_wp2_with fail;refine wp_loop_rounds 2 ?_;rw [rounds_succ];go_wp2_with fail;refine HW.out.mono ?_;rintro e w2 ⟨rfl, hS2, hW2, hb2⟩;have HB2 := Lib.hid (HB1.out.trans hb2);have HS := Lib.hid (CSum1_any T R k S t x l w2 hS2 hW2 (HL.out.below HB2.out) (by have := HI.out.len; have := HI.out.2.2; omega))
 clear hS2 hW2 hb2 HW hc1;go_wp2_with fail;rw [rounds_succ];go_wp2_with fail;refine HS.out.mono ?_;rintro e w3 ⟨A3, n3, c3, rfl, hi3, hb3, hfr⟩;have H3 := Lib.hid (And.intro hi3 (And.intro (bup HB2.out hb3) (fun ad had => Nat.le_trans HB2.out.size (hfr ad had))))
 clear hi3 hb3 hfr HS;go_wp2_with fail
 go_ret2
 exact ⟨A3, n3, c3, rfl, H3.out.1, H3.out.2⟩
def sameE (want sum : List UInt8) : Nat := if want.length ≠ sum.length then 2 else if want ≠ sum then 3 else 0
theorem Same_any (T R : Nat → Int) (k : Nat) (A1 A2 : Option Addr) (n1 c1 n2 c2 : Nat) (d s : List UInt8) (w : World) (h1 : In w A1 n1 d) (h2 : In w A2 n2 s) (hl : LaidS T R w) (hk : kindOk k) :
 Calls Tryz.prog 90 #[.int .i64 k, .slice A1 n1 c1, .slice A2 n2 c2] w fun e w' => e = .returned (.int .i64 (sameE (ckSum T R k d) s)) ∧ Below w.heap.size w w' := by
 obtain ⟨W, hW⟩ : ∃ W, w.heap.size = W := ⟨_, rfl⟩;obtain ⟨w1, hw1⟩ : ∃ w1, w.alloc (.cells #[.slice A1 n1 c1] 22) = w1 := ⟨_, rfl⟩;have hb1 : Below w.heap.size w w1 := by rw [← hw1]; exact (Below.refl _ _).alloc (Nat.le_refl _) _
 have hc1 : w1.cell? ⟨W, 0, none⟩ = some (.slice A1 n1 c1) := by rw [← hw1, ← hW]; exact (Blk.new _ _ _).cell 0
 have HS := Lib.hid (ckSum_any T R k W 1 A1 n1 c1 d w1 hc1 (h1.below hb1) (hl.below hb1) hk);have HW := Lib.hid (And.intro hw1 hW);have H2 := Lib.hid (h2.below hb1);have HB1 := Lib.hid hb1;obtain ⟨q, hq⟩ : ∃ q, ckSum T R k d = q := ⟨_, rfl⟩;rw [hq] at HS ⊢;clear hw1 hb1 hc1 hW h1 h2 hl hk hq;obtain ⟨E, hE⟩ : ∃ E, sameE q s = E := ⟨_, rfl⟩;rw [hE];have HE := Lib.hid (show (if q.length ≠ s.length then 2 else if q ≠ s then 3 else 0) = E from hE)
 clear hE;go_enter Tryz.func90, Tryz.ntmps90;go_wp2_with fail;rw [HW.out.1, HW.out.2];refine HS.out.mono ?_;rintro e w2 ⟨A3, n3, c3, rfl, hi, hb, _⟩;have HB2 := Lib.hid (bup HB1.out hb);have HEq := Lib.hid (Equal_any A3 A2 n3 c3 n2 c2 q s w2 hi (H2.out.below hb));have hl3 := hi.len;have hl2 := H2.out.len;have HE2 := Lib.hid (show (if n3 ≠ n2 then 2 else if q ≠ s then 3 else 0) = E by have := HE.out; rw [hl3, hl2] at this; exact this)
 clear hi hb hl3 hl2 HS HE;by_cases hn : n3 = n2
 · have g1 : ((n3 : Int) != (n2 : Int)) = false := by rw [bne_eq_false_iff_eq]; omega
   have g2 : (n3 != n2) = false := by rw [bne_eq_false_iff_eq]; exact hn
   have HE3 := Lib.hid (by have := HE2.out; rw [if_neg (by omega)] at this; exact this)
   clear hn HE2;by_cases hqs : q = s
   · have HE4 := Lib.hid (by have := HE3.out; rw [if_neg (by simpa using hqs)] at this; exact this)
     rw [decide_eq_true hqs] at HEq;clear hqs HE3;go_wp2_with fail;refine HEq.out.mono ?_;rintro e w3 ⟨rfl, rfl⟩;go_wp2_with fail;go_ret;exact ⟨by rw [← HE4.out]; rfl, HB2.out⟩
   · have HE4 := Lib.hid (by have := HE3.out; rw [if_pos hqs] at this; exact this)
     rw [decide_eq_false hqs] at HEq;clear hqs HE3;go_wp2_with fail;refine HEq.out.mono ?_;rintro e w3 ⟨rfl, rfl⟩;go_wp2_with fail;go_ret;exact ⟨by rw [← HE4.out]; rfl, HB2.out⟩
 · have g1 : ((n3 : Int) != (n2 : Int)) = true := by rw [bne_iff_ne]; omega
   have g2 : (n3 != n2) = true := by rw [bne_iff_ne]; exact hn
   have HE3 := Lib.hid (by have := HE2.out; rw [if_pos hn] at this; exact this)
   clear hn HE2;go_wp2_with fail;go_ret;exact ⟨by rw [← HE3.out]; rfl, HB2.out⟩
end Go.Proofs.YtcjehjdehdoaeaaGreatDoor
