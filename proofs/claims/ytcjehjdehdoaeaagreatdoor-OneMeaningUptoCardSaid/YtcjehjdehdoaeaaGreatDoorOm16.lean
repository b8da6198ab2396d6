/-
  Laws on the way to the claim (OqC OqD). Conditions: those that each theorem states.
-/
import Derived.Test.YtcjehjdehdoaeaaGreatDoorOm15
set_option linter.unusedVariables false
set_option linter.unusedSimpArgs false
set_option maxRecDepth 1000000
set_option maxHeartbeats 16000000
namespace Go.Proofs.YtcjehjdehdoaeaaGreatDoor
open Go.RowKit
def lowGo (l : List UInt8) (i : Nat) : Nat → Int
 | 0 => 0
 | k + 1 => bits .or .u64 (lowGo l i k) (IntKind.u64.wrap (IntKind.u64.wrap ((l.getD (i + k) 0).toNat : Int) * 2 ^ (8 * k)))
def highGo (l : List UInt8) (i : Nat) : Nat → Int
 | 0 => 0
 | k + 1 => bits .or .u64 (IntKind.u64.wrap (highGo l i k * 256)) (IntKind.u64.wrap ((l.getD (i + k) 0).toNat : Int))
theorem Low_no (b g i n : Nat) (l : List UInt8) (w : World) (h : Wr b g i l w) (hn : 1 ≤ n ∧ n ≤ 8) (hlt : l.length - i < n) :
 Calls Tryz.prog 73 #[.pointer (some ⟨b, 0, none⟩), .int .i64 n] w fun e w' => e = .returned (.tuple #[.int .u64 0, .int .i64 1]) ∧ ∃ n, w' = w.drewN n := by
 have HN := Lib.hid (number_any b g i n l w h hn);rw [show numE (l.length - i) n = 1 from if_pos hlt] at HN
 clear h hn hlt;go_enter Tryz.func73, Tryz.ntmps73;go_wp2_with fail;refine HN.out.mono ?_;rintro e w1 ⟨rfl, k, rfl⟩;go_wp2_with fail
 go_ret2
 exact ⟨rfl, _, rfl⟩
theorem High_no (b g i n : Nat) (l : List UInt8) (w : World) (h : Wr b g i l w) (hn : 1 ≤ n ∧ n ≤ 8) (hlt : l.length - i < n) :
 Calls Tryz.prog 216 #[.pointer (some ⟨b, 0, none⟩), .int .i64 n] w fun e w' => e = .returned (.tuple #[.int .u64 0, .int .i64 1]) ∧ ∃ n, w' = w.drewN n := by
 have HN := Lib.hid (number_any b g i n l w h hn);rw [show numE (l.length - i) n = 1 from if_pos hlt] at HN
 clear h hn hlt;go_enter Tryz.func216, Tryz.ntmps216;go_wp2_with fail;refine HN.out.mono ?_;rintro e w1 ⟨rfl, k, rfl⟩;go_wp2_with fail
 go_ret2
 exact ⟨rfl, _, rfl⟩
theorem Low_yes (b g i n : Nat) (l : List UInt8) (w : World) (h : Wr b g i l w) (hn : 1 ≤ n ∧ n ≤ 8) (hlt : ¬ l.length - i < n) :
 Calls Tryz.prog 73 #[.pointer (some ⟨b, 0, none⟩), .int .i64 n] w fun e w' => e = .returned (.tuple #[.int .u64 (lowGo l i n), .int .i64 0]) ∧ Wr b g (i + n) l w' ∧ Fr (fun x => x = b) w w' := by
 have HN := Lib.hid (number_any b g i n l w h hn);rw [show numE (l.length - i) n = 0 from if_neg hlt] at HN
 have hle : i + n ≤ l.length := by omega
 have HX := Lib.hid (fun k => next_any b g i n l (w.drewN k) (h.below (below_drewN (Below.refl _ _) k)) hn.1 hle)
 have HLE := Lib.hid hle;have hn8 : n ≤ 8 := hn.2;obtain ⟨m, hm⟩ : ∃ m, l.length - i = m := ⟨_, rfl⟩;have hnm : n ≤ m := by omega
 rw [hm] at HX;clear h hn hlt hle hm;go_enter Tryz.func73, Tryz.ntmps73;go_wp2_with fail;refine HN.out.mono ?_;rintro e w1 ⟨rfl, k, rfl⟩;go_wp2_with fail;refine (HX.out k).mono ?_;rintro e w2 ⟨rfl, h2, hf2⟩;have H2 := Lib.hid h2;have F2 := Lib.hid (((Fr.refl (fun x => x = b) w).drewN k).trans hf2)
 clear h2 hf2 HN HX;go_wp2_with fail
 go_loopw [7, 20] (fun s7 s20 wr => ∃ j : Nat, s20 = .int .i64 (j : Int) ∧ j ≤ n ∧ s7 = .int .u64 (lowGo l i j) ∧ wr = w2) (fun _ s20 _ => n - (intOf s20).toNat)
 case atStart => exact ⟨0, rfl, Nat.zero_le _, rfl, rfl⟩
 case round =>
  obtain ⟨j, rfl, hj, rfl, rfl⟩ := hrel;by_cases hlt : j < n
  · have hlt' : (j : Int) < (n : Int) := by omega
    obtain ⟨z, hz⟩ : ∃ z, l[i + j]? = some z := ⟨_, List.getElem?_eq_getElem (by have := HLE.out; omega)⟩
    have c := H2.out.cell hz;have HG := Lib.hid (show lowGo l i (j + 1) = bits .or .u64 (lowGo l i j) (IntKind.u64.wrap (IntKind.u64.wrap (z.toNat : Int) * 2 ^ (8 * j))) by rw [lowGo]; simp [List.getD, hz])
    obtain ⟨v, hv⟩ : ∃ v, lowGo l i j = v := ⟨_, rfl⟩;rw [hv] at HG ⊢;have hj7 : j ≤ 7 := by omega
    clear hz hv;go_wp2_with fail
    go_roundw
    case rel => exact ⟨j + 1, by go_num, by omega, by rw [HG.out], trivial⟩
    case measure => simp [intOf]; omega
  · obtain rfl : j = n := by omega
    have hlt' : ¬ (j : Int) < (j : Int) := by omega
    obtain ⟨v, hv⟩ : ∃ v, lowGo l i j = v := ⟨_, rfl⟩;rw [hv];have HV := Lib.hid hv;clear hv;go_wp2_with fail
    go_ret2
    exact ⟨by rw [HV.out]; rfl, H2.out, F2.out⟩
theorem High_yes (b g i n : Nat) (l : List UInt8) (w : World) (h : Wr b g i l w) (hn : 1 ≤ n ∧ n ≤ 8) (hlt : ¬ l.length - i < n) :
 Calls Tryz.prog 216 #[.pointer (some ⟨b, 0, none⟩), .int .i64 n] w fun e w' => e = .returned (.tuple #[.int .u64 (highGo l i n), .int .i64 0]) ∧ Wr b g (i + n) l w' ∧ Fr (fun x => x = b) w w' := by
 have HN := Lib.hid (number_any b g i n l w h hn);rw [show numE (l.length - i) n = 0 from if_neg hlt] at HN
 have hle : i + n ≤ l.length := by omega
 have HX := Lib.hid (fun k => next_any b g i n l (w.drewN k) (h.below (below_drewN (Below.refl _ _) k)) hn.1 hle)
 have HLE := Lib.hid hle;have hn8 : n ≤ 8 := hn.2;obtain ⟨m, hm⟩ : ∃ m, l.length - i = m := ⟨_, rfl⟩;have hnm : n ≤ m := by omega
 rw [hm] at HX;clear h hn hlt hle hm;go_enter Tryz.func216, Tryz.ntmps216;go_wp2_with fail;refine HN.out.mono ?_;rintro e w1 ⟨rfl, k, rfl⟩;go_wp2_with fail;refine (HX.out k).mono ?_;rintro e w2 ⟨rfl, h2, hf2⟩;have H2 := Lib.hid h2;have F2 := Lib.hid (((Fr.refl (fun x => x = b) w).drewN k).trans hf2)
 clear h2 hf2 HN HX;go_wp2_with fail
 go_loopw [7, 20] (fun s7 s20 wr => ∃ j : Nat, s20 = .int .i64 (j : Int) ∧ j ≤ n ∧ s7 = .int .u64 (highGo l i j) ∧ wr = w2) (fun _ s20 _ => n - (intOf s20).toNat)
 case atStart => exact ⟨0, rfl, Nat.zero_le _, rfl, rfl⟩
 case round =>
  obtain ⟨j, rfl, hj, rfl, rfl⟩ := hrel;by_cases hlt : j < n
  · have hlt' : (j : Int) < (n : Int) := by omega
    obtain ⟨z, hz⟩ : ∃ z, l[i + j]? = some z := ⟨_, List.getElem?_eq_getElem (by have := HLE.out; omega)⟩
    have c := H2.out.cell hz;have HG := Lib.hid (show highGo l i (j + 1) = bits .or .u64 (IntKind.u64.wrap (highGo l i j * 256)) (IntKind.u64.wrap (z.toNat : Int)) by rw [highGo]; simp [List.getD, hz])
    obtain ⟨v, hv⟩ : ∃ v, highGo l i j = v := ⟨_, rfl⟩;rw [hv] at HG ⊢;have hj7 : j ≤ 7 := by omega
    clear hz hv;go_wp2_with fail
    go_roundw
    case rel => exact ⟨j + 1, by go_num, by omega, by rw [HG.out], trivial⟩
    case measure => simp [intOf]; omega
  · obtain rfl : j = n := by omega
    have hlt' : ¬ (j : Int) < (j : Int) := by omega
    obtain ⟨v, hv⟩ : ∃ v, highGo l i j = v := ⟨_, rfl⟩;rw [hv];have HV := Lib.hid hv;clear hv;go_wp2_with fail
    go_ret2
    exact ⟨by rw [HV.out]; rfl, H2.out, F2.out⟩
theorem Zeros_no (b g i n : Nat) (l : List UInt8) (w : World) (h : Wr b g i l w) (hlt : l.length - i < n) :
 Calls Tryz.prog 72 #[.pointer (some ⟨b, 0, none⟩), .int .i64 n] w fun e w' => e = .returned (.int .i64 1) ∧ ∃ n, w' = w.drewN n := by
 have HL := Lib.hid (Left_any b g i l w h);obtain ⟨q, hq⟩ : ∃ q, l.length - i = q := ⟨_, rfl⟩;rw [hq] at HL;have hlt' : (q : Int) < (n : Int) := by omega
 have h0 : ¬ (n : Int) < 0 := by omega
 clear h hlt hq;go_enter Tryz.func72, Tryz.ntmps72;go_wp2_with fail;refine HL.out.mono ?_;rintro e w1 ⟨rfl, k, rfl⟩;go_wp2_with fail;go_ret;exact ⟨rfl, _, rfl⟩
def zerosE (l : List UInt8) : Int := if l.all (fun z => z == 0) then 0 else 2
theorem Zeros_all (b g : Nat) (l : List UInt8) (w : World) (h : Wr b g 0 l w) :
 Calls Tryz.prog 72 #[.pointer (some ⟨b, 0, none⟩), .int .i64 l.length] w fun e w' => e = .returned (.int .i64 (zerosE l)) ∧ Fr (fun x => x = b) w w' := by
 have HL := Lib.hid (Left_any b g 0 l w h);rw [Nat.sub_zero] at HL;have hm := h.n;have H := Lib.hid h;have HC := Lib.hid h.b.two;obtain ⟨n, hn⟩ : ∃ n, l.length = n := ⟨_, rfl⟩;rw [hn] at HL HC hm ⊢;have HN := Lib.hid hn;have h0 : ¬ (n : Int) < 0 := by omega
 have hnn : ¬ (n : Int) < (n : Int) := by omega
 obtain ⟨R, hR⟩ : ∃ R : Int, zerosE l = R := ⟨_, rfl⟩;rw [hR];have HR := Lib.hid hR;clear h hn hR;go_enter Tryz.func72, Tryz.ntmps72;go_wp2_with fail;refine HL.out.mono ?_;rintro e w1 ⟨rfl, k, rfl⟩;obtain ⟨c0, c1⟩ := HC.out;have hb1 : (0 : Int) ≤ (n : Int) := by omega
 have hw : IntKind.i64.wrap ((0 : Int) + (n : Int)) = (n : Int) := by rw [Int.zero_add]; exact IntWalk.i64_in _ (by omega)
 go_wp2_with fail
 go_quiet (fail)
 go_wp2_with fail;have H2 := Lib.hid ((H.out.below (below_drewN (Below.refl _ _) k)).below (below_drewN (Below.refl _ _) nq));have F2 := Lib.hid (((Fr.refl (fun x => x = b) w).drewN k).drewN nq)
 obtain ⟨w2, hw2⟩ : ∃ w2, (w.drewN k).drewN nq = w2 := ⟨_, rfl⟩;rw [hw2] at H2 F2 ⊢;clear hw2 c0 c1 HC HL hw hb1
 go_loopw [31] (fun s31 wr => ∃ j : Nat, s31 = .int .i64 (j : Int) ∧ j ≤ n ∧ Hid ((l.take j).all (fun z => z == 0) = true) ∧ wr = w2) (fun s31 _ => n - (intOf s31).toNat)
 case atStart => exact ⟨0, rfl, Nat.zero_le _, by show _ = _; simp, rfl⟩
 case round =>
  obtain ⟨j, rfl, hj, HA, rfl⟩ := hrel;by_cases hlt : j < n
  · have hlt' : (j : Int) < (n : Int) := by omega
    obtain ⟨z, hz⟩ : ∃ z, l[j]? = some z := ⟨_, List.getElem?_eq_getElem (by have := HN.out; omega)⟩
    have c := H2.out.cell hz;have HZ := Lib.hid hz;clear hz;by_cases hz0 : z = 0
    · subst hz0;have HA2 : Hid ((l.take (j + 1)).all (fun z => z == 0) = true) := by
       show _ = _;rw [List.take_add_one, HZ.out, List.all_append, HA.out];rfl
      go_wp2_with fail
      go_roundw
      case rel => exact ⟨j + 1, by go_num, by omega, HA2, trivial⟩
      case measure => simp [intOf]; omega
    · have hz1 : ((z.toNat : Int) == 0) = false := beq_eq_false_iff_ne.2 fun h => hz0 (UInt8.toNat_inj.1 (by show z.toNat = 0; omega))
      have hz2 : ((z.toNat : Int) != 0) = true := by unfold bne; rw [hz1]; rfl
      have hR2 : R = 2 := by
       rw [← HR.out, zerosE, if_neg];intro h;rw [List.all_eq_true] at h;exact hz0 (by simpa using h z (List.mem_of_getElem? HZ.out))
      subst hR2;clear hz0;go_wp2_with fail;go_ret;exact ⟨rfl, F2.out⟩
  · obtain rfl : j = n := by omega
    have hlt' : ¬ (j : Int) < (j : Int) := by omega
    have hR2 : R = 0 := by
     have h1 := HA.out;rw [List.take_of_length_le (by rw [HN.out]; exact Nat.le_refl _)] at h1
     rw [← HR.out, zerosE, if_pos h1]
    subst hR2;have HO := Lib.hid (on_any b g 0 j l wr H2.out (by rw [HN.out]; omega))
    clear hlt;go_wp2_with fail;refine HO.out.mono ?_;rintro e w3 ⟨rfl, h3, hf3⟩;have F3 := Lib.hid (F2.out.trans hf3);clear h3 hf3;go_wp2_with fail;go_ret;exact ⟨rfl, F3.out⟩
structure Ck where
 k : Nat
 n : Nat
 p : Nat
 lc : Nat
 lp : Nat
 pb : Nat
def Ck.zero : Ck := ⟨0, 0, 0, 0, 0, 0⟩
structure CkR where
 c : Ck
 n : Nat
 e : Nat
def hi2 (l : List UInt8) (i : Nat) : Nat := 256 * (l.getD i 0).toNat + (l.getD (i + 1) 0).toNat
def ckProps (c : Ck) (l : List UInt8) : CkR :=
 if l.length ≤ 5 then ⟨.zero, 0, 1⟩
 else if okN (l.getD 5 0).toNat then ⟨⟨c.k, c.n, c.p, (l.getD 5 0).toNat % 9, (l.getD 5 0).toNat / 9 % 5, (l.getD 5 0).toNat / 45⟩, 6, 0⟩ else ⟨.zero, 0, 2⟩
def ckF (l : List UInt8) : CkR :=
 match l with
 | [] => ⟨.zero, 0, 1⟩
 | f :: _ =>
  if f.toNat = 0 then ⟨.zero, 1, 0⟩
  else if f.toNat ≤ 2 then (if l.length ≤ 2 then ⟨.zero, 0, 1⟩ else ⟨⟨f.toNat, hi2 l 1 + 1, hi2 l 1 + 1, 0, 0, 0⟩, 3, 0⟩)
  else if f.toNat < 128 then ⟨.zero, 0, 2⟩
  else if l.length ≤ 4 then ⟨.zero, 0, 1⟩
  else
   let c : Ck := ⟨3 + (f.toNat - 128) / 32, f.toNat % 32 * 65536 + hi2 l 1 + 1, hi2 l 3 + 1, 0, 0, 0⟩
   if 5 ≤ c.k then ckProps c l else ⟨c, 5, 0⟩
theorem or_add (k a b : Nat) (hb : b < 2 ^ k) : a * 2 ^ k ||| b = a * 2 ^ k + b := by
 rw [← Nat.shiftLeft_eq, Nat.shiftLeft_add_eq_or_of_lt hb]
theorem u64_or (a b : Nat) (ha : a < 18446744073709551616) (hb : b < 18446744073709551616) : bits .or .u64 (a : Int) (b : Int) = ((a ||| b : Nat) : Int) := by
 show IntKind.u64.wrap ((BitVec.ofInt 64 (a : Int) ||| BitVec.ofInt 64 (b : Int)).toNat : Int) = _
 have h : (BitVec.ofInt 64 (a : Int) ||| BitVec.ofInt 64 (b : Int)).toNat = a ||| b := by
  rw [BitVec.toNat_or, BitVec.toNat_ofInt, BitVec.toNat_ofInt]
  congr 1 <;> omega
 rw [h];have : a ||| b < 2 ^ 64 := Nat.or_lt_two_pow ha hb
 show IntKind.u64.wrap _ = _;rw [IntKind.wrap_u64];omega
theorem high2 (l : List UInt8) (i : Nat) : highGo l i 2 = (hi2 l i : Int) := by
 have h1 := (l.getD i 0).toNat_lt;have h2 := (l.getD (i + 1) 0).toNat_lt;have w1 : IntKind.u64.wrap (((l.getD i 0).toNat : Nat) : Int) = (((l.getD i 0).toNat : Nat) : Int) := by rw [IntKind.wrap_u64]; omega
 have w2 : IntKind.u64.wrap (((l.getD (i + 1) 0).toNat : Nat) : Int) = (((l.getD (i + 1) 0).toNat : Nat) : Int) := by rw [IntKind.wrap_u64]; omega
 show bits .or .u64 (IntKind.u64.wrap (bits .or .u64 (IntKind.u64.wrap (0 * 256)) (IntKind.u64.wrap ((l.getD (i + 0) 0).toNat : Int)) * 256)) (IntKind.u64.wrap ((l.getD (i + 1) 0).toNat : Int)) = _;rw [Nat.add_zero, w1, w2, show IntKind.u64.wrap (0 * 256) = ((0 : Nat) : Int) from rfl, u64_or 0 _ (by decide) (by omega), Nat.zero_or]
 have w3 : IntKind.u64.wrap (((l.getD i 0).toNat : Int) * 256) = (((l.getD i 0).toNat * 2 ^ 8 : Nat) : Int) := by rw [IntKind.wrap_u64]; omega
 rw [w3, u64_or _ _ (by omega) (by omega), or_add 8 _ _ (by omega)]
 unfold hi2;omega
theorem and31 (n : Nat) (h : n < 256) : bits .and .i64 (n : Int) 31 = ((n % 32 : Nat) : Int) := by
 show IntKind.i64.wrap ((BitVec.ofInt 64 (n : Int) &&& BitVec.ofInt 64 31).toNat : Int) = _;have h2 : (BitVec.ofInt 64 (n : Int) &&& BitVec.ofInt 64 31).toNat = n % 32 := by
  rw [BitVec.toNat_and, show (BitVec.ofInt 64 31).toNat = 2 ^ 5 - 1 from rfl, Nat.and_two_pow_sub_one_eq_mod, BitVec.toNat_ofInt]
  omega
 rw [h2];exact IntWalk.i64_in _ (by omega)
def Ck.cs (c : Ck) : Array Value := #[.int .i64 c.k, .int .i64 c.n, .int .i64 c.p, .int .i64 c.lc, .int .i64 c.lp, .int .i64 c.pb]
def CkPost (r : CkR) (w : World) (e : Ending) (w' : World) : Prop := e = .returned (.tuple #[.agg r.c.cs, .int .i64 r.n, .int .i64 r.e]) ∧ Below w.heap.size w w'
end Go.Proofs.YtcjehjdehdoaeaaGreatDoor
