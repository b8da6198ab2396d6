/-
  Laws on the way to the claim (OrL). Conditions: those that each theorem states.
-/
import Derived.Test.YtcjehjdehdoaeaaGreatDoorOm21
import Derived.StillTailTactics
set_option linter.unusedVariables false
set_option linter.unusedSimpArgs false
set_option maxRecDepth 1000000
set_option maxHeartbeats 16000000
namespace Go.Proofs.YtcjehjdehdoaeaaGreatDoor
open Go.RowKit
theorem bits32 (op : BinOp) (a b : Int) (h : 0 ≤ bits op .u32 a b) : bits op .u32 a b = ((bits op .u32 a b).toNat : Int) := by omega
def or32 (a b : Nat) : Nat := (bits .or .u32 (a : Int) (b : Int)).toNat
def and32 (a b : Nat) : Nat := (bits .and .u32 (a : Int) (b : Int)).toNat
def xr32 (a b : Nat) : Nat := (bits .xor .u32 (a : Int) (b : Int)).toNat
def rot (x s : Nat) : Nat := or32 (x * 2 ^ s % 4294967296) (x / 2 ^ (32 - s))
theorem or32_eq (a b : Nat) : bits .or .u32 (a : Int) (b : Int) = (or32 a b : Int) := bits32 .or _ _ (by
 show 0 ≤ IntKind.u32.wrap ((BitVec.ofInt 32 (a : Int) ||| BitVec.ofInt 32 (b : Int)).toNat : Int)
 rw [IntKind.wrap_u32]; omega)
theorem and32_eq (a b : Nat) : bits .and .u32 (a : Int) (b : Int) = (and32 a b : Int) := bits32 .and _ _ (by
 show 0 ≤ IntKind.u32.wrap ((BitVec.ofInt 32 (a : Int) &&& BitVec.ofInt 32 (b : Int)).toNat : Int);rw [IntKind.wrap_u32]; omega)
theorem xr32_eq (a b : Nat) : bits .xor .u32 (a : Int) (b : Int) = (xr32 a b : Int) := bits32 .xor _ _ (by
 show 0 ≤ IntKind.u32.wrap ((BitVec.ofInt 32 (a : Int) ^^^ BitVec.ofInt 32 (b : Int)).toNat : Int);rw [IntKind.wrap_u32]; omega)
theorem Rot_any (x : Nat) (k : Int) (s : Nat) (w : World) (hk : bits .and .u64 (IntKind.u64.wrap k) 31 = (s : Int)) (h1 : 1 ≤ s) (h31 : s ≤ 31) :
 Calls Tryz.prog 297 #[.int .u32 x, .int .i64 k] w fun e w' => e = .returned (.int .u32 (rot x s)) ∧ w' = w := by
 have he := or32_eq (x * 2 ^ s % 4294967296) (x / 2 ^ (32 - s));have hv : (or32 (x * 2 ^ s % 4294967296) (x / 2 ^ (32 - s)) : Int) = (rot x s : Int) := rfl;rw [hv] at he;rw [show ((x * 2 ^ s % 4294967296 : Nat) : Int) = (x : Int) * 2 ^ s % 4294967296 by simp, show ((x / 2 ^ (32 - s) : Nat) : Int) = (x : Int) / 2 ^ (32 - s) by simp] at he
 obtain ⟨r, hr⟩ : ∃ r, rot x s = r := ⟨_, rfl⟩;rw [hr] at he ⊢;clear hv hr;go_enter Tryz.func297, Tryz.ntmps297;go_wp2_with fail;go_ret;exact ⟨rfl, rfl⟩
def StPost (s : List Nat) (w : World) (e : Ending) (w' : World) : Prop := e = .returned (.agg (u32s s).toArray) ∧ Below w.heap.size w w'
def z8 : Array Value := #[.int .u32 0, .int .u32 0, .int .u32 0, .int .u32 0, .int .u32 0, .int .u32 0, .int .u32 0, .int .u32 0]
def v16 (b : List UInt8) (t : Nat) : Nat := or32 (or32 (or32 ((b.getD (4 * t) 0).toNat * 16777216) ((b.getD (4 * t + 1) 0).toNat * 65536)) ((b.getD (4 * t + 2) 0).toNat * 256)) (b.getD (4 * t + 3) 0).toNat
def low32 (x : Nat) : Nat := xr32 (xr32 (rot x 25) (rot x 14)) (x / 8)
def high32 (y : Nat) : Nat := xr32 (xr32 (rot y 15) (rot y 13)) (y / 1024)
def v64 (W : List Nat) (t : Nat) : Nat := (high32 (W.getD (t - 2) 0) + W.getD (t - 7) 0 + low32 (W.getD (t - 15) 0) + W.getD (t - 16) 0) % 4294967296
def schN (b : List UInt8) : Nat → List Nat
 | 0 => List.replicate 64 0
 | t + 1 => (schN b t).set t (if t < 16 then v16 b t else v64 (schN b t) t)
def not32b (e : Nat) : Nat := xr32 4294967295 e
def one32 (S : List Nat) (r : Int) (wt : Nat) : Nat := ((((S.getD 7 0 : Nat) + (xr32 (xr32 (rot (S.getD 4 0) 26) (rot (S.getD 4 0) 21)) (rot (S.getD 4 0) 7) : Nat) + (xr32 (and32 (S.getD 4 0) (S.getD 5 0)) (and32 (not32b (S.getD 4 0)) (S.getD 6 0)) : Nat) + r) % 4294967296 + (wt : Int)) % 4294967296).toNat
def two32 (S : List Nat) : Nat := xr32 (xr32 (rot (S.getD 0 0) 30) (rot (S.getD 0 0) 19)) (rot (S.getD 0 0) 10) + xr32 (xr32 (and32 (S.getD 0 0) (S.getD 1 0)) (and32 (S.getD 0 0) (S.getD 2 0))) (and32 (S.getD 1 0) (S.getD 2 0))
def rndN (S : List Nat) (r : Int) (wt : Nat) : List Nat := [(one32 S r wt + two32 S) % 4294967296, S.getD 0 0, S.getD 1 0, S.getD 2 0, (S.getD 3 0 + one32 S r wt) % 4294967296, S.getD 4 0, S.getD 5 0, S.getD 6 0]
def rnsN (R : Nat → Int) (W : List Nat) (s : List Nat) : Nat → List Nat
 | 0 => s
 | t + 1 => rndN (rnsN R W s t) (R t) (W.getD t 0)
def addN (s S : List Nat) : Nat → List Nat
 | 0 => S
 | t + 1 => (addN s S t).set t (((addN s S t).getD t 0 + s.getD t 0) % 4294967296)
def stepN (R : Nat → Int) (s : List Nat) (b : List UInt8) : List Nat := addN s (rnsN R (schN b 64) s 64) 8
theorem rnsN_len (R : Nat → Int) (W s : List Nat) (hs : s.length = 8) (t : Nat) : (rnsN R W s t).length = 8 := by cases t; exact hs; rfl
theorem addN_len (s S : List Nat) (hs : S.length = 8) (t : Nat) : (addN s S t).length = 8 := by
 induction t with
 | zero => exact hs
 | succ t ih => rw [addN, List.length_set, ih]
def LaidR (R : Nat → Int) (w : World) : Prop := 19 < w.heap.size ∧ ∀ i : Nat, i < 64 → w.cell? ⟨19, i, none⟩ = some (.int .u32 (R i))
theorem LaidR.below {R : Nat → Int} {w w' : World} (h : LaidR R w) (hb : Below w.heap.size w w') : LaidR R w' := ⟨Nat.lt_of_lt_of_le h.1 hb.size, fun i hi => (hb.cell (p := ⟨19, i, none⟩) h.1).trans (h.2 i hi)⟩
theorem eight {l : List Nat} (h : l.length = 8) : ∃ a b c d e f g k, l = [a, b, c, d, e, f, g, k] := by
 match l, h with
 | [a, b, c, d, e, f, g, k], _ => exact ⟨a, b, c, d, e, f, g, k, rfl⟩
structure StJ (s : List Nat) (b : List UInt8) (B : Nat) (W : List Nat) (v v' : World) : Prop where
 s : Blk v' B 239 (u32s s).toArray
 b : Blk v' (B + 1) 240 (bys b).toArray
 o : Blk v' (B + 2) 239 z8
 w : Blk v' (B + 3) 438 (u32s W).toArray
 f : Below v.heap.size v v'
 n : W.length = 64
theorem u32s_get {l : List Nat} {i : Nat} (h : i < l.length) : (u32s l).toArray[i]? = some (.int .u32 (l.getD i 0 : Nat)) := by simp [u32s, List.getD, h]
theorem bys_at {l : List UInt8} {i : Nat} (h : i < l.length) : (bys l).toArray[i]? = some (.int .u8 ((l.getD i 0).toNat : Int)) := by simp [bys, List.getD, h]
theorem StJ.put {s : List Nat} {b : List UInt8} {B : Nat} {W : List Nat} {w w' : World} (h : StJ s b B W w w') (hB : w.heap.size = B) (t v : Nat) : StJ s b B (W.set t v) w (w'.setCell ⟨B + 3, t, none⟩ (.int .u32 (v : Int))) := by
 refine ⟨h.s.far (by show B ≠ B + 3; omega) _, h.b.far (by show B + 1 ≠ B + 3; omega) _, h.o.far (by show B + 2 ≠ B + 3; omega) _, ?_, h.f.setCell (by show _ ≤ B + 3; omega) _, by rw [List.length_set]; exact h.n⟩
 have := h.w.set_ t (.int .u32 (v : Int));have e : (u32s W).toArray.setIfInBounds t (.int .u32 (v : Int)) = (u32s (W.set t v)).toArray := by simp [u32s, List.map_set]
 rw [e] at this;exact this
theorem StJ.drewN {s : List Nat} {b : List UInt8} {B : Nat} {W : List Nat} {w w' : World} (h : StJ s b B W w w') (n : Nat) : StJ s b B W w (w'.drewN n) := ⟨h.s.drewN n, h.b.drewN n, h.o.drewN n, h.w.drewN n, below_drewN h.f n, h.n⟩
structure StK (s : List Nat) (b : List UInt8) (B K : Nat) (W S : List Nat) (v v' : World) : Prop where
 j : StJ s b B W v v'
 k : Blk v' K 239 (u32s S).toArray
 n : S.length = 8
 o : B + 4 ≤ K
theorem StK.drewN {s : List Nat} {b : List UInt8} {B K : Nat} {W S : List Nat} {w w' : World} (h : StK s b B K W S w w') (n : Nat) : StK s b B K W S w (w'.drewN n) := ⟨h.j.drewN n, h.k.drewN n, h.n, h.o⟩
theorem StJ.far {s : List Nat} {b : List UInt8} {B K : Nat} {W : List Nat} {w w' : World} (h : StJ s b B W w w') (hB : w.heap.size = B) (hK : B + 4 ≤ K) (t : Nat) (v : Value) : StJ s b B W w (w'.setCell ⟨K, t, none⟩ v) :=
 ⟨h.s.far (by show B ≠ K; omega) _, h.b.far (by show B + 1 ≠ K; omega) _, h.o.far (by show B + 2 ≠ K; omega) _, h.w.far (by show B + 3 ≠ K; omega) _, h.f.setCell (by show _ ≤ K; omega) _, h.n⟩
theorem StK.put {s : List Nat} {b : List UInt8} {B K : Nat} {W S : List Nat} {w w' : World} (h : StK s b B K W S w w') (hB : w.heap.size = B) (t v : Nat) : StK s b B K W (S.set t v) w (w'.setCell ⟨K, t, none⟩ (.int .u32 (v : Int))) := by
 refine ⟨h.j.far hB h.o _ _, ?_, by rw [List.length_set]; exact h.n, h.o⟩
 have := h.k.set_ t (.int .u32 (v : Int));have e : (u32s S).toArray.setIfInBounds t (.int .u32 (v : Int)) = (u32s (S.set t v)).toArray := by simp [u32s, List.map_set]
 rw [e] at this;exact this
theorem StJ.new {s : List Nat} {b : List UInt8} {B : Nat} {W : List Nat} {w w' : World} (h : StJ s b B W w w') (hB : w.heap.size = B) (hs : s.length = 8) {cs : Array Value} (hc : cs = (u32s s).toArray) : StK s b B w'.heap.size W s w (w'.alloc (.cells cs 239)) := by
 subst hc;have := h.w.lt;exact ⟨⟨h.s.alloc _, h.b.alloc _, h.o.alloc _, h.w.alloc _, h.f.alloc (by omega) _, h.n⟩, Blk.new _ _ _, hs, by omega⟩
theorem Step_any (s : List Nat) (b : List UInt8) (w : World) (hs : s.length = 8) (hb : b.length = 64) (R : Nat → Int) (hR : LaidR R w) :
 Calls Tryz.prog 296 #[.agg (u32s s).toArray, .agg (bys b).toArray] w (StPost (stepN R s b) w) := by
 obtain ⟨B, hB⟩ : ∃ B, w.heap.size = B := ⟨_, rfl⟩;obtain ⟨w4, hw4⟩ : ∃ w4, ((((w.alloc (.cells (u32s s).toArray 239)).alloc (.cells (bys b).toArray 240)).alloc (.cells #[.int .u32 0, .int .u32 0, .int .u32 0, .int .u32 0, .int .u32 0, .int .u32 0, .int .u32 0, .int .u32 0] 239)).alloc (.cells #[.int .u32 0, .int .u32 0, .int .u32 0, .int .u32 0, .int .u32 0, .int .u32 0, .int .u32 0, .int .u32 0, .int .u32 0, .int .u32 0, .int .u32 0, .int .u32 0, .int .u32 0, .int .u32 0, .int .u32 0, .int .u32 0, .int .u32 0, .int .u32 0, .int .u32 0, .int .u32 0, .int .u32 0, .int .u32 0, .int .u32 0, .int .u32 0, .int .u32 0, .int .u32 0, .int .u32 0, .int .u32 0, .int .u32 0, .int .u32 0, .int .u32 0, .int .u32 0, .int .u32 0, .int .u32 0, .int .u32 0, .int .u32 0, .int .u32 0, .int .u32 0, .int .u32 0, .int .u32 0, .int .u32 0, .int .u32 0, .int .u32 0, .int .u32 0, .int .u32 0, .int .u32 0, .int .u32 0, .int .u32 0, .int .u32 0, .int .u32 0, .int .u32 0, .int .u32 0, .int .u32 0, .int .u32 0, .int .u32 0, .int .u32 0, .int .u32 0, .int .u32 0, .int .u32 0, .int .u32 0, .int .u32 0, .int .u32 0, .int .u32 0, .int .u32 0] 438)) = w4 := ⟨_, rfl⟩
 have H0 : Hid (StJ s b B (schN b 0) w w4) := by
  have k0 : Blk w4 B 239 (u32s s).toArray := by rw [← hw4]; exact (((Blk.new_at hB.symm).alloc _).alloc _).alloc _
  have k1 : Blk w4 (B + 1) 240 (bys b).toArray := by rw [← hw4]; exact ((Blk.new_at (by simp; omega)).alloc _).alloc _
  have k2 : Blk w4 (B + 2) 239 z8 := by rw [← hw4]; exact (Blk.new_at (by simp; omega)).alloc _
  have k3 : Blk w4 (B + 3) 438 (u32s (List.replicate 64 0)).toArray := by rw [← hw4]; exact Blk.new_at (by simp; omega)
  exact ⟨k0, k1, k2, k3, by rw [← hw4]; exact ((((Below.refl _ _).alloc (Nat.le_refl _) _).alloc (by simp) _).alloc (by simp; omega) _).alloc (by simp; omega) _, by simp [schN]⟩
 have HW := Lib.hid (And.intro hw4 hB);have HL := Lib.hid (And.intro hs hb);have HLR := Lib.hid hR;clear hw4 hB hs hb hR;go_enter Tryz.func296, Tryz.ntmps296;go_wp2_with fail;rw [HW.out.1, HW.out.2]
 go_loopw [22] (fun s22 wr => ∃ t : Nat, s22 = .int .i64 (t : Int) ∧ t ≤ 64 ∧ Hid (StJ s b B (schN b t) w wr)) (fun s22 _ => 64 - (intOf s22).toNat)
 case atStart => exact ⟨0, rfl, by omega, H0⟩
 case round =>
  clear H0;obtain ⟨t, rfl, ht, H⟩ := hrel;by_cases hlt : t < 64
  · have hlt' : (t : Int) < 64 := by omega
    by_cases h16 : t < 16
    · have h16' : (t : Int) < 16 := by omega
      have HV := Lib.hid (show v16 b t = or32 (or32 (or32 ((b.getD (4 * t) 0).toNat * 16777216) ((b.getD (4 * t + 1) 0).toNat * 65536)) ((b.getD (4 * t + 2) 0).toNat * 256)) (b.getD (4 * t + 3) 0).toNat from rfl)
      have hw0 : IntKind.i64.wrap (4 * (t : Int)) = ((4 * t : Nat) : Int) := by rw [show (4 * (t : Int)) = ((4 * t : Nat) : Int) by omega]; exact IntWalk.i64_in _ (by omega)
      obtain ⟨m, hm⟩ : ∃ m, 4 * t = m := ⟨_, rfl⟩;have hm60 : m ≤ 60 := by omega
      rw [hm] at hw0 HV;have c0 := (H.out.b.cell m).trans (bys_at (by have := HL.out.2; omega))
      have c1 := (H.out.b.cell (m + 1)).trans (bys_at (by have := HL.out.2; omega))
      have c2 := (H.out.b.cell (m + 2)).trans (bys_at (by have := HL.out.2; omega))
      have c3 := (H.out.b.cell (m + 3)).trans (bys_at (by have := HL.out.2; omega))
      have l0 := (b.getD m 0).toNat_lt;have l1 := (b.getD (m + 1) 0).toNat_lt;have l2 := (b.getD (m + 2) 0).toNat_lt;have l3 := (b.getD (m + 3) 0).toNat_lt;obtain ⟨b0, hb0⟩ : ∃ z, (b.getD m 0).toNat = z := ⟨_, rfl⟩;obtain ⟨b1, hb1⟩ : ∃ z, (b.getD (m + 1) 0).toNat = z := ⟨_, rfl⟩;obtain ⟨b2, hb2⟩ : ∃ z, (b.getD (m + 2) 0).toNat = z := ⟨_, rfl⟩;obtain ⟨b3, hb3⟩ : ∃ z, (b.getD (m + 3) 0).toNat = z := ⟨_, rfl⟩
      rw [hb0] at c0 HV l0;rw [hb1] at c1 HV l1;rw [hb2] at c2 HV l2;rw [hb3] at c3 HV l3;have hw1 : IntKind.i64.wrap ((m : Int) + 1) = (m : Int) + 1 := IntWalk.i64_in _ (by omega)
      have hw2 : IntKind.i64.wrap ((m : Int) + 2) = (m : Int) + 2 := IntWalk.i64_in _ (by omega)
      have hw3 : IntKind.i64.wrap ((m : Int) + 3) = (m : Int) + 3 := IntWalk.i64_in _ (by omega)
      have ht1 : ((m : Int) + 1).toNat = m + 1 := by omega
      have ht2 : ((m : Int) + 2).toNat = m + 2 := by omega
      have ht3 : ((m : Int) + 3).toNat = m + 3 := by omega
      have hz1 : 0 ≤ (m : Int) + 1 := by omega
      have hz2 : 0 ≤ (m : Int) + 2 := by omega
      have hz3 : 0 ≤ (m : Int) + 3 := by omega
      have hy1 : (m : Int) + 1 < 64 := by omega
      have hy2 : (m : Int) + 2 < 64 := by omega
      have hy3 : (m : Int) + 3 < 64 := by omega
      have hy0 : (m : Int) < 64 := by omega
      clear hm hb0 hb1 hb2 hb3;go_wp2_with fail
      go_still_tail 31, (by kernel_rfl)
      change wpList _ _ _ _ _ wr.drew;have H1 := Lib.hid (H.out.drewN 1);have f0 := H1.out.w.frozen t;have f1 := (H1.out.w.cell t).trans (u32s_get (by rw [H1.out.n]; exact hlt))
      change (wr.drew).frozen? _ = _ at f0;change (wr.drew).cell? _ = _ at f1;obtain ⟨w5, hw5⟩ : ∃ w5, wr.drew = w5 := ⟨_, rfl⟩;rw [hw5] at f0 f1 ⊢;have H5 := Lib.hid (show StJ s b B (schN b t) w w5 by rw [← hw5]; exact H1.out)
      clear hw5;go_wp2_with fail
      go_roundw
      case rel =>
       refine ⟨t + 1, by go_num, by omega, ?_⟩
       have := H5.out.put HW.out.2 t (v16 b t);rw [HV.out, ← or32_eq, ← or32_eq, ← or32_eq] at this;rw [schN, if_pos h16, HV.out];exact Lib.hid (by simpa using this)
      case measure => simp [intOf]; omega
    · have h16' : ¬ (t : Int) < 16 := by omega
      have HV := Lib.hid (show v64 (schN b t) t = (high32 ((schN b t).getD (t - 2) 0) + (schN b t).getD (t - 7) 0 + low32 ((schN b t).getD (t - 15) 0) + (schN b t).getD (t - 16) 0) % 4294967296 from rfl)
      have HS := Lib.hid (show schN b (t + 1) = (schN b t).set t (v64 (schN b t) t) by rw [schN, if_neg h16])
      obtain ⟨W, hW⟩ : ∃ W, schN b t = W := ⟨_, rfl⟩;rw [hW] at HV HS H;clear hW;have cx := (H.out.w.cell (t - 15)).trans (u32s_get (by rw [H.out.n]; omega))
      have cy := (H.out.w.cell (t - 2)).trans (u32s_get (by rw [H.out.n]; omega))
      obtain ⟨x, hx⟩ : ∃ z, W.getD (t - 15) 0 = z := ⟨_, rfl⟩;obtain ⟨y, hy⟩ : ∃ z, W.getD (t - 2) 0 = z := ⟨_, rfl⟩;rw [hx] at cx HV;rw [hy] at cy HV;have w15 : IntKind.i64.wrap ((t : Int) - 15) = (t : Int) - 15 := IntWalk.i64_in _ (by omega)
      have w2 : IntKind.i64.wrap ((t : Int) - 2) = (t : Int) - 2 := IntWalk.i64_in _ (by omega)
      have t15 : ((t : Int) - 15).toNat = t - 15 := by omega
      have t2 : ((t : Int) - 2).toNat = t - 2 := by omega
      have z15 : 0 ≤ (t : Int) - 15 := by omega
      have z2 : 0 ≤ (t : Int) - 2 := by omega
      have y15 : (t : Int) - 15 < 64 := by omega
      have y2 : (t : Int) - 2 < 64 := by omega
      clear hx hy;go_wp2_with fail
      go_quiet (fail)
      have H1 := Lib.hid (H.out.drewN nq);obtain ⟨w5, hw5⟩ : ∃ w5, wr.drewN nq = w5 := ⟨_, rfl⟩;rw [hw5] at H1 ⊢;clear cx cy w15 w2 t15 t2 z15 z2 y15 y2 hw5;have HX := Lib.hid (fun w => Rot_any x (-7) 25 w (by decide +kernel) (by decide) (by decide))
      have HX2 := Lib.hid (fun w => Rot_any x (-18) 14 w (by decide +kernel) (by decide) (by decide))
      have HY := Lib.hid (fun w => Rot_any y (-17) 15 w (by decide +kernel) (by decide) (by decide))
      have HY2 := Lib.hid (fun w => Rot_any y (-19) 13 w (by decide +kernel) (by decide) (by decide))
      have e1 := xr32_eq (rot x 25) (rot x 14);have e2 : bits .xor .u32 (xr32 (rot x 25) (rot x 14) : Int) ((x : Int) / 8) = (low32 x : Int) := by rw [show ((x : Int) / 8) = ((x / 8 : Nat) : Int) by omega]; exact xr32_eq _ _
      have e3 := xr32_eq (rot y 15) (rot y 13);have e4 : bits .xor .u32 (xr32 (rot y 15) (rot y 13) : Int) ((y : Int) / 1024) = (high32 y : Int) := by rw [show ((y : Int) / 1024) = ((y / 1024 : Nat) : Int) by omega]; exact xr32_eq _ _
      obtain ⟨p1, hp1⟩ : ∃ z, rot x 25 = z := ⟨_, rfl⟩;obtain ⟨p2, hp2⟩ : ∃ z, rot x 14 = z := ⟨_, rfl⟩;obtain ⟨p3, hp3⟩ : ∃ z, rot y 15 = z := ⟨_, rfl⟩;obtain ⟨p4, hp4⟩ : ∃ z, rot y 13 = z := ⟨_, rfl⟩;rw [hp1] at HX e1 e2;rw [hp2] at HX2 e1 e2;rw [hp3] at HY e3 e4;rw [hp4] at HY2 e3 e4;obtain ⟨p5, hp5⟩ : ∃ z, xr32 p1 p2 = z := ⟨_, rfl⟩;obtain ⟨p6, hp6⟩ : ∃ z, xr32 p3 p4 = z := ⟨_, rfl⟩;obtain ⟨lo, hlo⟩ : ∃ z, low32 x = z := ⟨_, rfl⟩
      obtain ⟨hi, hhi⟩ : ∃ z, high32 y = z := ⟨_, rfl⟩;rw [hp5, hlo] at e2;rw [hp5] at e1;rw [hp6, hhi] at e4;rw [hp6] at e3;rw [hlo, hhi] at HV;clear hp1 hp2 hp3 hp4 hp5 hp6 hlo hhi;go_wp2_with fail;refine (HX.out _).mono ?_;rintro e w6 ⟨rfl, rfl⟩;go_wp2_with fail;refine (HX2.out _).mono ?_;rintro e w6 ⟨rfl, rfl⟩;go_wp2_with fail;refine (HY.out _).mono ?_;rintro e w6 ⟨rfl, rfl⟩;go_wp2_with fail;refine (HY2.out _).mono ?_
      rintro e w6 ⟨rfl, rfl⟩;go_wp2_with fail;clear e1 e2 e3 e4 HX HX2 HY HY2;have cx := (H1.out.w.cell (t - 7)).trans (u32s_get (by rw [H.out.n]; omega))
      have cy := (H1.out.w.cell (t - 16)).trans (u32s_get (by rw [H.out.n]; omega))
      obtain ⟨a7, ha7⟩ : ∃ z, W.getD (t - 7) 0 = z := ⟨_, rfl⟩;obtain ⟨a16, ha16⟩ : ∃ z, W.getD (t - 16) 0 = z := ⟨_, rfl⟩;rw [ha7] at cx HV;rw [ha16] at cy HV;have w15 : IntKind.i64.wrap ((t : Int) - 7) = (t : Int) - 7 := IntWalk.i64_in _ (by omega)
      have w2 : IntKind.i64.wrap ((t : Int) - 16) = (t : Int) - 16 := IntWalk.i64_in _ (by omega)
      have t15 : ((t : Int) - 7).toNat = t - 7 := by omega
      have t2 : ((t : Int) - 16).toNat = t - 16 := by omega
      have z15 : 0 ≤ (t : Int) - 7 := by omega
      have z2 : 0 ≤ (t : Int) - 16 := by omega
      have y15 : (t : Int) - 7 < 64 := by omega
      have y2 : (t : Int) - 16 < 64 := by omega
      have k7 : (7 : Int) ≤ (t : Int) := by omega
      have k16 : (16 : Int) ≤ (t : Int) := by omega
      clear ha7 ha16
      go_still_tail 15, (by kernel_rfl)
      change wpList _ _ _ _ _ w6.drew;have H2 := Lib.hid (H1.out.drewN 1);have f0 := H2.out.w.frozen t;have f1 := (H2.out.w.cell t).trans (u32s_get (by rw [H1.out.n]; exact hlt))
      change (w6.drew).frozen? _ = _ at f0;change (w6.drew).cell? _ = _ at f1;obtain ⟨w7, hw7⟩ : ∃ z, w6.drew = z := ⟨_, rfl⟩;rw [hw7] at f0 f1 ⊢;have H5 := Lib.hid (show StJ s b B W w w7 by rw [← hw7]; exact H2.out)
      clear hw7;go_wp2_with fail
      go_roundw
      case rel =>
       refine ⟨t + 1, by go_num, by omega, ?_⟩
       rw [HS.out, HV.out];have := H5.out.put HW.out.2 t ((hi + a7 + lo + a16) % 4294967296);exact Lib.hid (by simpa using this)
      case measure => simp [intOf]; omega
  · obtain rfl : t = 64 := by omega
    have hlt' : ¬ ((64 : Nat) : Int) < 64 := by decide
    clear hlt;obtain ⟨W, hW⟩ : ∃ W, schN b 64 = W := ⟨_, rfl⟩;rw [hW] at H;have HWE := Lib.hid hW;have hs8 := HL.out.1;obtain ⟨s0, s1, s2, s3, s4, s5, s6, s7, hse⟩ := eight hs8;have hS := H.out.s;rw [hse] at hS;have c0 := hS.cell 0;have c1 := hS.cell 1;have c2 := hS.cell 2;have c3 := hS.cell 3;have c4 := hS.cell 4;have c5 := hS.cell 5;have c6 := hS.cell 6;have c7 := hS.cell 7;simp [u32s] at c0 c1 c2 c3 c4 c5 c6 c7
    have HSE := Lib.hid hse;obtain ⟨K, hK⟩ : ∃ K, wr.heap.size = K := ⟨_, rfl⟩;have HK := Lib.hid (by have := H.out.new HW.out.2 HL.out.1 (cs := #[.int .u32 (s0 : Int), .int .u32 (s1 : Int), .int .u32 (s2 : Int), .int .u32 (s3 : Int), .int .u32 (s4 : Int), .int .u32 (s5 : Int), .int .u32 (s6 : Int), .int .u32 (s7 : Int)]) (by rw [hse]; rfl); rw [hK] at this; exact this)
    have HKe := Lib.hid hK;clear hW hs8 hse hS hK;go_wp2_with fail;rw [HKe.out];obtain ⟨w9, hw9⟩ : ∃ z, wr.alloc (.cells #[.int .u32 (s0 : Int), .int .u32 (s1 : Int), .int .u32 (s2 : Int), .int .u32 (s3 : Int), .int .u32 (s4 : Int), .int .u32 (s5 : Int), .int .u32 (s6 : Int), .int .u32 (s7 : Int)] 239) = z := ⟨_, rfl⟩;rw [hw9] at HK ⊢;clear hw9 c0 c1 c2 c3 c4 c5 c6 c7 HKe HSE H;obtain ⟨wo, hwo⟩ : ∃ wo, wo = wr := ⟨_, rfl⟩
    clear hwo wo
    go_loopw [99] (fun s99 w2 => ∃ t : Nat, s99 = .int .i64 (t : Int) ∧ t ≤ 64 ∧ Hid (StK s b B K W (rnsN R W s t) w w2)) (fun s99 _ => 64 - (intOf s99).toNat)
    case atStart => exact ⟨0, rfl, by omega, HK⟩
    case round =>
     clear HK;obtain ⟨t, rfl, ht, H⟩ := hrel;by_cases hlt : t < 64
     · have hlt' : (t : Int) < 64 := by omega
       have hS8 := H.out.n;have hWn := H.out.j.n;have HN := Lib.hid (show rnsN R W s (t + 1) = rndN (rnsN R W s t) (R t) (W.getD t 0) from rfl)
       obtain ⟨S, hS⟩ : ∃ S, rnsN R W s t = S := ⟨_, rfl⟩;rw [hS] at H HN hS8;obtain ⟨a, b_, c, d, e, f, g, k, rfl⟩ := eight hS8;clear hS hS8;have hK := H.out.k;have c0 := hK.cell 0;have c1 := hK.cell 1;have c2 := hK.cell 2;have c3 := hK.cell 3;have c4 := hK.cell 4;have c5 := hK.cell 5;have c6 := hK.cell 6;have c7 := hK.cell 7;have f0 := hK.frozen 0;have f1 := hK.frozen 1;have f2 := hK.frozen 2;have f3 := hK.frozen 3
       have f4 := hK.frozen 4;have f5 := hK.frozen 5;have f6 := hK.frozen 6;have f7 := hK.frozen 7;simp [u32s] at c0 c1 c2 c3 c4 c5 c6 c7;clear hK;go_wp2_with fail
       go_quiet (fail)
       have H1 := Lib.hid (H.out.drewN nq);have HLR1 := Lib.hid ((HLR.out.below H.out.j.f).below (below_drewN (Below.refl _ _) nq));obtain ⟨w5, hw5⟩ : ∃ w5, wr.drewN nq = w5 := ⟨_, rfl⟩;have c3 := (show (wr.drewN nq).cell? _ = _ from c3)
       have c7 := (show (wr.drewN nq).cell? _ = _ from c7)
       have f0 := (show (wr.drewN nq).frozen? _ = _ from f0)
       have f1 := (show (wr.drewN nq).frozen? _ = _ from f1)
       have f2 := (show (wr.drewN nq).frozen? _ = _ from f2)
       have f3 := (show (wr.drewN nq).frozen? _ = _ from f3)
       have f4 := (show (wr.drewN nq).frozen? _ = _ from f4)
       have f5 := (show (wr.drewN nq).frozen? _ = _ from f5)
       have f6 := (show (wr.drewN nq).frozen? _ = _ from f6)
       have f7 := (show (wr.drewN nq).frozen? _ = _ from f7)
       have c0 := (show (wr.drewN nq).cell? _ = _ from c0)
       have c1 := (show (wr.drewN nq).cell? _ = _ from c1)
       have c2 := (show (wr.drewN nq).cell? _ = _ from c2)
       have c4 := (show (wr.drewN nq).cell? _ = _ from c4)
       have c5 := (show (wr.drewN nq).cell? _ = _ from c5)
       have c6 := (show (wr.drewN nq).cell? _ = _ from c6)
       rw [hw5] at H1 HLR1 c0 c1 c2 c3 c4 c5 c6 c7 f0 f1 f2 f3 f4 f5 f6 f7 ⊢;clear hw5;have cr := HLR1.out.2 t hlt;have cw := (H1.out.j.w.cell t).trans (u32s_get (by rw [hWn]; exact hlt))
       obtain ⟨wt, hwt⟩ : ∃ z, W.getD t 0 = z := ⟨_, rfl⟩;obtain ⟨r, hr⟩ : ∃ z, R t = z := ⟨_, rfl⟩;rw [hr] at cr HN;rw [hwt] at cw HN;have cr : w5.cell? ⟨19, t, none⟩ = some (.int .u32 r) := cr;have cw : w5.cell? ⟨B + 3, t, none⟩ = some (.int .u32 (wt : Int)) := cw;have HA1 := Lib.hid (fun w => Rot_any e (-6) 26 w (by decide +kernel) (by decide) (by decide))
       have HA2 := Lib.hid (fun w => Rot_any e (-11) 21 w (by decide +kernel) (by decide) (by decide))
       have HA3 := Lib.hid (fun w => Rot_any e (-25) 7 w (by decide +kernel) (by decide) (by decide))
       have e1 := xr32_eq (rot e 26) (rot e 21);have e2 := xr32_eq (xr32 (rot e 26) (rot e 21)) (rot e 7);have e3 := and32_eq e f;have e4 : bits .xor .u32 IntKind.u32.max (e : Int) = (not32b e : Int) := xr32_eq 4294967295 e;have e4' : bits .xor .u32 (if IntKind.u32.signed = true then -1 else IntKind.u32.max) (e : Int) = (not32b e : Int) := e4
       have e5 := and32_eq (not32b e) g;have e6 := xr32_eq (and32 e f) (and32 (not32b e) g);obtain ⟨q1, hq1⟩ : ∃ z, rot e 26 = z := ⟨_, rfl⟩;obtain ⟨q2, hq2⟩ : ∃ z, rot e 21 = z := ⟨_, rfl⟩;obtain ⟨q3, hq3⟩ : ∃ z, rot e 7 = z := ⟨_, rfl⟩;rw [hq1] at HA1 e1 e2;rw [hq2] at HA2 e1 e2;rw [hq3] at HA3 e2;obtain ⟨q4, hq4⟩ : ∃ z, xr32 q1 q2 = z := ⟨_, rfl⟩;rw [hq4] at e1 e2;obtain ⟨q5, hq5⟩ : ∃ z, xr32 q4 q3 = z := ⟨_, rfl⟩
       rw [hq5] at e2;obtain ⟨q6, hq6⟩ : ∃ z, and32 e f = z := ⟨_, rfl⟩;rw [hq6] at e3 e6;obtain ⟨q7, hq7⟩ : ∃ z, not32b e = z := ⟨_, rfl⟩;rw [hq7] at e4 e4' e5 e6;obtain ⟨q8, hq8⟩ : ∃ z, and32 q7 g = z := ⟨_, rfl⟩;rw [hq8] at e5 e6;obtain ⟨q9, hq9⟩ : ∃ z, xr32 q6 q8 = z := ⟨_, rfl⟩;rw [hq9] at e6;have HO1 := Lib.hid (show one32 [a, b_, c, d, e, f, g, k] r wt = ((((k : Nat) + (q5 : Nat) + (q9 : Nat) + r) % 4294967296 + (wt : Int)) % 4294967296).toNat by
        rw [← hq9, ← hq8, ← hq7, ← hq6, ← hq5, ← hq4, ← hq3, ← hq2, ← hq1]; rfl)
       clear hwt hr hq1 hq2 hq3 hq4 hq5 hq6 hq7 hq8 hq9;have ht0 : (0 : Int) ≤ (t : Int) := by omega
       go_wp2_with fail
       go_quiet (first | (go_at_call 297; with_reducible exact Calls.quiet_of_same (HA1.out _)) | (go_at_call 297; with_reducible exact Calls.quiet_of_same (HA2.out _)) | (go_at_call 297; with_reducible exact Calls.quiet_of_same (HA3.out _)))
       have hone : ((((k : Int) + (q5 : Int) + (q9 : Int) + r) % 4294967296 + (wt : Int)) % 4294967296) = (one32 [a, b_, c, d, e, f, g, k] r wt : Int) := by
        rw [HO1.out];omega
       obtain ⟨on, hon⟩ : ∃ z, one32 [a, b_, c, d, e, f, g, k] r wt = z := ⟨_, rfl⟩;rw [hon] at hone;rw [hone];have HON := Lib.hid hon;have H2 := Lib.hid (H1.out.drewN nq);obtain ⟨w6, hw6⟩ : ∃ w6, w5.drewN nq = w6 := ⟨_, rfl⟩;have hK := H2.out.k;rw [hw6] at H2 hK ⊢;clear hon hone hw6 e1 e2 e3 e4 e4' e5 e6 HA1 HA2 HA3 cr cw c0 c1 c2 c3 c4 c5 c6 c7 f0 f1 f2 f3 f4 f5 f6 f7 HO1;have c0 := hK.cell 0;have c1 := hK.cell 1
       have c2 := hK.cell 2;have c3 := hK.cell 3;have c4 := hK.cell 4;have c5 := hK.cell 5;have c6 := hK.cell 6;have c7 := hK.cell 7;have f0 := hK.frozen 0;have f1 := hK.frozen 1;have f2 := hK.frozen 2;have f3 := hK.frozen 3;have f4 := hK.frozen 4;have f5 := hK.frozen 5;have f6 := hK.frozen 6;have f7 := hK.frozen 7;simp [u32s] at c0 c1 c2 c3 c4 c5 c6 c7;clear hK;have HA1 := Lib.hid (fun w => Rot_any a (-2) 30 w (by decide +kernel) (by decide) (by decide))
       have HA2 := Lib.hid (fun w => Rot_any a (-13) 19 w (by decide +kernel) (by decide) (by decide))
       have HA3 := Lib.hid (fun w => Rot_any a (-22) 10 w (by decide +kernel) (by decide) (by decide))
       have e1 := xr32_eq (rot a 30) (rot a 19);have e2 := xr32_eq (xr32 (rot a 30) (rot a 19)) (rot a 10);have e3 := and32_eq a b_;have e4 := and32_eq a c;have e5 := and32_eq b_ c;have e6 := xr32_eq (and32 a b_) (and32 a c);have e7 := xr32_eq (xr32 (and32 a b_) (and32 a c)) (and32 b_ c);have HT1 := Lib.hid (show two32 [a, b_, c, d, e, f, g, k] = xr32 (xr32 (rot a 30) (rot a 19)) (rot a 10) + xr32 (xr32 (and32 a b_) (and32 a c)) (and32 b_ c) from rfl)
       obtain ⟨q1, hq1⟩ : ∃ z, rot a 30 = z := ⟨_, rfl⟩;obtain ⟨q2, hq2⟩ : ∃ z, rot a 19 = z := ⟨_, rfl⟩;obtain ⟨q3, hq3⟩ : ∃ z, rot a 10 = z := ⟨_, rfl⟩;rw [hq1] at HA1 e1 e2 HT1;rw [hq2] at HA2 e1 e2 HT1;rw [hq3] at HA3 e2 HT1;obtain ⟨q4, hq4⟩ : ∃ z, xr32 q1 q2 = z := ⟨_, rfl⟩;rw [hq4] at e1 e2 HT1;obtain ⟨q5, hq5⟩ : ∃ z, xr32 q4 q3 = z := ⟨_, rfl⟩;rw [hq5] at e2 HT1;obtain ⟨q6, hq6⟩ : ∃ z, and32 a b_ = z := ⟨_, rfl⟩
       rw [hq6] at e3 e6 e7 HT1;obtain ⟨q7, hq7⟩ : ∃ z, and32 a c = z := ⟨_, rfl⟩;rw [hq7] at e4 e6 e7 HT1;obtain ⟨q8, hq8⟩ : ∃ z, and32 b_ c = z := ⟨_, rfl⟩;rw [hq8] at e5 e7 HT1;obtain ⟨q9, hq9⟩ : ∃ z, xr32 q6 q7 = z := ⟨_, rfl⟩;rw [hq9] at e6 e7 HT1;obtain ⟨q10, hq10⟩ : ∃ z, xr32 q9 q8 = z := ⟨_, rfl⟩;rw [hq10] at e7 HT1;clear hq1 hq2 hq3 hq4 hq5 hq6 hq7 hq8 hq9 hq10;go_wp2_with fail;refine (HA1.out _).mono ?_
       rintro en w7 ⟨rfl, rfl⟩;go_wp2_with fail;refine (HA2.out _).mono ?_;rintro en w8 ⟨rfl, rfl⟩;go_wp2_with fail;refine (HA3.out _).mono ?_;rintro en w9 ⟨rfl, rfl⟩;go_wp2_with fail
       go_roundw
       case rel =>
        refine ⟨t + 1, by go_num, by omega, ?_⟩
        have := (((((((H2.out.put HW.out.2 0 ((on + (q5 + q10)) % 4294967296)).put HW.out.2 1 a).put HW.out.2 2 b_).put HW.out.2 3 c).put HW.out.2 4 ((d + on) % 4294967296)).put HW.out.2 5 e).put HW.out.2 6 f).put HW.out.2 7 g;have hl : rnsN R W s (t + 1) = [(on + (q5 + q10)) % 4294967296, a, b_, c, (d + on) % 4294967296, e, f, g] := by
         rw [HN.out, ← HT1.out, ← HON.out]; rfl
        rw [hl];exact Lib.hid (by simpa using this)
       case measure => simp [intOf]; omega
     · obtain rfl : t = 64 := by omega
       have hlt' : ¬ ((64 : Nat) : Int) < 64 := by decide
       clear hlt;have HS2 := Lib.hid (show stepN R s b = addN s (rnsN R W s 64) 8 by rw [← HWE.out]; rfl)
       have hs8 := HL.out.1;obtain ⟨S, hS⟩ : ∃ S, rnsN R W s 64 = S := ⟨_, rfl⟩;rw [hS] at H HS2;have H0 := Lib.hid (show StK s b B K W (addN s S 0) w wr from H.out)
       clear hS H;go_wp2_with fail;obtain ⟨wo, hwo⟩ : ∃ wo, wo = wr := ⟨_, rfl⟩;clear hwo wo
       go_loopw [177] (fun s177 w2 => ∃ t : Nat, s177 = .int .i64 (t : Int) ∧ t ≤ 8 ∧ Hid (StK s b B K W (addN s S t) w w2)) (fun s177 _ => 8 - (intOf s177).toNat)
       case atStart => exact ⟨0, rfl, by omega, H0⟩
       case round =>
        clear H0;obtain ⟨t, rfl, ht, H⟩ := hrel;by_cases hlt : t < 8
        · have hlt' : (t : Int) < 8 := by omega
          have ht0 : (0 : Int) ≤ (t : Int) := by omega
          have HN := Lib.hid (show addN s S (t + 1) = (addN s S t).set t (((addN s S t).getD t 0 + s.getD t 0) % 4294967296) from rfl)
          have hn := H.out.n;obtain ⟨T, hT⟩ : ∃ T, addN s S t = T := ⟨_, rfl⟩;rw [hT] at H HN hn;have cx := (H.out.k.cell t).trans (u32s_get (by rw [hn]; exact hlt))
          have cy := (H.out.j.s.cell t).trans (u32s_get (by rw [hs8]; exact hlt))
          obtain ⟨x, hx⟩ : ∃ z, T.getD t 0 = z := ⟨_, rfl⟩;obtain ⟨y, hy⟩ : ∃ z, s.getD t 0 = z := ⟨_, rfl⟩;rw [hx] at cx HN;rw [hy] at cy HN;clear hT hx hy hn;go_wp2_with fail
          go_still_tail 8, (by kernel_rfl)
          change wpList _ _ _ _ _ wr.drew;have H1 := Lib.hid (H.out.drewN 1);have f0 := H1.out.k.frozen t;have f1 := (show (wr.drew).cell? _ = _ from cx)
          change (wr.drew).frozen? _ = _ at f0;obtain ⟨w5, hw5⟩ : ∃ w5, wr.drew = w5 := ⟨_, rfl⟩;rw [hw5] at f0 f1 ⊢;have H5 := Lib.hid (show StK s b B K W T w w5 by rw [← hw5]; exact H1.out)
          clear hw5 cx cy;go_wp2_with fail
          go_roundw
          case rel =>
           refine ⟨t + 1, by go_num, by omega, ?_⟩
           have := H5.out.put HW.out.2 t ((x + y) % 4294967296);rw [HN.out];exact Lib.hid (by simpa using this)
          case measure => simp [intOf]; omega
        · obtain rfl : t = 8 := by omega
          have hlt' : ¬ ((8 : Nat) : Int) < 8 := by decide
          have hn := H.out.n;obtain ⟨T, hT⟩ : ∃ T, addN s S 8 = T := ⟨_, rfl⟩;rw [hT] at H HS2 hn;obtain ⟨a, b_, c, d, e, f, g, k, rfl⟩ := eight hn;clear hT hn hlt;have hK := H.out.k;have c0 := hK.cell 0;have c1 := hK.cell 1;have c2 := hK.cell 2;have c3 := hK.cell 3;have c4 := hK.cell 4;have c5 := hK.cell 5;have c6 := hK.cell 6;have c7 := hK.cell 7;have hO := H.out.j.o;have d0 := hO.cell 0;have d1 := hO.cell 1
          have d2 := hO.cell 2;have d3 := hO.cell 3;have d4 := hO.cell 4;have d5 := hO.cell 5;have d6 := hO.cell 6;have d7 := hO.cell 7;have f0 := hO.frozen 0;have f1 := hO.frozen 1;have f2 := hO.frozen 2;have f3 := hO.frozen 3;have f4 := hO.frozen 4;have f5 := hO.frozen 5;have f6 := hO.frozen 6;have f7 := hO.frozen 7;simp [u32s] at c0 c1 c2 c3 c4 c5 c6 c7;simp [z8] at d0 d1 d2 d3 d4 d5 d6 d7;clear hK hO
          go_wp2_with fail;rw [HS2.out];obtain ⟨wz, hwz⟩ : ∃ wz, ((((((((wr.setCell ⟨B + 1 + 1, 0, none⟩ (.int .u32 (a : Int))).setCell ⟨B + 1 + 1, 1, none⟩ (.int .u32 (b_ : Int))).setCell ⟨B + 1 + 1, 2, none⟩ (.int .u32 (c : Int))).setCell ⟨B + 1 + 1, 3, none⟩ (.int .u32 (d : Int))).setCell ⟨B + 1 + 1, 4, none⟩ (.int .u32 (e : Int))).setCell ⟨B + 1 + 1, 5, none⟩ (.int .u32 (f : Int))).setCell ⟨B + 1 + 1, 6, none⟩ (.int .u32 (g : Int))).setCell ⟨B + 1 + 1, 7, none⟩ (.int .u32 (k : Int))) = wz := ⟨_, rfl⟩
          have hb0 : Blk wz (B + 2) 239 #[.int .u32 (a : Int), .int .u32 (b_ : Int), .int .u32 (c : Int), .int .u32 (d : Int), .int .u32 (e : Int), .int .u32 (f : Int), .int .u32 (g : Int), .int .u32 (k : Int)] := by
           rw [← hwz];have := (((((((H.out.j.o.set_ 0 (.int .u32 (a : Int))).set_ 1 (.int .u32 (b_ : Int))).set_ 2 (.int .u32 (c : Int))).set_ 3 (.int .u32 (d : Int))).set_ 4 (.int .u32 (e : Int))).set_ 5 (.int .u32 (f : Int))).set_ 6 (.int .u32 (g : Int))).set_ 7 (.int .u32 (k : Int));simpa [z8] using this
          have hbl : Below w.heap.size w wz := by
           rw [← hwz];have ho : w.heap.size ≤ B + 1 + 1 := by have := HW.out.2; omega
           exact (((((((H.out.j.f.setCell ho _).setCell ho _).setCell ho _).setCell ho _).setCell ho _).setCell ho _).setCell ho _).setCell ho _
          rw [hwz];have r0 := hb0.cell 0;have r1 := hb0.cell 1;have r2 := hb0.cell 2;have r3 := hb0.cell 3;have r4 := hb0.cell 4;have r5 := hb0.cell 5;have r6 := hb0.cell 6;have r7 := hb0.cell 7;simp at r0 r1 r2 r3 r4 r5 r6 r7;exact bodyPost_ret (v := .agg #[.int .u32 (a : Int), .int .u32 (b_ : Int), .int .u32 (c : Int), .int .u32 (d : Int), .int .u32 (e : Int), .int .u32 (f : Int), .int .u32 (g : Int), .int .u32 (k : Int)]) (by simp [results, Tryz.results296, go_sem, r0, r1, r2, r3, r4, r5, r6, r7]) rfl ⟨rfl, hbl⟩
end Go.Proofs.YtcjehjdehdoaeaaGreatDoor
