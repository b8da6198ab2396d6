/-
  Laws on the way to the claim (PaFn PrNums PaPr StNextR). Conditions: those that each theorem states.
-/
import Derived.Test.YtcjehjdehdoaeaaGreatDoorOm03
import Derived.Test.YtcjehjdehdoaeaaGreatDoorOm08
import Derived.Deep.Slices
import Derived.Deep.RegionLaw
import Derived.Deep.RegionHeld3
import Derived.Deep.DeepCutAuto
import Derived.Deep.QuietTactic
import Derived.BigQuiet
import Derived.BigRegion
import Derived.Test.YtcjehjdehdoaeaaGreatDoorOm07
import Derived.WalkKit
import Derived.WalkSpells
import Derived.WalkLawsBesides
import Derived.Lib.Strings
import Derived.Lib.Slices
import Derived.Lib.Small
import Derived.Lib.Walk
import Derived.Lib.BitFns
import Derived.Lib.Hide
import Derived.Deep.Light
import Derived.IntWalk
import Derived.Test.YtcjehjdehdoaeaaGreatDoorOm01
import Derived.Laws.CopyOwn
import Derived.Laws.CopyRow
import Derived.Test.YtcjehjdehdoaeaaGreatDoorChecked
set_option linter.unusedVariables false
set_option linter.unusedSimpArgs false
set_option maxRecDepth 1000000
set_option maxHeartbeats 16000000
namespace Go.Proofs.YtcjehjdehdoaeaaGreatDoor
open Go.RowKit Go.ChangeShapes Go.WideShapes Go.ChangeAt Go.Deep
theorem rightP_n {n a b c d : Int} (h : rightP n a b c d) : ∃ k : Nat, n = (k : Int) ∧ k < 12 := ⟨n.toNat, by have := h.2.2.2.2.1; omega, by have := h.2.2.2.2.2; omega⟩
theorem bmk {w w1 : World} (h : Below w.heap.size w w1) (o : Obj) : Below w.heap.size w (w1.alloc o) := h.alloc h.size _
structure St where
 (n a b c d : Int)
structure Sy where
 (k : Int)
 (y : UInt8)
 (l x : Int)
def St.v (s : St) : Value := .agg (stC s.n s.a s.b s.c s.d)
def Sy.cs (y : Sy) : Array Value := #[.int .i64 y.k, .int .u8 (y.y.toNat : Int), .int .i64 y.l, .int .i64 y.x]
def Sy.v (y : Sy) : Value := .agg y.cs
def St.zero : St := ⟨0, 0, 0, 0, 0⟩
def St.start : St := ⟨0, 1, 1, 1, 1⟩
def St.right (s : St) : Prop := rightP s.n s.a s.b s.c s.d
instance (s : St) : Decidable s.right := by unfold St.right; infer_instance
def St.rep (s : St) (i : Int) : Int := if i = 0 then s.a else if i = 1 then s.b else if i = 2 then s.c else s.d
def nextE (s : St) (y : Sy) : Int := if s.right then formedN y.k y.l y.x else 7
def nextS (s : St) (y : Sy) : St :=
 if nextE s y = 0 then
  (if y.k = 2 then ⟨movedN s.n 2, y.x, s.a, s.b, s.c⟩
   else if y.k = 3 then
    (if y.x = 0 then ⟨movedN s.n 3, s.a, s.b, s.c, s.d⟩ else if y.x = 1 then ⟨movedN s.n 3, s.b, s.a, s.c, s.d⟩
     else if y.x = 2 then ⟨movedN s.n 3, s.c, s.a, s.b, s.d⟩ else ⟨movedN s.n 3, s.d, s.a, s.b, s.c⟩)
   else ⟨movedN s.n y.k, s.a, s.b, s.c, s.d⟩)
 else St.zero
theorem Next_fn (s : St) (y : Sy) : ∀ w, Laid w → Calls Tryz.prog 128 #[.agg (stC s.n s.a s.b s.c s.d), .agg #[.int .i64 y.k, .int .u8 (y.y.toNat : Int), .int .i64 y.l, .int .i64 y.x]] w (NPost (.agg (stC (nextS s y).n (nextS s y).a (nextS s y).b (nextS s y).c (nextS s y).d)) (nextE s y) w) := by
 obtain ⟨n, a, b, c, d⟩ := s;obtain ⟨k, z, l, x⟩ := y;simp only [];by_cases h : rightP n a b c d
 · have hE : nextE ⟨n, a, b, c, d⟩ ⟨k, z, l, x⟩ = formedN k l x := if_pos h;unfold nextS;rw [hE];obtain ⟨q, rfl, hq⟩ := rightP_n h;by_cases k1 : k = 1
   · subst k1;exact fun w hl => Next_lit q a b c d _ l x h w hl
   · by_cases k4 : k = 4
     · subst k4;exact fun w hl => Next_short q a b c d _ l x h w hl
     · by_cases k2 : k = 2
       · subst k2;by_cases hf : isL l ∧ isD x
         · have hf0 : formedN 2 l x = 0 := by unfold formedN; rw [if_neg (by decide), if_neg (by decide), if_pos rfl, if_pos hf]
           rw [if_pos hf0, if_pos rfl, hf0];exact fun w hl => Next_match q a b c d _ l x h hf w hl
         · have hf0 : formedN 2 l x = 7 := by unfold formedN; rw [if_neg (by decide), if_neg (by decide), if_pos rfl, if_neg hf]
           rw [hf0, if_neg (by decide)]
           exact fun w _ => Next_match_bad q a b c d _ l x h hf w
       · by_cases k3 : k = 3
         · subst k3;by_cases hf : isL l ∧ repOk x
           · have hf0 : formedN 3 l x = 0 := by unfold formedN; rw [if_neg (by decide), if_neg (by decide), if_neg (by decide), if_pos rfl, if_pos hf]
             rw [if_pos hf0, if_neg (show ¬ (3 : Int) = 2 by decide), if_pos (show (3 : Int) = 3 from rfl), hf0]
             have hx : x = 0 ∨ x = 1 ∨ x = 2 ∨ x = 3 := by have := hf.2; unfold repOk at this; omega
             rcases hx with rfl | rfl | rfl | rfl
             · exact fun w hl => Next_rep0 q a b c d _ l h hf.1 w hl
             · exact fun w hl => Next_rep1 q a b c d _ l h hf.1 w hl
             · exact fun w hl => Next_rep2 q a b c d _ l h hf.1 w hl
             · exact fun w hl => Next_rep3 q a b c d _ l h hf.1 w hl
           · have hf0 : formedN 3 l x = 7 := by unfold formedN; rw [if_neg (by decide), if_neg (by decide), if_neg (by decide), if_pos rfl, if_neg hf]
             rw [hf0, if_neg (by decide)]
             exact fun w _ => Next_rep_bad q a b c d _ l x h hf w
         · have hf0 : formedN k l x = 6 := by unfold formedN; rw [if_neg k1, if_neg k4, if_neg k2, if_neg k3]
           rw [hf0, if_neg (by decide)]
           exact fun w _ => Next_kind q a b c d k _ l x h k1 k2 k3 k4 w
 · have hE : nextE ⟨n, a, b, c, d⟩ ⟨k, z, l, x⟩ = 7 := if_neg h;unfold nextS;rw [hE, if_neg (by decide)]
   exact fun w _ => Next_bad n a b c d k _ l x h w
theorem Next_p (s : St) (y : Sy) (w : World) (hl : Laid w) : Calls Tryz.prog 128 #[s.v, y.v] w (NPost (nextS s y).v (nextE s y) w) := Next_fn s y w hl
theorem formedN_zero {k l x : Int} (h : formedN k l x = 0) : k = 1 ∨ k = 4 ∨ (k = 2 ∧ isL l ∧ isD x) ∨ (k = 3 ∧ isL l ∧ repOk x) := by
 unfold formedN at h;by_cases k1 : k = 1
 · exact .inl k1
 · by_cases k4 : k = 4
   · exact .inr (.inl k4)
   · rw [if_neg k1, if_neg k4] at h;by_cases k2 : k = 2
     · rw [if_pos k2] at h;split at h
       · exact .inr (.inr (.inl ⟨k2, by assumption⟩))
       · cases h
     · rw [if_neg k2] at h;by_cases k3 : k = 3
       · rw [if_pos k3] at h;split at h
         · exact .inr (.inr (.inr ⟨k3, by assumption⟩))
         · cases h
       · rw [if_neg k3] at h;cases h
theorem nextE_zero {s : St} {y : Sy} (h : nextE s y = 0) : s.right ∧ formedN y.k y.l y.x = 0 := by
 unfold nextE at h;split at h
 · exact ⟨by assumption, h⟩
 · cases h
theorem keep5 {w1 : World} {N g i : Nat} {v0 v1 v2 v3 v4 : Value} (h : ¬ g = N) : (((((w1.setCell ⟨N, 0, none⟩ v0).setCell ⟨N, 1, none⟩ v1).setCell ⟨N, 2, none⟩ v2).setCell ⟨N, 3, none⟩ v3).setCell ⟨N, 4, none⟩ v4).cell? ⟨g, i, none⟩ = w1.cell? ⟨g, i, none⟩ := by
 have e : ∀ (w : World) (j : Nat) (v : Value), (w.setCell ⟨N, j, none⟩ v).cell? ⟨g, i, none⟩ = w.cell? ⟨g, i, none⟩ := fun w j v => World.cell?_setCell_other w _ _ v (fun e => h (by first | exact (Addr.mk.inj e).1 | exact (Addr.mk.inj e).1.symm))
 rw [e, e, e, e, e]
theorem bd1 {w w1 : World} (h : Below w.drew.heap.size w.drew w1) : Below w.heap.size w w1 := ((Below.refl _ w).drew).trans h
theorem bd2 {w w1 : World} {o : Obj} (h : Below (w.alloc o).drew.heap.size (w.alloc o).drew w1) : Below w.heap.size w w1 := (((Below.refl _ w).alloc (Nat.le_refl _) o).drew).trans (h.mono (by show w.heap.size ≤ (w.alloc o).heap.size; simp))
def syc : List Sy → List Value
 | [] => []
 | y :: r => .int .i64 y.k :: .int .u8 (y.y.toNat : Int) :: .int .i64 y.l :: .int .i64 y.x :: syc r
theorem syc_length (l : List Sy) : (syc l).length = l.length * 4 := by
 induction l with
 | nil => rfl
 | cons y r ih => simp only [syc, List.length_cons, ih]; omega
theorem syc_append (l r : List Sy) : syc (l ++ r) = syc l ++ syc r := by
 induction l with
 | nil => rfl
 | cons y l ih => simp only [syc, List.cons_append, ih]
theorem syc_get {l : List Sy} {i : Nat} {y : Sy} (h : l[i]? = some y) : (syc l)[i * 4]? = some (.int .i64 y.k) ∧ (syc l)[i * 4 + 1]? = some (.int .u8 (y.y.toNat : Int)) ∧ (syc l)[i * 4 + 2]? = some (.int .i64 y.l) ∧ (syc l)[i * 4 + 3]? = some (.int .i64 y.x) := by
 induction l generalizing i with
 | nil => simp at h
 | cons z r ih =>
  cases i with
  | zero =>
   simp at h;subst h;exact ⟨rfl, rfl, rfl, rfl⟩
  | succ i =>
   simp at h;have := ih h;have e : (i + 1) * 4 = i * 4 + 1 + 1 + 1 + 1 := by omega
   rw [e];simp only [syc, List.getElem?_cons_succ, show i * 4 + 1 + 1 + 1 + 1 + 1 = (i * 4 + 1) + 1 + 1 + 1 + 1 from rfl, show i * 4 + 1 + 1 + 1 + 1 + 2 = (i * 4 + 2) + 1 + 1 + 1 + 1 by omega, show i * 4 + 1 + 1 + 1 + 1 + 3 = (i * 4 + 3) + 1 + 1 + 1 + 1 by omega]
   exact this
def InS (w : World) (A : Option Addr) (n : Nat) (l : List Sy) : Prop := Rd w 4 A n (syc l) ∧ (0 < n → ∀ ad, A = some ad → ad.block < w.heap.size ∧ ad.spot = none) ∧ n ≤ 1048600
section
variable {w w' : World} {A : Option Addr} {n c : Nat} {l : List Sy}
theorem InS.len (h : InS w A n l) : l.length = n := by have := h.1.1; rw [syc_length] at this; omega
theorem InS.fr {S : Nat → Prop} (h : InS w A n l) (hf : Fr S w w') (hS : 0 < n → ∀ ad, A = some ad → ¬ S ad.block) : InS w' A n l :=
 ⟨h.1.keep0 fun h0 ad had => hf.block _ (h.2.1 h0 ad had).1 (hS h0 ad had), fun h0 ad had => ⟨Nat.lt_of_lt_of_le (h.2.1 h0 ad had).1 hf.size, (h.2.1 h0 ad had).2⟩, h.2.2⟩
theorem InS.below (h : InS w A n l) (hb : Below w.heap.size w w') : InS w' A n l :=
 h.fr (S := fun _ => False) ⟨hb.os, hb.tape, hb.output, hb.size, fun k hk _ => hb.block k hk⟩ fun _ _ _ e => e
theorem InS.nil (w : World) : InS w none 0 [] := ⟨⟨rfl, fun h => absurd h (by omega)⟩, (fun _ _ h => by cases h), by omega⟩
theorem InS.take {k : Nat} (h : InS w A n l) (hk : k ≤ n) : InS w A k (l.take k) := by
 refine ⟨?_, fun h0 => h.2.1 (by omega), by have := h.2.2; omega⟩
 have := h.1.take hk;have e : (syc l).take (k * 4) = syc (l.take k) := by
  rw [show syc l = syc (l.take k) ++ syc (l.drop k) by rw [← syc_append, List.take_append_drop]]
  rw [List.take_append_of_le_length (by rw [syc_length, List.length_take, h.len]; omega), List.take_of_length_le (by rw [syc_length, List.length_take]; omega)]
 rwa [e] at this
theorem InS.at (h : InS w A n l) {i : Nat} (hi : i < n) : ∃ b off y, A = some ⟨b, off, none⟩ ∧ l[i]? = some y ∧ b < w.heap.size ∧ w.cell? ⟨b, off + i * 4, none⟩ = some (.int .i64 y.k) ∧ w.cell? ⟨b, off + (i * 4 + 1), none⟩ = some (.int .u8 (y.y.toNat : Int)) ∧ w.cell? ⟨b, off + (i * 4 + 2), none⟩ = some (.int .i64 y.l) ∧ w.cell? ⟨b, off + (i * 4 + 3), none⟩ = some (.int .i64 y.x) := by
 obtain ⟨⟨b, off, sp⟩, rfl, hc⟩ := h.1.2 (by omega)
 have hl := h.len;have hs := (h.2.1 (by omega) _ rfl)
 have e : sp = none := hs.2;subst e;have hy : l[i]? = some l[i] := List.getElem?_eq_getElem (by omega)
 obtain ⟨g0, g1, g2, g3⟩ := syc_get hy;have hadd : ∀ j, (⟨b, off, none⟩ : Addr).add j = ⟨b, off + j, none⟩ := fun j => by unfold Addr.add; split <;> simp_all
 have a0 := hc _ _ g0;have a1 := hc _ _ g1;have a2 := hc _ _ g2;have a3 := hc _ _ g3;rw [hadd] at a0 a1 a2 a3;exact ⟨b, off, _, rfl, hy, hs.1, a0, a1, a2, a3⟩
end
section
variable {H : Type} {enc : TypeId × Value → H} {w : World} {b0 : Nat} {held : Bool} {r : Reach}
end
theorem st_five {w : World} {g t : Nat} {n a b c d : Int} (h : Blk w g t (stC n a b c d)) : (w.cell? ⟨g, 0, none⟩ = some (.int .i64 n) ∧ w.cell? ⟨g, 1, none⟩ = some (.int .i64 a) ∧ w.cell? ⟨g, 2, none⟩ = some (.int .i64 b) ∧ w.cell? ⟨g, 3, none⟩ = some (.int .i64 c) ∧ w.cell? ⟨g, 4, none⟩ = some (.int .i64 d)) ∧
 (w.frozen? ⟨g, 0, none⟩ = false ∧ w.frozen? ⟨g, 1, none⟩ = false ∧ w.frozen? ⟨g, 2, none⟩ = false ∧ w.frozen? ⟨g, 3, none⟩ = false ∧ w.frozen? ⟨g, 4, none⟩ = false) := ⟨⟨h.cell 0, h.cell 1, h.cell 2, h.cell 3, h.cell 4⟩, ⟨h.frozen 0, h.frozen 1, h.frozen 2, h.frozen 3, h.frozen 4⟩⟩
theorem set5_st {w : World} {g t : Nat} {n a b c d : Int} (h : Blk w g t (stC n a b c d)) (n' a' b' c' d' : Int) :
 Blk (((((w.setCell ⟨g, 0, none⟩ (.int .i64 n')).setCell ⟨g, 1, none⟩ (.int .i64 a')).setCell ⟨g, 2, none⟩ (.int .i64 b')).setCell ⟨g, 3, none⟩ (.int .i64 c')).setCell ⟨g, 4, none⟩ (.int .i64 d')) g t (stC n' a' b' c' d') :=
 ((((h.set_ 0 _).set_ 1 _).set_ 2 _).set_ 3 _).set_ 4 _
theorem infosy : (Tryz.prog.info? 232).map (fun i => (i.zero, i.size, i.bytes)) = some (some (.agg #[.int .i64 0, .int .u8 0, .int .i64 0, .int .i64 0]), 4, 32) := by kernel_rfl
theorem InS.of_own {w : World} {B : Nat} {A : Option Addr} {n c : Nat} {l : List Sy} (h : w.ownsRow B 232 4 (.slice A n c) n (syc l)) (hn : n ≤ 1048600) : InS w A n l := by
 refine ⟨Rd.of_own h, fun h0 ad had => ⟨(own_lt h (own_addr h had)).2, ?_⟩, hn⟩
 obtain ⟨g, cap, hv, _, _⟩ := h.form h0;injection hv with hA;rw [hA] at had;cases had;rfl
end Go.Proofs.YtcjehjdehdoaeaaGreatDoor
namespace Go.Proofs.YtcjehjdehdoaeaaGreatDoor
open Go.RowKit
def bitsN (i : Nat) : Nat := if i < 4 then 0 else i / 2 - 1
def leastN : Nat → Nat
 | 0 => 1
 | i + 1 => leastN i + 2 ^ bitsN i
theorem least_bits : ∀ s : Fin 64, 4 ≤ s.val → wrap64 (wrap64 (bits BinOp.or IntKind.i64 2 (bits BinOp.and IntKind.i64 (s.val : Int) 1) * 2 ^ (s.val / 2 - 1)) + 1) = (leastN s.val : Int) := by decide +kernel
theorem least_small : ∀ s : Fin 4, leastN s.val = s.val + 1 := by decide +kernel
theorem least_fits : ∀ s : Fin 65, leastN s.val ≤ 4294967297 ∧ bitsN s.val ≤ 31 ∧ 2 ^ bitsN s.val ≤ 4294967296 := by decide +kernel
theorem bitsN_form : ∀ s : Fin 64, 4 ≤ s.val → bitsN s.val = s.val / 2 - 1 := by decide +kernel
theorem Range_no (s : Int) (h : ¬ (0 ≤ s ∧ s < 64)) (w : World) : Calls Tryz.prog 189 #[.int .i64 s] w fun e w' => e = .returned (.tuple #[.int .i64 0, .int .i64 0, .int .i64 7]) ∧ w = w' := by
 by_cases a1 : s < 0
 · go_enter Tryz.func189, Tryz.ntmps189
   go_wp2
   go_ret3
   exact ⟨rfl, rfl⟩
 · have a2 : (63 : Int) < s := by omega
   go_enter Tryz.func189, Tryz.ntmps189
   go_wp2
   go_ret3
   exact ⟨rfl, rfl⟩
theorem Range_yes (s : Nat) (h : s < 64) (w : World) : Calls Tryz.prog 189 #[.int .i64 (s : Int)] w fun e w' => e = .returned (.tuple #[.int .i64 (leastN s : Int), .int .i64 (bitsN s : Int), .int .i64 0]) ∧ w = w' := by
 have a1 : ¬ ((s : Int) < 0) := by omega
 have a2 : ¬ ((63 : Int) < s) := by omega
 by_cases h4 : 4 ≤ s
 · have a3 : ¬ ((s : Int) < 4) := by omega
   have hl := least_bits ⟨s, h⟩ h4;have hb := bitsN_form ⟨s, h⟩ h4;simp only at hl hb;have hb' : (bitsN s : Int) = (s : Int) / 2 - 1 := by omega
   rw [← hl, hb'];clear hl hb hb';go_enter Tryz.func189, Tryz.ntmps189
   go_wp2
   go_ret3
   exact ⟨rfl, rfl⟩
 · have a3 : (s : Int) < 4 := by omega
   have hl := least_small ⟨s, by omega⟩
   simp only at hl;have hb : bitsN s = 0 := by unfold bitsN; rw [if_pos (by omega)]
   rw [hl, hb];clear hl hb;go_enter Tryz.func189, Tryz.ntmps189
   go_wp2
   go_ret3
   exact ⟨by simp, rfl⟩
theorem Three.drew {t : TypeId} {w wx : World} {n a b c d k y l x : Int} (h : Three t w n a b c d k y l x wx) : Three t w n a b c d k y l x wx.drew := ⟨h.1.drew, h.2.1.drew, h.2.2.1.drew, h.2.2.2.drew⟩
end Go.Proofs.YtcjehjdehdoaeaaGreatDoor
