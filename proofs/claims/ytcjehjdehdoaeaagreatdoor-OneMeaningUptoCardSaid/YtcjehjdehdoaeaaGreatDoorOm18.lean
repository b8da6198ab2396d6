/-
  Laws on the way to the claim (OqF OqG OqH). Conditions: those that each theorem states.
-/
import Derived.Test.YtcjehjdehdoaeaaGreatDoorOm16
import Derived.Test.YtcjehjdehdoaeaaGreatDoorOm17
set_option linter.unusedVariables false
set_option linter.unusedSimpArgs false
set_option maxRecDepth 1000000
set_option maxHeartbeats 16000000
namespace Go.Proofs.YtcjehjdehdoaeaaGreatDoor
open Go.RowKit
def kindI (f : UInt8) : Int := if f.toNat ≤ 2 then (f.toNat : Int) else if f.toNat < 128 then -1 else 3 + ((f.toNat / 32 % 4 : Nat) : Int)
theorem and3u8 (n : Nat) (h : n < 256) : bits .and .u8 (n : Int) 3 = ((n % 4 : Nat) : Int) := by
 show IntKind.u8.wrap ((BitVec.ofInt 8 (n : Int) &&& BitVec.ofInt 8 3).toNat : Int) = _;have h2 : (BitVec.ofInt 8 (n : Int) &&& BitVec.ofInt 8 3).toNat = n % 4 := by
  rw [BitVec.toNat_and, show (BitVec.ofInt 8 3).toNat = 2 ^ 2 - 1 from rfl, Nat.and_two_pow_sub_one_eq_mod, BitVec.toNat_ofInt]
  omega
 rw [h2, IntKind.wrap_u8];omega
theorem kindOf_any (f : UInt8) (w : World) : Calls Tryz.prog 203 #[.int .u8 (f.toNat : Int)] w fun e w' => e = .returned (.int .i64 (kindI f)) ∧ w' = w := by
 have hf := f.toNat_lt;unfold kindI;obtain ⟨n, hn⟩ : ∃ n, f.toNat = n := ⟨_, rfl⟩;rw [hn] at hf ⊢;have hn255 : n ≤ 255 := by omega
 clear hn;by_cases h2 : n ≤ 2
 · rw [if_pos h2];have h2' : (n : Int) ≤ 2 := by omega
   go_enter Tryz.func203, Tryz.ntmps203;go_wp2_with fail;go_ret;exact ⟨rfl, rfl⟩
 · rw [if_neg h2];have h2' : ¬ (n : Int) ≤ 2 := by omega
   by_cases h3 : n < 128
   · rw [if_pos h3];have h3' : (n : Int) < 128 := by omega
     go_enter Tryz.func203, Tryz.ntmps203;go_wp2_with fail;go_ret;exact ⟨rfl, rfl⟩
   · rw [if_neg h3];have h3' : ¬ (n : Int) < 128 := by omega
     have ha := and3u8 (n / 32) (by omega)
     rw [show ((n / 32 : Nat) : Int) = (n : Int) / 32 by omega] at ha
     obtain ⟨m, hm⟩ : ∃ m, n / 32 % 4 = m := ⟨_, rfl⟩;have hm3 : m ≤ 3 := by omega
     rw [hm] at ha ⊢;clear hm;go_enter Tryz.func203, Tryz.ntmps203;go_wp2_with fail;go_ret;exact ⟨rfl, rfl⟩
def beyondB (told n : Int) : Bool := decide (0 ≤ told) && decide (told < n)
theorem beyond_any (told n : Int) (w : World) : Calls Tryz.prog 202 #[.int .i64 told, .int .i64 n] w fun e w' => e = .returned (.bool (beyondB told n)) ∧ w' = w := by
 unfold beyondB;by_cases h0 : 0 ≤ told
 · rw [decide_eq_true h0, Bool.true_and];obtain ⟨b, hb⟩ : ∃ b, decide (told < n) = b := ⟨_, rfl⟩;rw [hb];go_enter Tryz.func202, Tryz.ntmps202;go_wp2_with fail;go_ret;exact ⟨rfl, rfl⟩
 · rw [decide_eq_false h0, Bool.false_and];have h0' : decide (0 ≤ told) = false := decide_eq_false h0;go_enter Tryz.func202, Tryz.ntmps202;go_wp2_with fail;go_ret;exact ⟨rfl, rfl⟩
def moveN (s k : Nat) : Nat := ([[3, 1, 4, 4, 4, 4, 2], [3, 1, 1, 4, 4, 2, 2], [3, 1, 2, 2, 2, 2, 2], [4, 4, 4, 4, 4, 4, 4]].getD s []).getD k 4
theorem moveN_le {s k : Nat} (hs : s < 4) (hk : k < 7) : moveN s k ≤ 4 := (by decide : ∀ s : Fin 4, ∀ k : Fin 7, moveN s.val k.val ≤ 4) ⟨s, hs⟩ ⟨k, hk⟩
def LaidM (w : World) : Prop := 17 < w.heap.size ∧ ∀ s k : Nat, s < 4 → k < 7 → w.cell? ⟨17, s * 7 + k, none⟩ = some (.int .i64 (moveN s k))
theorem LaidM.low {w w' : World} {B : Nat} (h : LaidM w) (hb : Below B w w') (hB : 17 < B) : LaidM w' := ⟨Nat.lt_of_lt_of_le h.1 hb.size, fun s k hs hk => (hb.cell (p := ⟨17, s * 7 + k, none⟩) hB).trans (h.2 s k hs hk)⟩
theorem LaidM.below {w w' : World} (h : LaidM w) (hb : Below w.heap.size w w') : LaidM w' := h.low hb h.1
theorem NewOrder_any (w : World) : Calls Tryz.prog 192 #[] w fun e w' => e = .returned (.pointer (some ⟨w.heap.size, 0, none⟩)) ∧ w' = w.alloc (.cells #[.int .i64 0] 363) := by
 go_enter Tryz.func192, Tryz.ntmps192;go_wp2_with fail;go_ret;exact ⟨rfl, rfl⟩
theorem Ended_any (o s : Nat) (w : World) (h : Blk w o 363 #[.int .i64 s]) : Calls Tryz.prog 193 #[.pointer (some ⟨o, 0, none⟩)] w fun e w' => e = .returned (.bool (decide (s = 3))) ∧ w' = w := by
 have c0 := h.one;by_cases h3 : s = 3
 · rw [decide_eq_true h3];have h1 : ((s : Int) == 3) = true := beq_iff_eq.2 (by omega)
   have h2 : (s == 3) = true := beq_iff_eq.2 h3;clear h h3;go_enter Tryz.func193, Tryz.ntmps193;go_wp2_with fail;go_ret;exact ⟨rfl, rfl⟩
 · rw [decide_eq_false h3];have h1 : ((s : Int) == 3) = false := beq_eq_false_iff_ne.2 (by omega)
   have h2 : (s == 3) = false := beq_eq_false_iff_ne.2 h3;clear h h3;go_enter Tryz.func193, Tryz.ntmps193;go_wp2_with fail;go_ret;exact ⟨rfl, rfl⟩
theorem ONext_any (o s k : Nat) (w : World) (h : Blk w o 363 #[.int .i64 s]) (hs : s < 4) (hk : k < 7) (hl : LaidM w) :
 Calls Tryz.prog 204 #[.pointer (some ⟨o, 0, none⟩), .int .i64 k] w fun e w' => e = .returned (.int .i64 (if moveN s k = 4 then 2 else 0)) ∧ Blk w' o 363 #[.int .i64 (if moveN s k = 4 then s else moveN s k : Nat)] ∧ Fr (fun x => x = o) w w' := by
 have c0 := h.one;have f0 := h.frozen 0;have cm := hl.2 s k hs hk;have hs' : (s : Int) < 4 := by omega
 have hk' : (k : Int) < 7 := by omega
 have hk0 : ¬ (k : Int) < 0 := by omega
 have hk7 : ¬ (7 : Int) ≤ (k : Int) := by omega
 have H := Lib.hid h;obtain ⟨m, hm⟩ : ∃ m, moveN s k = m := ⟨_, rfl⟩;rw [hm] at cm ⊢;clear h hm hl;by_cases h4 : m = 4
 · rw [if_pos h4, if_pos h4];have h1 : ((m : Int) == 4) = true := beq_iff_eq.2 (by omega)
   have h2 : (m == 4) = true := beq_iff_eq.2 h4;clear h4;go_enter Tryz.func204, Tryz.ntmps204;go_wp2_with fail;go_ret;exact ⟨rfl, H.out, Fr.refl _ _⟩
 · rw [if_neg h4, if_neg h4];have h1 : ((m : Int) == 4) = false := beq_eq_false_iff_ne.2 (by omega)
   have h2 : (m == 4) = false := beq_eq_false_iff_ne.2 h4;clear h4;go_enter Tryz.func204, Tryz.ntmps204;go_wp2_with fail;go_ret;exact ⟨rfl, H.out.set_ 0 _, Fr.set1 (Fr.refl _ _) 0 _⟩
def dictN (b : Nat) : Nat := if b = 40 then 4294967295 else (2 + b % 2) * 2 ^ (b / 2 + 11)
theorem dictN_wrap : ∀ b : Fin 40, wrap64 ((2 + (b.val : Int) % 2) * 2 ^ (b.val / 2 + 11)) = (dictN b.val : Int) := by decide +kernel
theorem dict_any (b : Nat) (w : World) (h : b ≤ 40) : Calls Tryz.prog 76 #[.int .i64 b] w fun e w' => e = .returned (.int .i64 (dictN b)) ∧ w' = w := by
 by_cases h40 : b = 40
 · subst h40;go_enter Tryz.func76, Tryz.ntmps76;go_wp2_with fail;go_ret;exact ⟨rfl, rfl⟩
 · have h1 : ((b : Int) == 40) = false := beq_eq_false_iff_ne.2 (by omega)
   have h2 : (b == 40) = false := beq_eq_false_iff_ne.2 h40;have hw := dictN_wrap ⟨b, by omega⟩
   simp only [] at hw;obtain ⟨d, hd⟩ : ∃ d, dictN b = d := ⟨_, rfl⟩;rw [hd] at hw ⊢;clear h40 hd;go_enter Tryz.func76, Tryz.ntmps76;go_wp2_with fail;go_ret;refine ⟨?_, rfl⟩;show Ending.returned (.int .i64 _) = _
   congr 2
theorem ByteDict_any (b : Nat) (w : World) (h : b ≤ 255) : Calls Tryz.prog 170 #[.int .i64 b] w fun e w' => e = .returned (.tuple #[.int .i64 (if b ≤ 40 then dictN b else 0 : Nat), .int .i64 (if b ≤ 40 then 0 else 4)]) ∧ w' = w := by
 have h0 : ¬ (b : Int) < 0 := by omega
 have h1 : ¬ 255 < (b : Int) := by omega
 by_cases h40 : b ≤ 40
 · rw [if_pos h40, if_pos h40];have h2 : ¬ 40 < (b : Int) := by omega
   have HD := Lib.hid (dict_any b w h40);obtain ⟨d, hd⟩ : ∃ d, dictN b = d := ⟨_, rfl⟩;rw [hd] at HD ⊢;clear hd;go_enter Tryz.func170, Tryz.ntmps170;go_wp2_with fail;refine HD.out.mono ?_;rintro e w' ⟨rfl, rfl⟩;go_wp2_with fail
   go_ret2
   exact ⟨rfl, rfl⟩
 · rw [if_neg h40, if_neg h40];have h2 : 40 < (b : Int) := by omega
   go_enter Tryz.func170, Tryz.ntmps170;go_wp2_with fail
   go_ret2
   exact ⟨rfl, rfl⟩
end Go.Proofs.YtcjehjdehdoaeaaGreatDoor
namespace Go.Proofs.YtcjehjdehdoaeaaGreatDoor
open Go.RowKit
structure RwX where
 b : Nat
 o : Nat
 A : Option Addr
 c : Nat
 l : List UInt8
 packed : Int
 size : Int
structure RwS where
 at_ : Nat
 plain : Nat
 ord : Nat
structure Rw (x : RwX) (s : RwS) (w : World) : Prop where
 b : Blk w x.b 353 #[.slice x.A x.l.length x.c, .int .i64 s.at_, .int .i64 s.plain, .int .i64 x.packed, .int .i64 x.size, .pointer (some ⟨x.o, 0, none⟩)]
 o : Blk w x.o 363 #[.int .i64 s.ord]
 d : In w x.A x.l.length x.l
 c : x.l.length ≤ x.c
 i : s.at_ ≤ x.l.length
 p : s.plain ≤ 4398046511104
 r : s.ord < 4
 n : ∀ ad, x.A = some ad → 0 < x.l.length → ad.block ≠ x.b ∧ ad.block ≠ x.o
 z : x.l.length ≤ 1099511627776
section
variable {x : RwX} {s : RwS} {w w' : World}
theorem Rw.below (h : Rw x s w) (hb : Below w.heap.size w w') : Rw x s w' := ⟨h.b.below hb, h.o.below hb, h.d.below hb, h.c, h.i, h.p, h.r, h.n, h.z⟩
theorem Rw.ne (h : Rw x s w) : x.b ≠ x.o := BT.ne ⟨_, h.b⟩ ⟨_, h.o⟩ (by decide)
theorem Rw.six (h : Rw x s w) : w.cell? ⟨x.b, 0, none⟩ = some (.slice x.A x.l.length x.c) ∧ w.cell? ⟨x.b, 1, none⟩ = some (.int .i64 s.at_) ∧ w.cell? ⟨x.b, 2, none⟩ = some (.int .i64 s.plain) ∧ w.cell? ⟨x.b, 3, none⟩ = some (.int .i64 x.packed) ∧ w.cell? ⟨x.b, 4, none⟩ = some (.int .i64 x.size) ∧ w.cell? ⟨x.b, 5, none⟩ = some (.pointer (some ⟨x.o, 0, none⟩)) :=
 ⟨h.b.cell 0, h.b.cell 1, h.b.cell 2, h.b.cell 3, h.b.cell 4, h.b.cell 5⟩
theorem Rw.fr (h : Rw x s w) {S : Nat → Prop} (hf : Fr S w w') (h1 : ¬ S x.b) (h2 : ¬ S x.o) (h3 : 0 < x.l.length → ∀ ad, x.A = some ad → ¬ S ad.block) : Rw x s w' :=
 ⟨h.b.fr hf h1, h.o.fr hf h2, h.d.fr hf h3, h.c, h.i, h.p, h.r, h.n, h.z⟩
end
def endsB (packed size : Int) (s : RwS) : Bool := (decide (packed < 0) || decide (packed = s.at_ + 1)) && (decide (size < 0) || decide (size = s.plain))
theorem ends_row (x : RwX) (s : RwS) (w : World) (h : Rw x s w) : Calls Tryz.prog 205 #[.pointer (some ⟨x.b, 0, none⟩)] w fun e w' => e = .returned (.bool (endsB x.packed x.size s)) ∧ ∃ n, w' = w.drewN n := by
 obtain ⟨c0, c1, c2, c3, c4, c5⟩ := h.six;have hz := h.z;have hi := h.i;have hw1 : IntKind.i64.wrap ((s.at_ : Int) + 1) = (s.at_ : Int) + 1 := IntWalk.i64_in _ (by omega)
 obtain ⟨P, hP⟩ : ∃ P, x.packed = P := ⟨_, rfl⟩;obtain ⟨Z, hZ⟩ : ∃ Z, x.size = Z := ⟨_, rfl⟩;obtain ⟨at_, plain, ord⟩ := s;rw [hP] at c3 ⊢;rw [hZ] at c4 ⊢;simp only [] at c1 c2 hi hw1;unfold endsB;simp only [];clear h hP hZ c5 c0;obtain ⟨b1, hb1⟩ : ∃ z, (decide (P < 0) || decide (P = (at_ : Int) + 1)) = z := ⟨_, rfl⟩
 obtain ⟨b2, hb2⟩ : ∃ z, (decide (Z < 0) || decide (Z = (plain : Int))) = z := ⟨_, rfl⟩
 rw [hb1, hb2];by_cases p0 : P < 0
 · have q1 : b1 = true := by rw [← hb1, decide_eq_true p0]; rfl
   subst q1;clear hb1;by_cases z0 : Z < 0
   · have q2 : b2 = true := by rw [← hb2, decide_eq_true z0]; rfl
     subst q2;clear hb2;go_enter Tryz.func205, Tryz.ntmps205;go_wp2_with fail
     go_quiet (fail)
     go_wp2_with fail;go_ret;exact ⟨rfl, _, rfl⟩
   · have z0' : decide (Z < 0) = false := decide_eq_false z0;have q2 : (Z == (plain : Int)) = b2 := by rw [← hb2, z0', Bool.false_or]; rfl
     have q3 : decide (Z = (plain : Int)) = b2 := by rw [← hb2, z0', Bool.false_or]
     clear hb2 z0;go_enter Tryz.func205, Tryz.ntmps205;go_wp2_with fail
     go_quiet (fail)
     go_wp2_with fail;go_ret;exact ⟨rfl, _, rfl⟩
 · have p0' : decide (P < 0) = false := decide_eq_false p0;by_cases p1 : P = (at_ : Int) + 1
   · have q1 : b1 = true := by rw [← hb1, decide_eq_true p1]; simp
     subst q1;have p1' : (P == (at_ : Int) + 1) = true := beq_iff_eq.2 p1;have HP1 := Lib.hid p1;clear hb1 p1 p0;by_cases z0 : Z < 0
     · have q2 : b2 = true := by rw [← hb2, decide_eq_true z0]; rfl
       subst q2;clear hb2;go_enter Tryz.func205, Tryz.ntmps205;go_wp2_with fail
       go_quiet (fail)
       go_wp2_with fail;go_ret;exact ⟨rfl, _, rfl⟩
     · have z0' : decide (Z < 0) = false := decide_eq_false z0;have q2 : (Z == (plain : Int)) = b2 := by rw [← hb2, z0', Bool.false_or]; rfl
       clear hb2 z0;go_enter Tryz.func205, Tryz.ntmps205;go_wp2_with fail
       go_quiet (fail)
       go_wp2_with fail;go_ret;exact ⟨rfl, _, rfl⟩
   · have q1 : b1 = false := by rw [← hb1, p0', decide_eq_false p1]; rfl
     subst q1;have p1' : (P == (at_ : Int) + 1) = false := beq_eq_false_iff_ne.2 p1;clear hb1 p1 p0 hb2;go_enter Tryz.func205, Tryz.ntmps205;go_wp2_with fail
     go_quiet (fail)
     go_wp2_with fail;go_ret;exact ⟨rfl, _, rfl⟩
end Go.Proofs.YtcjehjdehdoaeaaGreatDoor
namespace Go.Proofs.YtcjehjdehdoaeaaGreatDoor
open Go.RowKit
structure NxR where
 c : Ck
 fr : Nat
 e : Nat
 pl : Nat
 s : RwS
def NxR.no (s : RwS) (e pl : Nat) : NxR := ⟨.zero, 0, e, pl, s⟩
def nextC (l : List UInt8) (packed size : Int) (s : RwS) (o : Nat) (r : CkR) : NxR :=
 if r.e ≠ 0 then .no s r.e s.at_
 else if (beyondB packed ((s.at_ + r.n + r.c.p : Nat) : Int) || beyondB size ((s.plain + r.c.n : Nat) : Int)) = true then .no s 2 s.at_
 else if l.length - (s.at_ + r.n) < r.c.p then .no s 1 (s.at_ + r.n)
 else ⟨r.c, s.at_ + r.n, 0, s.at_ + r.n, ⟨s.at_ + r.n + r.c.p, s.plain + r.c.n, o⟩⟩
def nextF (l : List UInt8) (packed size : Int) (s : RwS) : NxR :=
 if beyondB packed ((s.at_ + 1 : Nat) : Int) = true then .no s 2 s.at_
 else if s.at_ = l.length then .no s 1 s.at_
 else if kindI (l.getD s.at_ 0) < 0 then .no s 2 s.at_
 else if moveN s.ord (kindI (l.getD s.at_ 0)).toNat = 4 then .no s 2 s.at_
 else if kindI (l.getD s.at_ 0) = 0 ∧ endsB packed size s = false then .no s 2 s.at_
 else nextC l packed size s (moveN s.ord (kindI (l.getD s.at_ 0)).toNat) (ckF (l.drop s.at_))
def NxPost (x : RwX) (r : NxR) (w : World) (e : Ending) (w' : World) : Prop :=
 Fr (fun k => k = x.b ∨ k = x.o) w w' ∧
 (if r.e = 0 then ∃ A' c', e = .returned (.tuple #[.agg r.c.cs, .slice A' r.c.p c', .int .i64 r.pl, .int .i64 0]) ∧ In w' A' r.c.p ((x.l.drop r.fr).take r.c.p) ∧ r.c.p ≤ c' ∧ (∀ ad, A' = some ad → ∃ a0, x.A = some a0 ∧ ad.block = a0.block) ∧ Rw x r.s w'
  else e = .returned (.tuple #[.agg Ck.zero.cs, .slice none 0 0, .int .i64 r.pl, .int .i64 r.e]))
structure NxW (x : RwX) (s : RwS) (R N : Nat) (w w' : World) : Prop where
 r : Blk w' R 223 #[.int .i64 0, .int .i64 0, .int .i64 0, .int .i64 0, .int .i64 0, .int .i64 0]
 n : Blk w' N 223 #[.int .i64 0, .int .i64 0, .int .i64 0, .int .i64 0, .int .i64 0, .int .i64 0]
 j : Rw x s w'
 f : Fr (fun k => k = x.b ∨ k = x.o) w w'
 o : w.heap.size ≤ R ∧ R < N
section
variable {x : RwX} {s s' : RwS} {R N : Nat} {w w' w'' : World}
theorem NxW.below (h : NxW x s R N w w') (hb : Below w'.heap.size w' w'') : NxW x s R N w w'' := ⟨h.r.below hb, h.n.below hb, h.j.below hb, h.f.of_below' hb, h.o⟩
theorem NxW.drewN (h : NxW x s R N w w') (n : Nat) : NxW x s R N w (w'.drewN n) := h.below (below_drewN (Below.refl _ _) n)
theorem NxW.cells (h : NxW x s R N w w') : (w'.cell? ⟨R, 0, none⟩ = some (.int .i64 0) ∧ w'.cell? ⟨R, 1, none⟩ = some (.int .i64 0) ∧ w'.cell? ⟨R, 2, none⟩ = some (.int .i64 0) ∧ w'.cell? ⟨R, 3, none⟩ = some (.int .i64 0) ∧ w'.cell? ⟨R, 4, none⟩ = some (.int .i64 0) ∧ w'.cell? ⟨R, 5, none⟩ = some (.int .i64 0)) ∧
 (w'.frozen? ⟨R, 0, none⟩ = false ∧ w'.frozen? ⟨R, 1, none⟩ = false ∧ w'.frozen? ⟨R, 2, none⟩ = false ∧ w'.frozen? ⟨R, 3, none⟩ = false ∧ w'.frozen? ⟨R, 4, none⟩ = false ∧ w'.frozen? ⟨R, 5, none⟩ = false) ∧
 (w'.cell? ⟨N, 0, none⟩ = some (.int .i64 0) ∧ w'.cell? ⟨N, 1, none⟩ = some (.int .i64 0) ∧ w'.cell? ⟨N, 2, none⟩ = some (.int .i64 0) ∧ w'.cell? ⟨N, 3, none⟩ = some (.int .i64 0) ∧ w'.cell? ⟨N, 4, none⟩ = some (.int .i64 0) ∧ w'.cell? ⟨N, 5, none⟩ = some (.int .i64 0)) :=
 ⟨⟨h.r.cell 0, h.r.cell 1, h.r.cell 2, h.r.cell 3, h.r.cell 4, h.r.cell 5⟩, ⟨h.r.frozen 0, h.r.frozen 1, h.r.frozen 2, h.r.frozen 3, h.r.frozen 4, h.r.frozen 5⟩, ⟨h.n.cell 0, h.n.cell 1, h.n.cell 2, h.n.cell 3, h.n.cell 4, h.n.cell 5⟩⟩
theorem NxW.to (h : NxW x s R N w w') (hj : Rw x s' w'') (hf : Fr (fun k => k = x.b ∨ k = x.o) w' w'') : NxW x s' R N w w'' := by
 have hne : ∀ {g : Nat}, BT w' g 223 → ¬ (g = x.b ∨ g = x.o) := fun hg e => by
  rcases e with e | e
  · exact BT.ne hg ⟨_, h.j.b⟩ (by decide) e
  · exact BT.ne hg ⟨_, h.j.o⟩ (by decide) e
 exact ⟨h.r.fr hf (hne ⟨_, h.r⟩), h.n.fr hf (hne ⟨_, h.n⟩), hj, h.f.trans hf, h.o⟩
def six (w : World) (R : Nat) (c : Ck) : World := (((((w.setCell ⟨R, 0, none⟩ (.int .i64 c.k)).setCell ⟨R, 1, none⟩ (.int .i64 c.n)).setCell ⟨R, 2, none⟩ (.int .i64 c.p)).setCell ⟨R, 3, none⟩ (.int .i64 c.lc)).setCell ⟨R, 4, none⟩ (.int .i64 c.lp)).setCell ⟨R, 5, none⟩ (.int .i64 c.pb)
theorem NxW.out (h : NxW x s R N w w') (c : Ck) : Blk (six w' R c) R 223 c.cs ∧ Fr (fun k => k = x.b ∨ k = x.o) w (six w' R c) ∧ Rw x s (six w' R c) ∧ Fr (fun k => k = R) w' (six w' R c) := by
 have hf : Fr (fun k => k = R) w' (six w' R c) := Fr.set1 (Fr.set1 (Fr.set1 (Fr.set1 (Fr.set1 (Fr.set1 (Fr.refl _ _) 0 _) 1 _) 2 _) 3 _) 4 _) 5 _
 have ho := h.o;have hB := (((((h.r.set_ 0 (.int .i64 c.k)).set_ 1 (.int .i64 c.n)).set_ 2 (.int .i64 c.p)).set_ 3 (.int .i64 c.lc)).set_ 4 (.int .i64 c.lp)).set_ 5 (.int .i64 c.pb);have hB2 : Blk (six w' R c) R 223 c.cs := by
  unfold six;simpa [Ck.cs] using hB
 refine ⟨hB2, h.f.trans' hf (fun i hi e => by omega), h.j.fr hf (BT.ne ⟨_, h.j.b⟩ ⟨_, h.r⟩ (by decide)) (BT.ne ⟨_, h.j.o⟩ ⟨_, h.r⟩ (by decide)) (fun h0 ad had e => ?_), hf⟩
 obtain ⟨ad', hA, hc⟩ := h.j.d.1.2 h0;rw [had] at hA;injection hA with hA;subst hA;have hl := h.j.d.len;obtain ⟨z, hz⟩ : ∃ z, x.l[0]? = some z := ⟨_, List.getElem?_eq_getElem h0⟩;have h1 := hc 0 _ (bys_get hz);obtain ⟨gb, go, gs⟩ := ad;have hs : gs = none := by simpa [Addr.add] using World.cell?_spot h1
 subst hs;simp only [] at e;subst e;rw [show (⟨gb, go, none⟩ : Addr).add 0 = ⟨gb, go, none⟩ from rfl, h.r.cell go] at h1
 rcases go with _ | _ | _ | _ | _ | _ | go <;> simp at h1
end
theorem nx_err {x : RwX} {s : RwS} {R N : Nat} {w w' w9 : World} {a : Act} (h : NxW x s R N w w') (pl e : Nat) {r : NxR} (hr : r.e = e ∧ r.pl = pl) (he : e ≠ 0) (hw : w9 = six w' R .zero ∨ w9 = (six w' R .zero).drew)
 (ht : a.tmps[2]? = some (.pointer (some ⟨R, 0, none⟩)) ∧ a.tmps[3]? = some (.slice none 0 0) ∧ a.tmps[4]? = some (.int .i64 pl) ∧ a.tmps[5]? = some (.int .i64 e)) (hd : a.defers = [] := by rfl) :
 bodyPost Tryz.prog Tryz.f194 (NxPost x r w) .ret a w9 := by
 obtain ⟨h1, h2, _, _⟩ := h.out .zero;have hB : Blk w9 R 223 Ck.zero.cs := by
  rcases hw with e | e
  · rw [e]; exact h1
  · rw [e]; exact h1.drew
 have hF : Fr (fun k => k = x.b ∨ k = x.o) w w9 := by
  rcases hw with e | e
  · rw [e]; exact h2
  · rw [e]; exact h2.drew
 have c0 := hB.cell 0;have c1 := hB.cell 1;have c2 := hB.cell 2;have c3 := hB.cell 3;have c4 := hB.cell 4;have c5 := hB.cell 5;simp [Ck.cs, Ck.zero] at c0 c1 c2 c3 c4 c5;refine bodyPost_ret (v := .tuple #[.agg Ck.zero.cs, .slice none 0 0, .int .i64 pl, .int .i64 e]) (by simp [results, Tryz.results194, go_sem, ht.1, ht.2.1, ht.2.2.1, ht.2.2.2, c0, c1, c2, c3, c4, c5, Ck.cs, Ck.zero]) hd ⟨hF, ?_⟩
 rw [hr.1, hr.2, if_neg he]
end Go.Proofs.YtcjehjdehdoaeaaGreatDoor
