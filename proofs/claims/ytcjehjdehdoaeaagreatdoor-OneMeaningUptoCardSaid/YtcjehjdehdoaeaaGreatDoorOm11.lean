/-
  Laws on the way to the claim (OpK OpL OpM OpN). Conditions: those that each theorem states.
-/
import Derived.Test.YtcjehjdehdoaeaaGreatDoorOm07
import Derived.Test.YtcjehjdehdoaeaaGreatDoorOm10
set_option linter.unusedVariables false
set_option linter.unusedSimpArgs false
set_option maxRecDepth 1000000
set_option maxHeartbeats 16000000
namespace Go.Proofs.YtcjehjdehdoaeaaGreatDoor
open Go.RowKit
structure TbX where
 tb : Nat
 l : List (Nat × Nat)
structure Tb where
 lc : Nat
 lp : Nat
 pb : Nat
 s : St
 ps : List (List Int)
def TbX.sb (x : TbX) (k : Nat) : Nat := (x.l.getD k (0, 0)).1
def TbX.rb (x : TbX) (k : Nat) : Nat := (x.l.getD k (0, 0)).2
def ptrV (b : Nat) : Value := .pointer (some ⟨b, 0, none⟩)
def tbC (x : TbX) (t : Tb) : Array Value := #[.int .i64 t.lc, .int .i64 t.lp, .int .i64 t.pb, .int .i64 t.s.n, .int .i64 t.s.a, .int .i64 t.s.b, .int .i64 t.s.c, .int .i64 t.s.d,
 ptrV (x.sb 0), ptrV (x.sb 1), ptrV (x.sb 2), ptrV (x.sb 3), ptrV (x.sb 4), ptrV (x.sb 5), ptrV (x.sb 6), ptrV (x.sb 7), ptrV (x.sb 8), ptrV (x.sb 9), ptrV (x.sb 10), ptrV (x.sb 11), ptrV (x.sb 12), ptrV (x.sb 13), ptrV (x.sb 14), ptrV (x.sb 15), ptrV (x.sb 16), ptrV (x.sb 17)]
structure TbIn (B : Nat) (x : TbX) (t : Tb) (w : World) : Prop where
 b : Blk w x.tb 254 (tbC x t)
 s : SetsL B x.l t.ps w
 n : x.l.length = 18
 p : t.lc + t.lp ≤ 4 ∧ t.pb ≤ 4
 o : B ≤ x.tb
def Tb.new (lc lp pb : Nat) : Tb := ⟨lc, lp, pb, St.start, [halfs 192, halfs 192, halfs 12, halfs 12, halfs 12, halfs 12, halfs (768 * 2 ^ (lc + lp)), halfs 2, halfs 128, halfs 128, halfs 256, halfs 2, halfs 128, halfs 128, halfs 256, halfs 256, halfs 128, halfs 16]⟩
section
variable {B : Nat} {x : TbX} {t : Tb} {w w' : World}
theorem TbIn.below (h : TbIn B x t w) (hb : Below w.heap.size w w') : TbIn B x t w' := ⟨h.b.below hb, h.s.below hb, h.n, h.p, h.o⟩
theorem TbIn.fr (h : TbIn B x t w) {S : Nat → Prop} (hf : Fr S w w') (h0 : ¬ S x.tb) (h1 : ∀ g, BT w g 334 → ¬ S g) (h2 : ∀ g, BT w g 3 → ¬ S g) : TbIn B x t w' := ⟨h.b.fr hf h0, h.s.fr hf h1 h2, h.n, h.p, h.o⟩
theorem TbIn.set (h : TbIn B x t w) {k : Nat} (hk : k < 18) : Ps (x.sb k) (x.rb k) (t.ps.getD k []) w := (h.s.2 k (by rw [h.n]; exact hk)).1
theorem TbIn.base (h : TbIn B x t w) {k : Nat} (hk : k < 18) : B ≤ x.sb k ∧ B ≤ x.rb k := ⟨(h.s.2 k (by rw [h.n]; exact hk)).2.1, (h.s.2 k (by rw [h.n]; exact hk)).2.2.1⟩
theorem TbIn.put (h : TbIn B x t w) {k : Nat} (hk : k < 18) {q : List Int} (hq : Ps (x.sb k) (x.rb k) q w') {S : Nat → Prop} (hf : Fr S w w') (hS : ∀ g, BT w g 3 → S g → g = x.rb k) (h0 : ¬ S x.tb) (h1 : ∀ g, BT w g 334 → ¬ S g) : TbIn B x { t with ps := t.ps.set k q } w' := by
 refine ⟨h.b.fr hf h0, ⟨by rw [List.length_set]; exact h.s.1, fun j hj => ?_⟩, h.n, h.p, h.o⟩
 have hj' := h.s.2 j hj;by_cases e : j = k
 · subst e;have e1 : (t.ps.set j q).getD j [] = q := by
    have : j < t.ps.length := by rw [← h.s.1]; exact hj
    simp [List.getD, this]
   show Ps _ _ ((t.ps.set j q).getD j []) w' ∧ _;rw [e1];exact ⟨hq, hj'.2⟩
 · have e1 : (t.ps.set k q).getD j [] = t.ps.getD j [] := by simp [List.getD, List.getElem?_set_ne (fun h => e h.symm)]
   show Ps _ _ ((t.ps.set k q).getD j []) w' ∧ _;rw [e1];refine ⟨hj'.1.fr hf (h1 _ ⟨_, hj'.1.s⟩) (fun hs => ?_), hj'.2⟩
   have := hS _ ⟨_, hj'.1.r⟩ hs;have hk' := h.s.2 k (by rw [h.n]; exact hk)
   unfold TbX.rb at this;rcases Nat.lt_or_gt_of_ne e with hlt | hlt
   · have := hk'.2.2.2 j hlt; omega
   · have := hj'.2.2.2 k hlt; omega
end
def MNewPost (lc lp pb : Nat) (w : World) (e : Ending) (w' : World) : Prop := ∃ x : TbX, e = .returned (.pointer (some ⟨x.tb, 0, none⟩)) ∧ TbIn w.heap.size x (Tb.new lc lp pb) w' ∧ Below w.heap.size w w'
theorem wrap768 {k : Nat} (h : k ≤ 4) : IntKind.i64.wrap (768 * 2 ^ k) = ((768 * 2 ^ k : Nat) : Int) := by
 obtain rfl | rfl | rfl | rfl | rfl : k = 0 ∨ k = 1 ∨ k = 2 ∨ k = 3 ∨ k = 4 := by omega
 all_goals decide
theorem SNew_agg (w : World) : Calls Tryz.prog 80 #[] w fun e w' => e = .returned (.agg #[.int .i64 0, .int .i64 1, .int .i64 1, .int .i64 1, .int .i64 1]) ∧ Below w.heap.size w w' := New_any w
theorem mnew_fin {w w1 wq : World} {lc lp pb : Nat} {l : List (Nat × Nat)} {ps : List (List Int)} {cs : Array Value} (hS : SetsL w.heap.size l ps wq) (hl : l.length = 18) (hps : ps = (Tb.new lc lp pb).ps) (hc : cs = tbC ⟨wq.heap.size, l⟩ (Tb.new lc lp pb))
 (hB : Below w.heap.size w w1) (hb : Below w1.heap.size w1 wq) (h1 : lc + lp ≤ 4) (h2 : pb ≤ 4) : MNewPost lc lp pb w (.returned (.pointer (some ⟨wq.heap.size, 0, none⟩))) (wq.alloc (.cells cs 254)) := by
 subst hps hc;refine ⟨⟨wq.heap.size, l⟩, rfl, ⟨Blk.new wq _ _, hS.below ((Below.refl _ _).alloc (Nat.le_refl _) _), hl, ⟨h1, h2⟩, ?_⟩, bup hB (bmk_ hb _)⟩;have := hB.size;have := hb.size;show w.heap.size ≤ wq.heap.size;omega
theorem MNew_any (lc lp pb : Nat) (w : World) (h1 : lc + lp ≤ 4) (h2 : pb ≤ 4) :
 Calls Tryz.prog 100 #[.agg #[.int .i64 lc, .int .i64 lp, .int .i64 pb]] w (MNewPost lc lp pb w) := by
 obtain ⟨L, hL⟩ : ∃ L, w.heap.size = L := ⟨_, rfl⟩;obtain ⟨w1, hw1⟩ : ∃ w1, w.alloc (.cells #[.int .i64 lc, .int .i64 lp, .int .i64 pb] 24) = w1 := ⟨_, rfl⟩;have hb : Below w.heap.size w w1 := by rw [← hw1]; exact (Below.refl _ _).alloc (Nat.le_refl _) _
 have hN : Blk w1 L 24 #[.int .i64 lc, .int .i64 lp, .int .i64 pb] := by rw [← hw1]; exact Blk.new_at hL.symm
 have HC : Hid (∀ W, Below w1.heap.size w1 W → W.cell? ⟨L, 0, none⟩ = some (.int .i64 lc) ∧ W.cell? ⟨L, 1, none⟩ = some (.int .i64 lp) ∧ W.cell? ⟨L, 2, none⟩ = some (.int .i64 pb)) := fun W hW => (hN.below hW).three
 have HB := Lib.hid hb;have HLL := Lib.hid hL;have hB : w.heap.size ≤ w1.heap.size := hb.size;have hk := Lib.hid (wrap768 h1);have h768 : 768 * 2 ^ (lc + lp) ≤ 1048576 := by
  have : (2 : Nat) ^ (lc + lp) ≤ 2 ^ 4 := Nat.pow_le_pow_right (by decide) h1
  omega
 have he : IntKind.i64.wrap (768 * 2 ^ ((lc : Int) + (lp : Int)).toNat) = ((768 * 2 ^ (lc + lp) : Nat) : Int) := by rw [show ((lc : Int) + (lp : Int)).toNat = lc + lp by omega]; exact hk.out
 have hM : 0 ≤ IntKind.i64.wrap (768 * 2 ^ ((lc : Int) + (lp : Int)).toNat) ∧ IntKind.i64.wrap (768 * 2 ^ ((lc : Int) + (lp : Int)).toNat) ≤ 1048576 := by rw [he]; omega
 have HE := Lib.hid he;clear he;have hw : IntKind.i64.wrap (↑lc + ↑lp) = ((lc + lp : Nat) : Int) := by rw [IntWalk.i64_in _ (by omega)]; omega
 clear hb hN;go_enter Tryz.func100, Tryz.ntmps100;go_upto_region 1 with (fail);clear hw1 hL;have hb : Below w1.heap.size w1 w1.drew := (Below.refl _ _).drew;have HS : Hid (SetsL w.heap.size [] [] w1.drew) := SetsL.nil _ _
 go_region_held3 (fun w' => w'.cell? ⟨L, 0, none⟩ = some (.int .i64 lc) ∧ w'.cell? ⟨L, 1, none⟩ = some (.int .i64 lp) ∧ w'.cell? ⟨L, 2, none⟩ = some (.int .i64 pb))
  (first | (exact HC.out _ (by assumption)) | (exact HC.out _ (bmk_ (by assumption) _)))
  (first | (go_at_call 80; refine (SNew_agg _).mono ?_; rintro en wq ⟨rfl, hq⟩; have hb := bup hb hq; have HS := Lib.hid (HS.out.below hq); clear hq) | (go_at_call 117; refine (row_sets _ _ HS.out (by have := hb.size; omega) (by omega)).mono ?_; rintro en wq ⟨a, rfl, hS, hq⟩; have hb := bup hb hq; have HS := Lib.hid hS; clear hS hq) | (go_at_call 118; refine (lengths_sets _ HS.out (by have := hb.size; omega)).mono ?_; rintro en wq ⟨a, b, c, d, rfl, hS, hq⟩; have hb := bup hb hq; have HS := Lib.hid hS; clear hS hq))
 all_goals
  go_wp2_with fail;go_ret;have hS := HS.out;rw [HE.out] at hS;simp only [List.nil_append, List.cons_append, Int.toNat_natCast] at hS;exact mnew_fin hS rfl rfl rfl HB.out hb h1 h2
end Go.Proofs.YtcjehjdehdoaeaaGreatDoor
namespace Go.Proofs.YtcjehjdehdoaeaaGreatDoor
open Go.RowKit
def placeI (pb : Nat) (p : Int) : Int := bits .and .i64 p (wrap64 (wrap64 (2 ^ pb) - 1))
theorem Place_any (B : Nat) (x : TbX) (t : Tb) (p : Int) (w : World) (h : TbIn B x t w) :
 Calls Tryz.prog 185 #[.pointer (some ⟨x.tb, 0, none⟩), .int .i64 p] w fun e w' => e = .returned (.int .i64 (placeI t.pb p)) ∧ w' = w := by
 have c2 : w.cell? ⟨x.tb, 2, none⟩ = some (.int .i64 t.pb) := h.b.cell 2;have hp := h.p.2;obtain ⟨pb, hpb⟩ : ∃ pb, t.pb = pb := ⟨_, rfl⟩;rw [hpb] at c2 hp ⊢;obtain ⟨r, hr⟩ : ∃ r, placeI pb p = r := ⟨_, rfl⟩;rw [hr];have HR := Lib.hid hr;clear h hr hpb;go_enter Tryz.func185, Tryz.ntmps185;go_wp2_with fail;go_ret;refine ⟨?_, rfl⟩;rw [← HR.out];rfl
def atI (t : Tb) (p : Int) : Int := wrap64 (wrap64 (t.s.n * 16) + placeI t.pb p)
theorem At_any (B : Nat) (x : TbX) (t : Tb) (p : Int) (w : World) (h : TbIn B x t w) :
 Calls Tryz.prog 159 #[.pointer (some ⟨x.tb, 0, none⟩), .int .i64 p] w fun e w' => e = .returned (.int .i64 (atI t p)) ∧ ∃ k, w' = w.drewN k := by
 have c3 : w.cell? ⟨x.tb, 3, none⟩ = some (.int .i64 t.s.n) := h.b.cell 3;have HP := Lib.hid (fun k => Place_any B x t p (w.drewN k) (h.below (below_drewN (Below.refl _ _) k)))
 unfold atI;obtain ⟨r, hr⟩ : ∃ r, placeI t.pb p = r := ⟨_, rfl⟩;obtain ⟨n, hn⟩ : ∃ n, t.s.n = n := ⟨_, rfl⟩;rw [hr] at HP ⊢;rw [hn] at c3 ⊢;clear h hr hn;go_enter Tryz.func159, Tryz.ntmps159;go_wp2_with fail
 go_quiet ((go_at_call 185; exact Calls.quiet_of_same (HP.out _)))
 go_wp2_with fail;go_ret;exact ⟨rfl, _, rfl⟩
def ctxI (lc lp : Nat) (p : Int) (b : UInt8) : Int :=
 wrap64 (768 * wrap64 (wrap64 (bits .and .i64 p (wrap64 (wrap64 (2 ^ lp) - 1)) * 2 ^ lc) + wrap64 (b.toNat : Int) / 2 ^ (8 - lc)))
theorem Context_any (B : Nat) (x : TbX) (t : Tb) (p : Int) (b : UInt8) (w : World) (h : TbIn B x t w) :
 Calls Tryz.prog 186 #[.pointer (some ⟨x.tb, 0, none⟩), .int .i64 p, .int .u8 (b.toNat : Int)] w fun e w' => e = .returned (.int .i64 (ctxI t.lc t.lp p b)) ∧ ∃ k, w' = w.drewN k := by
 have c0 : w.cell? ⟨x.tb, 0, none⟩ = some (.int .i64 t.lc) := h.b.cell 0;have c1 : w.cell? ⟨x.tb, 1, none⟩ = some (.int .i64 t.lp) := h.b.cell 1;have hp := h.p.1;obtain ⟨lc, hlc⟩ : ∃ q, t.lc = q := ⟨_, rfl⟩;obtain ⟨lp, hlp⟩ : ∃ q, t.lp = q := ⟨_, rfl⟩;rw [hlc] at c0 hp ⊢;rw [hlp] at c1 hp ⊢;have hz1 : (0 : Int) ≤ 8 - (lc : Int) := by omega
 have hz2 : (lc : Int) ≤ 8 := by omega
 obtain ⟨r, hr⟩ : ∃ r, ctxI lc lp p b = r := ⟨_, rfl⟩;rw [hr];have HR := Lib.hid hr;clear h hr hlc hlp;go_enter Tryz.func186, Tryz.ntmps186;go_wp2_with fail
 go_quiet (fail)
 go_wp2_with fail;go_ret;refine ⟨?_, _, rfl⟩;rw [← HR.out];rfl
theorem Late_any (s : Int) (w : World) : Calls Tryz.prog 190 #[.int .i64 s] w fun e w' => e = .returned (.bool (decide (14 ≤ s))) ∧ w' = w := by
 obtain ⟨b, hb⟩ : ∃ b, decide (14 ≤ s) = b := ⟨_, rfl⟩;rw [hb];go_enter Tryz.func190, Tryz.ntmps190;go_wp2_with fail;go_ret;exact ⟨rfl, rfl⟩
def restN : Nat → Nat
 | 0 => 0
 | s + 1 => if s < 4 then 0 else restN s + 2 ^ bitsN s
theorem restN_le : ∀ s : Fin 14, restN s.val ≤ 92 ∧ wrap64 (2 ^ bitsN s.val) = ((2 ^ bitsN s.val : Nat) : Int) ∧ bitsN s.val ≤ 5 := by decide +kernel
theorem RestAt_any (s : Nat) (w : World) (h : 4 ≤ s) (h2 : s < 14) : Calls Tryz.prog 191 #[.int .i64 s] w fun e w' => e = .returned (.int .i64 (restN s : Int)) ∧ w' = w := by
 have h3 : (s : Int) < 14 := by omega
 go_enter Tryz.func191, Tryz.ntmps191;go_wp2_with fail
 go_loopw [3, 4] (fun s3 s4 wr => ∃ i : Nat, s4 = .int .i64 (i : Int) ∧ 4 ≤ i ∧ i ≤ s ∧ s3 = .int .i64 (restN i : Int) ∧ wr = w) (fun _ s4 _ => s - (intOf s4).toNat)
 case atStart => exact ⟨4, rfl, by omega, h, rfl, rfl⟩
 case round =>
  obtain ⟨i, rfl, hi4, hi, rfl, rfl⟩ := hrel;by_cases hlt : i < s
  · have hlt' : (i : Int) < (s : Int) := by omega
    have hb := restN_le ⟨i, by omega⟩
    simp only [] at hb;obtain ⟨hb1, hb2, hb3⟩ := hb;have hb4 := (restN_le ⟨i + 1, by omega⟩).1
    simp only [] at hb4;have hs : restN (i + 1) = restN i + 2 ^ bitsN i := by rw [restN, if_neg (by omega)]
    have hp : 2 ^ bitsN i ≤ 92 := by omega
    have HS := Lib.hid hs;obtain ⟨q, hq⟩ : ∃ q, bitsN i = q := ⟨_, rfl⟩;obtain ⟨m, hm⟩ : ∃ m, restN i = m := ⟨_, rfl⟩;have HR := Lib.hid (Range_yes i (by omega) wr)
    rw [hq] at hb2 hb3 hp HS HR;rw [hm] at hb1 HS ⊢;clear hs hq hm hb4;go_wp2_with fail;refine HR.out.mono ?_;rintro e w1 ⟨rfl, rfl⟩;go_wp2_with fail;have HW : Hid (wrap64 ((m : Int) + 2 ^ q) = ((m + 2 ^ q : Nat) : Int)) := by
     show _ = _;obtain ⟨P, hP⟩ : ∃ P : Nat, 2 ^ q = P := ⟨_, rfl⟩;have hP' : (2 : Int) ^ q = (P : Int) := by rw [← hP]; exact (Int.natCast_pow 2 q).symm
     rw [hP] at hp;rw [hP, hP', Int.natCast_add];exact IntWalk.wrap64_in _ (by omega)
    go_roundw
    case rel => exact ⟨i + 1, by go_num, by omega, by omega, by rw [HS.out, HW.out], trivial⟩
    case measure => simp [intOf]; omega
  · obtain rfl : i = s := by omega
    have hlt' : ¬ (i : Int) < (i : Int) := by omega
    obtain ⟨m, hm⟩ : ∃ m, restN i = m := ⟨_, rfl⟩;rw [hm];have HM := Lib.hid hm;clear hm;go_wp2_with fail;go_ret;exact ⟨by rw [HM.out]; rfl, rfl⟩
end Go.Proofs.YtcjehjdehdoaeaaGreatDoor
namespace Go.Proofs.YtcjehjdehdoaeaaGreatDoor
open Go.RowKit
structure RsX where
 rd : Nat
 d : Nat
 tb : TbX
 wb : Nat
 B : Nat
 r : Option Nat
 size : Nat
 all : List UInt8
 rc : RcX
structure Q where
 f : Bool
 s : RcS
 t : Tb
structure Rs (x : RsX) (q : Q) (w : World) : Prop where
 b : Blk w x.rd 373 #[ptrV x.d, ptrV x.rc.db, .bool q.f]
 d : Blk w x.d 348 #[ptrV x.tb.tb, ptrV x.wb, .bool false]
 t : TbIn x.B x.tb q.t w
 v : win.Win w x.B x.wb x.r x.size x.all
 c : Rc x.rc q.s w
def Q.put (q : Q) (k : Nat) (s : RcS) (ps : List Int) : Q := ⟨q.f, s, { q.t with ps := q.t.ps.set k ps }⟩
def Q.to (q : Q) (s : RcS) : Q := ⟨q.f, s, q.t⟩
def RsX.foot (x : RsX) (g : Nat) : Prop := g = x.rd ∨ g = x.rc.db ∨ ∃ k, k < 18 ∧ g = x.tb.rb k
section
variable {x : RsX} {q : Q} {w w' : World}
theorem Rs.below (h : Rs x q w) (hb : Below w.heap.size w w') : Rs x q w' := ⟨h.b.below hb, h.d.below hb, h.t.below hb, h.v.below hb, h.c.below hb⟩
theorem Rs.drewN (h : Rs x q w) (n : Nat) : Rs x q (w.drewN n) := h.below (below_drewN (Below.refl _ _) n)
theorem Rs.fail (h : Rs x q w) : Rs x { q with f := true } (w.setCell ⟨x.rd, 2, none⟩ (.bool true)) := by
 have hf : Fr (fun k => k = x.rd) w (w.setCell ⟨x.rd, 2, none⟩ (.bool true)) := Fr.set1 (Fr.refl _ _) 2 _
 have hT : ∀ {g : Nat} {t : TypeId}, BT w g t → t ≠ 373 → ¬ g = x.rd := fun hg hne => BT.ne hg ⟨_, h.b⟩ hne
 exact ⟨h.b.set_ 2 _, h.d.fr hf (hT ⟨_, h.d⟩ (by decide)), h.t.fr hf (hT ⟨_, h.t.b⟩ (by decide)) (fun g hg => hT hg (by decide)) (fun g hg => hT hg (by decide)), h.v.fr hf (hT h.v.bt.1 (by decide)) (fun g hg => hT (h.v.bt.2 g hg) (by decide)), h.c.fr hf (hT ⟨_, h.c.b⟩ (by decide)) (fun g hg => hT hg (by decide))⟩
theorem Rs.step (h : Rs x q w) {k : Nat} (hk : k < 18) {s : RcS} {ps : List Int} (hr : Rc x.rc s w') (hp : Ps (x.tb.sb k) (x.tb.rb k) ps w') (hf : Fr (fun g => g = x.rc.db ∨ g = x.tb.rb k) w w') : Rs x (q.put k s ps) w' := by
 have hT : ∀ {g : Nat} {t : TypeId}, BT w g t → t ≠ 388 → t ≠ 3 → ¬ (g = x.rc.db ∨ g = x.tb.rb k) := fun hg h1 h2 e => by
  rcases e with e | e
  · exact BT.ne hg ⟨_, h.c.b⟩ h1 e
  · exact BT.ne hg ⟨_, (h.t.set hk).r⟩ h2 e
 refine ⟨h.b.fr hf (hT ⟨_, h.b⟩ (by decide) (by decide)), h.d.fr hf (hT ⟨_, h.d⟩ (by decide) (by decide)), ?_, h.v.fr hf (hT h.v.bt.1 (by decide) (by decide)) (fun g hg => hT (h.v.bt.2 g hg) (by decide) (by decide)), hr⟩
 refine h.t.put hk hp hf (fun g hg e => ?_) (hT ⟨_, h.t.b⟩ (by decide) (by decide)) (fun g hg => hT hg (by decide) (by decide))
 rcases e with e | e
 · exact absurd e (BT.ne hg ⟨_, h.c.b⟩ (by decide))
 · exact e
theorem Rs.dir (h : Rs x q w) {s : RcS} (hr : Rc x.rc s w') (hf : Fr (fun g => g = x.rc.db) w w') : Rs x (q.to s) w' := by
 have hT : ∀ {g : Nat} {t : TypeId}, BT w g t → t ≠ 388 → ¬ g = x.rc.db := fun hg h1 => BT.ne hg ⟨_, h.c.b⟩ h1
 exact ⟨h.b.fr hf (hT ⟨_, h.b⟩ (by decide)), h.d.fr hf (hT ⟨_, h.d⟩ (by decide)), h.t.fr hf (hT ⟨_, h.t.b⟩ (by decide)) (fun g hg => hT hg (by decide)) (fun g hg => hT hg (by decide)), h.v.fr hf (hT h.v.bt.1 (by decide)) (fun g hg => hT (h.v.bt.2 g hg) (by decide)), hr⟩
end
def QPost (x : RsX) (w : World) (r : Int × Q) (e : Ending) (w' : World) : Prop := e = .returned (.int .i64 r.1) ∧ Rs x r.2 w' ∧ Fr x.foot w w'
def gotQ (q : Q) (v e : Int) : Int × Q := if e = 0 then (v, q) else (0, { q with f := true })
theorem got_any (x : RsX) (q : Q) (v e : Int) (w : World) (h : Rs x q w) : Calls Tryz.prog 224 #[.pointer (some ⟨x.rd, 0, none⟩), .int .i64 v, .int .i64 e] w (QPost x w (gotQ q v e)) := by
 have f2 := h.b.frozen 2;have c2 : w.cell? ⟨x.rd, 2, none⟩ = some (.bool q.f) := h.b.cell 2;have H := Lib.hid h;by_cases he : e = 0
 · have hG : gotQ q v e = (v, q) := if_pos he;rw [hG];subst he;clear h hG;go_enter Tryz.func224, Tryz.ntmps224;go_wp2_with fail;go_ret;exact ⟨rfl, H.out, Fr.refl _ _⟩
 · have hG : gotQ q v e = (0, { q with f := true }) := if_neg he;rw [hG];clear h hG;go_enter Tryz.func224, Tryz.ntmps224;go_wp2_with fail;go_ret;exact ⟨rfl, H.out.fail, (Fr.refl _ _).setCell (p := ⟨x.rd, 2, none⟩) (.inl (.inl rfl)) _⟩
theorem foot_of {x : RsX} {k : Nat} (hk : k < 18) {w w' : World} (h : Fr (fun g => g = x.rc.db ∨ g = x.tb.rb k) w w') : Fr x.foot w w' :=
 h.mono fun i _ hi => by
  rcases hi with hi | hi
  · exact .inr (.inl hi)
  · exact .inr (.inr ⟨k, hk, hi⟩)
def bitQ (l : List UInt8) (q : Q) (k : Nat) (i : Int) : Int × Q :=
 if q.f then (0, q) else gotQ (q.put k (bitT l q.s (q.t.ps.getD k []) i).s (bitT l q.s (q.t.ps.getD k []) i).ps) (bitT l q.s (q.t.ps.getD k []) i).v (bitT l q.s (q.t.ps.getD k []) i).e
def treeQ (b : Bool) (l : List UInt8) (q : Q) (k : Nat) (at_ n : Int) : Int × Q :=
 if q.f then (0, q) else gotQ (q.put k (trT l q.s (q.t.ps.getD k []) at_ n b).s (trT l q.s (q.t.ps.getD k []) at_ n b).ps) (trT l q.s (q.t.ps.getD k []) at_ n b).v (trT l q.s (q.t.ps.getD k []) at_ n b).e
def directQ (l : List UInt8) (q : Q) (n : Int) : Int × Q :=
 if q.f then (0, q) else gotQ (q.to (dirT l q.s n).s) (wrap64 (dirT l q.s n).v) (dirT l q.s n).e
theorem bit_any (x : RsX) (q : Q) (k : Nat) (hk : k < 18) (i : Int) (w : World) (h : Rs x q w) : Calls Tryz.prog 220 #[.pointer (some ⟨x.rd, 0, none⟩), .pointer (some ⟨x.tb.sb k, 0, none⟩), .int .i64 i] w (QPost x w (bitQ x.rc.l q k i)) := by
 have c1 : w.cell? ⟨x.rd, 1, none⟩ = some (.pointer (some ⟨x.rc.db, 0, none⟩)) := h.b.cell 1;have c2 : w.cell? ⟨x.rd, 2, none⟩ = some (.bool q.f) := h.b.cell 2;have H := Lib.hid h;unfold bitQ;obtain ⟨f, hf⟩ : ∃ f, q.f = f := ⟨_, rfl⟩;rw [hf] at c2 ⊢;cases f
 · have HB := Lib.hid (Bit_any x.rc q.s (x.tb.sb k) (x.tb.rb k) (q.t.ps.getD k []) i w h.c (h.t.set hk));obtain ⟨R, hR⟩ : ∃ R, bitT x.rc.l q.s (q.t.ps.getD k []) i = R := ⟨_, rfl⟩;rw [hR] at HB ⊢;rw [if_neg (by decide)]
   clear h hf hR;go_enter Tryz.func220, Tryz.ntmps220;go_wp2_with fail;refine HB.out.mono ?_;rintro e w1 ⟨rfl, h1, h2, h3⟩;have H1 := Lib.hid (H.out.step hk h1 h2 h3);have HF := Lib.hid (foot_of hk h3);clear h1 h2 h3 HB H;go_wp2_with fail;refine (got_any x _ R.v R.e w1 H1.out).mono ?_;rintro e w2 ⟨rfl, h1, h2⟩;go_wp2_with fail;go_ret;exact ⟨rfl, h1, HF.out.trans h2⟩
 · rw [if_pos rfl];clear h hf;go_enter Tryz.func220, Tryz.ntmps220;go_wp2_with fail;go_ret;exact ⟨rfl, H.out, Fr.refl _ _⟩
theorem tree_any (x : RsX) (q : Q) (k : Nat) (hk : k < 18) (at_ n : Int) (w : World) (h : Rs x q w) : Calls Tryz.prog 226 #[.pointer (some ⟨x.rd, 0, none⟩), .pointer (some ⟨x.tb.sb k, 0, none⟩), .int .i64 at_, .int .i64 n] w (QPost x w (treeQ false x.rc.l q k at_ n)) := by
 have c1 : w.cell? ⟨x.rd, 1, none⟩ = some (.pointer (some ⟨x.rc.db, 0, none⟩)) := h.b.cell 1;have c2 : w.cell? ⟨x.rd, 2, none⟩ = some (.bool q.f) := h.b.cell 2;have H := Lib.hid h;unfold treeQ;obtain ⟨f, hf⟩ : ∃ f, q.f = f := ⟨_, rfl⟩;rw [hf] at c2 ⊢;cases f
 · have HB := Lib.hid (Get_any x.rc q.s (x.tb.sb k) (x.tb.rb k) (q.t.ps.getD k []) at_ n w h.c (h.t.set hk));obtain ⟨R, hR⟩ : ∃ R, trT x.rc.l q.s (q.t.ps.getD k []) at_ n false = R := ⟨_, rfl⟩;rw [hR] at HB ⊢;rw [if_neg (by decide)]
   clear h hf hR;go_enter Tryz.func226, Tryz.ntmps226;go_wp2_with fail;refine HB.out.mono ?_;rintro e w1 ⟨rfl, h1, h2, h3⟩;have H1 := Lib.hid (H.out.step hk h1 h2 h3);have HF := Lib.hid (foot_of hk h3);clear h1 h2 h3 HB H;go_wp2_with fail;refine (got_any x _ R.v R.e w1 H1.out).mono ?_;rintro e w2 ⟨rfl, h1, h2⟩;go_wp2_with fail;go_ret;exact ⟨rfl, h1, HF.out.trans h2⟩
 · rw [if_pos rfl];clear h hf;go_enter Tryz.func226, Tryz.ntmps226;go_wp2_with fail;go_ret;exact ⟨rfl, H.out, Fr.refl _ _⟩
theorem back_any (x : RsX) (q : Q) (k : Nat) (hk : k < 18) (at_ n : Int) (w : World) (h : Rs x q w) : Calls Tryz.prog 227 #[.pointer (some ⟨x.rd, 0, none⟩), .pointer (some ⟨x.tb.sb k, 0, none⟩), .int .i64 at_, .int .i64 n] w (QPost x w (treeQ true x.rc.l q k at_ n)) := by
 have c1 : w.cell? ⟨x.rd, 1, none⟩ = some (.pointer (some ⟨x.rc.db, 0, none⟩)) := h.b.cell 1;have c2 : w.cell? ⟨x.rd, 2, none⟩ = some (.bool q.f) := h.b.cell 2;have H := Lib.hid h;unfold treeQ;obtain ⟨f, hf⟩ : ∃ f, q.f = f := ⟨_, rfl⟩;rw [hf] at c2 ⊢;cases f
 · have HB := Lib.hid (GetBack_any x.rc q.s (x.tb.sb k) (x.tb.rb k) (q.t.ps.getD k []) at_ n w h.c (h.t.set hk));obtain ⟨R, hR⟩ : ∃ R, trT x.rc.l q.s (q.t.ps.getD k []) at_ n true = R := ⟨_, rfl⟩;rw [hR] at HB ⊢;rw [if_neg (by decide)]
   clear h hf hR;go_enter Tryz.func227, Tryz.ntmps227;go_wp2_with fail;refine HB.out.mono ?_;rintro e w1 ⟨rfl, h1, h2, h3⟩;have H1 := Lib.hid (H.out.step hk h1 h2 h3);have HF := Lib.hid (foot_of hk h3);clear h1 h2 h3 HB H;go_wp2_with fail;refine (got_any x _ R.v R.e w1 H1.out).mono ?_;rintro e w2 ⟨rfl, h1, h2⟩;go_wp2_with fail;go_ret;exact ⟨rfl, h1, HF.out.trans h2⟩
 · rw [if_pos rfl];clear h hf;go_enter Tryz.func227, Tryz.ntmps227;go_wp2_with fail;go_ret;exact ⟨rfl, H.out, Fr.refl _ _⟩
theorem direct_any (x : RsX) (q : Q) (n : Int) (w : World) (h : Rs x q w) : Calls Tryz.prog 228 #[.pointer (some ⟨x.rd, 0, none⟩), .int .i64 n] w (QPost x w (directQ x.rc.l q n)) := by
 have c1 : w.cell? ⟨x.rd, 1, none⟩ = some (.pointer (some ⟨x.rc.db, 0, none⟩)) := h.b.cell 1;have c2 : w.cell? ⟨x.rd, 2, none⟩ = some (.bool q.f) := h.b.cell 2;have H := Lib.hid h;unfold directQ;obtain ⟨f, hf⟩ : ∃ f, q.f = f := ⟨_, rfl⟩;rw [hf] at c2 ⊢;cases f
 · have HB := Lib.hid (Direct_any x.rc q.s n w h.c);obtain ⟨R, hR⟩ : ∃ R, dirT x.rc.l q.s n = R := ⟨_, rfl⟩;rw [hR] at HB ⊢;rw [if_neg (by decide)]
   clear h hf hR;go_enter Tryz.func228, Tryz.ntmps228;go_wp2_with fail;refine HB.out.mono ?_;rintro e w1 ⟨rfl, h1, h3⟩;have H1 := Lib.hid (H.out.dir h1 h3);have HF := Lib.hid (show Fr x.foot w w1 from h3.mono fun i _ hi => .inr (.inl hi))
   clear h1 h3 HB H;go_wp2_with fail;refine (got_any x _ (wrap64 R.v) R.e w1 H1.out).mono ?_;rintro e w2 ⟨rfl, h1, h2⟩;go_wp2_with fail;go_ret;exact ⟨rfl, h1, HF.out.trans h2⟩
 · rw [if_pos rfl];clear h hf;go_enter Tryz.func228, Tryz.ntmps228;go_wp2_with fail;go_ret;exact ⟨rfl, H.out, Fr.refl _ _⟩
end Go.Proofs.YtcjehjdehdoaeaaGreatDoor
namespace Go.Proofs.YtcjehjdehdoaeaaGreatDoor
open Go.RowKit
section
variable {x : RsX} {q : Q} {w w' : World}
theorem Rs.three (h : Rs x q w) : w.cell? ⟨x.rd, 0, none⟩ = some (.pointer (some ⟨x.d, 0, none⟩)) ∧ w.cell? ⟨x.d, 0, none⟩ = some (.pointer (some ⟨x.tb.tb, 0, none⟩)) ∧ w.cell? ⟨x.d, 1, none⟩ = some (.pointer (some ⟨x.wb, 0, none⟩)) := ⟨h.b.cell 0, h.d.cell 0, h.d.cell 1⟩
theorem Rs.not_foot (h : Rs x q w) {g : Nat} {t : TypeId} (hg : BT w g t) (h1 : t ≠ 373) (h2 : t ≠ 388) (h3 : t ≠ 3) : ¬ x.foot g := fun e => by
 rcases e with e | e | ⟨k, hk, e⟩
 · exact BT.ne hg ⟨_, h.b⟩ h1 e
 · exact BT.ne hg ⟨_, h.c.b⟩ h2 e
 · exact BT.ne hg ⟨_, (h.t.set hk).r⟩ h3 e
end
theorem wpos_any {x : RsX} {q : Q} {w : World} (h : Rs x q w) : Calls Tryz.prog 160 #[.pointer (some ⟨x.wb, 0, none⟩)] w fun e w' => e = .returned (.int .i64 (x.all.length : Int)) ∧ w' = w := (win.Pos_any x.B x.wb x.size x.r x.all w h.v).mono fun _ _ h => ⟨h.1, h.2.symm⟩
def lenAt (q : Q) (pos : Int) : Int := wrap64 (8 * placeI q.t.pb pos)
def lengthQ (l : List UInt8) (q : Q) (k : Nat) (pos : Int) : Int × Q :=
 if (bitQ l q k 0).1 = 0 then (wrap64 (2 + (treeQ false l (bitQ l q k 0).2 (k + 1) (lenAt q pos) 3).1), (treeQ false l (bitQ l q k 0).2 (k + 1) (lenAt q pos) 3).2)
 else if (bitQ l (bitQ l q k 0).2 k 1).1 = 0 then (wrap64 (10 + (treeQ false l (bitQ l (bitQ l q k 0).2 k 1).2 (k + 2) (lenAt q pos) 3).1), (treeQ false l (bitQ l (bitQ l q k 0).2 k 1).2 (k + 2) (lenAt q pos) 3).2)
 else (wrap64 (18 + (treeQ false l (bitQ l (bitQ l q k 0).2 k 1).2 (k + 3) 0 8).1), (treeQ false l (bitQ l (bitQ l q k 0).2 k 1).2 (k + 3) 0 8).2)
def lenV (x : RsX) (k : Nat) : Value := .agg #[.pointer (some ⟨x.tb.sb k, 0, none⟩), .pointer (some ⟨x.tb.sb (k + 1), 0, none⟩), .pointer (some ⟨x.tb.sb (k + 2), 0, none⟩), .pointer (some ⟨x.tb.sb (k + 3), 0, none⟩)]
theorem rlength_any (x : RsX) (q : Q) (k : Nat) (hk : k + 3 < 18) (w : World) (h : Rs x q w) :
 Calls Tryz.prog 222 #[.pointer (some ⟨x.rd, 0, none⟩), .agg #[.pointer (some ⟨x.tb.sb k, 0, none⟩), .pointer (some ⟨x.tb.sb (k + 1), 0, none⟩), .pointer (some ⟨x.tb.sb (k + 2), 0, none⟩), .pointer (some ⟨x.tb.sb (k + 3), 0, none⟩)]] w (QPost x w (lengthQ x.rc.l q k x.all.length)) := by
 obtain ⟨L, hL⟩ : ∃ L, w.heap.size = L := ⟨_, rfl⟩;obtain ⟨w1, hw1⟩ : ∃ w1, w.alloc (.cells #[.pointer (some ⟨x.tb.sb k, 0, none⟩), .pointer (some ⟨x.tb.sb (k + 1), 0, none⟩), .pointer (some ⟨x.tb.sb (k + 2), 0, none⟩), .pointer (some ⟨x.tb.sb (k + 3), 0, none⟩)] 251) = w1 := ⟨_, rfl⟩;have hb : Below w.heap.size w w1 := by rw [← hw1]; exact (Below.refl _ _).alloc (Nat.le_refl _) _
 have hN : Blk w1 L 251 #[.pointer (some ⟨x.tb.sb k, 0, none⟩), .pointer (some ⟨x.tb.sb (k + 1), 0, none⟩), .pointer (some ⟨x.tb.sb (k + 2), 0, none⟩), .pointer (some ⟨x.tb.sb (k + 3), 0, none⟩)] := by rw [← hw1]; exact Blk.new_at hL.symm
 have h1 := h.below hb;obtain ⟨r0, d0, d1⟩ := h1.three;have HB := Lib.hid hb;have HN := Lib.hid hN;have H1 := Lib.hid h1;have HPos := Lib.hid (fun n => wpos_any (h1.drewN n))
 have HPl := Lib.hid (fun n => Place_any x.B x.tb q.t x.all.length (w1.drewN n) (h1.drewN n).t)
 obtain ⟨r, hr⟩ : ∃ r, lengthQ x.rc.l q k x.all.length = r := ⟨_, rfl⟩;rw [hr];have HR := Lib.hid hr;obtain ⟨pl, hpl⟩ : ∃ z, placeI q.t.pb x.all.length = z := ⟨_, rfl⟩;rw [hpl] at HPl;have HPL := Lib.hid hpl;clear h h1 hb hN hr hpl;go_enter Tryz.func222, Tryz.ntmps222;go_upto_region 1 with (fail);clear hw1 hL
 go_quiet ((first | (go_at_call 160; exact Calls.quiet_of_same (HPos.out _)) | (go_at_call 185; exact Calls.quiet_of_same (HPl.out _))))
 have H2 := Lib.hid (H1.out.drewN nq);have N2 := Lib.hid (HN.out.drewN nq);have B2 := Lib.hid (below_drewN HB.out nq);obtain ⟨w2, hw2⟩ : ∃ w2, w1.drewN nq = w2 := ⟨_, rfl⟩;rw [hw2] at H2 N2 B2 ⊢;have n0 := N2.out.four.1;have n1 := N2.out.four.2.1;have hA : Hid (wrap64 (8 * pl) = lenAt q x.all.length) := by show _ = _; unfold lenAt; rw [HPL.out]
 obtain ⟨at_, hat⟩ : ∃ z, wrap64 (8 * pl) = z := ⟨_, rfl⟩;have hA2 : Hid (at_ = lenAt q x.all.length) := by show _ = _; rw [← hat]; exact hA.out
 clear hw2 HPos HPl r0 d0 d1 HB HN H1 hA;have hbit := bit_any x q k (by omega) 0 w2 H2.out
 have HR1 := Lib.hid (show lengthQ x.rc.l q k x.all.length = r from HR.out)
 unfold lengthQ at HR1;rw [← hA2.out] at HR1;obtain ⟨⟨b1, q1⟩, hq1⟩ : ∃ z, bitQ x.rc.l q k 0 = z := ⟨_, rfl⟩;rw [hq1] at hbit HR1;simp only [] at HR1;have HBit := Lib.hid hbit;clear hbit hq1 HR;go_wp2_with fail;refine HBit.out.mono ?_;rintro e w3 ⟨rfl, h3, hf3⟩;simp only [] at h3 ⊢;have H3 := Lib.hid h3;have N3 := Lib.hid (N2.out.fr hf3 (H2.out.not_foot ⟨_, N2.out⟩ (by decide) (by decide) (by decide)))
 have F3 := Lib.hid ((Fr.of_below (S := x.foot) B2.out).trans' hf3 (fun _ _ h => h))
 obtain ⟨m0, m1, m2, m3⟩ := N3.out.four;clear h3 hf3 HBit N2 H2 B2 n0 n1;by_cases hb1 : b1 = 0
 · subst hb1;have HR2 := Lib.hid (by have := HR1.out; rw [if_pos rfl] at this; exact this)
   clear HR1;go_wp2_with fail;refine (tree_any x q1 (k + 1) (by omega) at_ 3 w3 H3.out).mono ?_
   rintro e wz ⟨rfl, h4, hf4⟩;go_wp2_with fail;go_ret;rw [← HR2.out];exact ⟨rfl, h4, F3.out.trans hf4⟩
 · have hb1' : (b1 == 0) = false := beq_eq_false_iff_ne.2 hb1;have HR2 := Lib.hid (by have := HR1.out; rw [if_neg hb1] at this; exact this)
   have hbit := bit_any x q1 k (by omega) 1 w3 H3.out
   obtain ⟨⟨b2, q2⟩, hq2⟩ : ∃ z, bitQ x.rc.l q1 k 1 = z := ⟨_, rfl⟩;rw [hq2] at hbit HR2;simp only [] at HR2;have HBit := Lib.hid hbit;clear HR1 hbit hq2 hb1;go_wp2_with fail;refine HBit.out.mono ?_;rintro e w4 ⟨rfl, h4, hf4⟩;simp only [] at h4 ⊢;have H4 := Lib.hid h4;have N4 := Lib.hid (N3.out.fr hf4 (H3.out.not_foot ⟨_, N3.out⟩ (by decide) (by decide) (by decide)))
   have F4 := Lib.hid (F3.out.trans hf4);clear m0 m1 m2 m3;obtain ⟨m0, m1, m2, m3⟩ := N4.out.four;clear h4 hf4 HBit N3 H3 F3;by_cases hb2 : b2 = 0
   · subst hb2;have HR3 := Lib.hid (by have := HR2.out; rw [if_pos rfl] at this; exact this)
     clear HR2;go_wp2_with fail;refine (tree_any x q2 (k + 2) (by omega) at_ 3 w4 H4.out).mono ?_
     rintro e wz ⟨rfl, h4, hf4⟩;go_wp2_with fail;go_ret;rw [← HR3.out];exact ⟨rfl, h4, F4.out.trans hf4⟩
   · have hb2' : (b2 == 0) = false := beq_eq_false_iff_ne.2 hb2;have HR3 := Lib.hid (by have := HR2.out; rw [if_neg hb2] at this; exact this)
     clear HR2 hb2;go_wp2_with fail;refine (tree_any x q2 (k + 3) (by omega) 0 8 w4 H4.out).mono ?_
     rintro e wz ⟨rfl, h4, hf4⟩;go_wp2_with fail;go_ret;rw [← HR3.out];exact ⟨rfl, h4, F4.out.trans hf4⟩
end Go.Proofs.YtcjehjdehdoaeaaGreatDoor
