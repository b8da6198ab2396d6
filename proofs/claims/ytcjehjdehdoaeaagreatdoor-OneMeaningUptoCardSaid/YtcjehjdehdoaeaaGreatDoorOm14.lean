/-
  Laws on the way to the claim (OpU). Conditions: those that each theorem states.
-/
import Derived.Test.YtcjehjdehdoaeaaGreatDoorOm13
set_option linter.unusedVariables false
set_option linter.unusedSimpArgs false
set_option maxRecDepth 1000000
set_option maxHeartbeats 16000000
namespace Go.Proofs.YtcjehjdehdoaeaaGreatDoor
open Go.RowKit
def bareX (l : List UInt8) (size : Nat) (all : List UInt8) : RsX := ⟨0, 0, ⟨0, []⟩, 0, 0, none, size, all, ⟨0, none, 0, 0, l⟩⟩
theorem symbolQ_bare (x : RsX) (q : Q) : symbolQ x q = symbolQ (bareX x.rc.l x.size x.all) q := rfl
def stepQ (size : Nat) (all : List UInt8) (q : Q) (y : Sy) : Q := ⟨q.f, q.s, { q.t with s := win.apS size all q.t.s y }⟩
def badY (q : Q) (y : Sy) (room : Int) : Bool := q.f || decide (szF y < 1) || decide (room < szF y)
def allGo (l : List UInt8) (size : Nat) (old : List UInt8) (n : Nat) : Nat → Q → List UInt8 → Option (Q × List UInt8)
 | 0, _, _ => none
 | k + 1, q, out =>
  if out.length < n then
   if badY (symbolQ (bareX l size (old ++ out)) q).2 (symbolQ (bareX l size (old ++ out)) q).1 ((n : Int) - (out.length : Int)) then none
   else if win.apE size (old ++ out) (symbolQ (bareX l size (old ++ out)) q).2.t.s (symbolQ (bareX l size (old ++ out)) q).1 = 0 then
    allGo l size old n k (stepQ size (old ++ out) (symbolQ (bareX l size (old ++ out)) q).2 (symbolQ (bareX l size (old ++ out)) q).1) (out ++ win.apB size (old ++ out) (symbolQ (bareX l size (old ++ out)) q).2.t.s (symbolQ (bareX l size (old ++ out)) q).1)
   else none
  else some (q, out)
def RsX.foot0 (x : RsX) (g : Nat) : Prop := g = x.wb ∨ x.r = some g ∨ g = x.tb.tb ∨ ∃ k, k < 18 ∧ g = x.tb.rb k
def RsX.on (x : RsX) (r : Option Nat) (more : List UInt8) : RsX := ⟨x.rd, x.d, x.tb, x.wb, x.B, r, x.size, x.all ++ more, x.rc⟩
structure LJ (x : RsX) (q : Q) (mo out : List UInt8) (r : Option Nat) (O : Option Addr) (oc : Nat) (L : Option Addr) (ln lc : Nat) (w0 wr : World) : Prop where
 j : Rs (x.on r mo) q wr
 o : wr.ownsRow w0.heap.size 5 1 (.slice O out.length oc) out.length (bys out)
 l : ∃ cs, wr.ownsRow w0.heap.size 232 4 (.slice L ln lc) ln cs
 f : Fr x.foot0 w0 wr
 ro : ∀ g, r = some g → (Value.slice O out.length oc).ownBlock ≠ some g
 ra : ∀ g, r = some g → 0 < x.rc.n → ∀ ad, x.rc.A = some ad → ad.block ≠ g
 oa : 0 < x.rc.n → ∀ ad, x.rc.A = some ad → (Value.slice O out.length oc).ownBlock ≠ some ad.block
 rn : ∀ g, r = some g → x.r = some g ∨ w0.heap.size ≤ g
 n : w0.heap.size ≤ x.rd ∧ w0.heap.size ≤ x.rc.db
 b : x.B ≤ w0.heap.size
 ln : ln ≤ mo.length
def Failed (x : RsX) (w w' : World) : Prop := Blk w' x.d 348 #[ptrV x.tb.tb, ptrV x.wb, .bool false] ∧ Fr x.foot0 w w'
def AllPost (x : RsX) (b : List UInt8) (R : Option (Q × List UInt8)) (w : World) (e : Ending) (w' : World) : Prop :=
 match R with
 | none => ∃ v1 v2, e = .returned (.tuple #[v1, v2, .bool false]) ∧ Failed x w w'
 | some (q, out) => ∃ rd rc r O oc L ln lc, rc.l = b ∧ rc.n = b.length ∧ e = .returned (.tuple #[.slice L ln lc, .slice O out.length oc, .bool (doneB b.length q.s)]) ∧ LJ (x.read rd rc) q out out r O oc L ln lc w w'
def allQ (t : Tb) (size : Nat) (old : List UInt8) (b : List UInt8) (n : Nat) : Option (Q × List UInt8) :=
 if rcNewE b = 0 then allGo b size old n (n + 1) ⟨false, rcS0 b, t⟩ [] else none
theorem LJ.below {x : RsX} {q : Q} {mo out : List UInt8} {r : Option Nat} {O L : Option Addr} {oc ln lc : Nat} {w0 w w' : World} (h : LJ x q mo out r O oc L ln lc w0 w) (hb : Below w.heap.size w w') : LJ x q mo out r O oc L ln lc w0 w' :=
 ⟨h.j.below hb, own_below h.o hb, by obtain ⟨cs, hc⟩ := h.l; exact ⟨cs, own_below hc hb⟩, h.f.of_below' hb, h.ro, h.ra, h.oa, h.rn, h.n, h.b, h.ln⟩
theorem LJ.read {x : RsX} {q q' : Q} {mo out : List UInt8} {r : Option Nat} {O L : Option Addr} {oc ln lc : Nat} {w0 w w' : World} (h : LJ x q mo out r O oc L ln lc w0 w) (hr : Rs (x.on r mo) q' w') (hf : Fr (x.on r mo).foot w w') : LJ x q' mo out r O oc L ln lc w0 w' := by
 have hn : ∀ {g : Nat} {t : TypeId}, BT w g t → t ≠ 373 → t ≠ 388 → t ≠ 3 → ¬ (x.on r mo).foot g := fun hg h1 h2 h3 => h.j.not_foot hg h1 h2 h3
 refine ⟨hr, own_fr h.o hf (fun g hg => hn (own_bt h.o hg) (by decide) (by decide) (by decide)), ?_, ?_, h.ro, h.ra, h.oa, h.rn, h.n, h.b, h.ln⟩
 · obtain ⟨cs, hc⟩ := h.l;exact ⟨cs, own_fr hc hf (fun g hg => hn (own_bt hc hg) (by decide) (by decide) (by decide))⟩
 · refine h.f.trans' hf fun i hi hg => ?_
   have hn := h.n;rcases hg with e | e | ⟨k, hk, e⟩
   · have : i = x.rd := e;omega
   · have : i = x.rc.db := e;omega
   · exact .inr (.inr (.inr ⟨k, hk, e⟩))
theorem LJ.low {x : RsX} {q : Q} {mo out : List UInt8} {r : Option Nat} {O L : Option Addr} {oc ln lc : Nat} {w0 w : World} (h : LJ x q mo out r O oc L ln lc w0 w) (hx : ∀ g, x.r = some g → x.B ≤ g) : Below x.B w0 w :=
 h.f.below h.b fun k hk => by
  have hv := h.j.v;rcases hk with e | e | e | ⟨j, hj, e⟩
  · rw [e]; exact hv.base
  · exact hx k e
  · rw [e]; exact h.j.t.o
  · rw [e]; exact (h.j.t.base hj).2
theorem LJ.failed {x : RsX} {q : Q} {mo out : List UInt8} {r : Option Nat} {O L : Option Addr} {oc ln lc : Nat} {w0 w : World} (h : LJ x q mo out r O oc L ln lc w0 w) : Failed x w0 w := ⟨h.j.d, h.f⟩
theorem Rc.fr' {x : RcX} {s : RcS} {w w' : World} (h : Rc x s w) {S : Nat → Prop} (hf : Fr S w w') (hd : ¬ S x.db) (hA : 0 < x.n → ∀ ad, x.A = some ad → ¬ S ad.block) : Rc x s w' :=
 ⟨h.b.fr hf hd, h.d.fr hf hA, h.c, h.ad, fun h0 ad had => (h.bt h0 ad had).fr hf (hA h0 ad had), h.rd, h.r, h.v⟩
section
variable {x : RsX} {q : Q} {mo out : List UInt8} {r : Option Nat} {O L : Option Addr} {oc ln lc : Nat} {w0 w w' : World}
theorem LJ.frT (h : LJ x q mo out r O oc L ln lc w0 w) {T : Nat} (hf : Fr (fun k => k = T) w w') (hT : BT w T 157) (hn : w0.heap.size ≤ T) : LJ x q mo out r O oc L ln lc w0 w' := by
 have hne : ∀ {g : Nat} {t : TypeId}, BT w g t → t ≠ 157 → ¬ g = T := fun hg h1 => BT.ne hg hT h1
 have hj := h.j;refine ⟨⟨hj.b.fr hf (hne ⟨_, hj.b⟩ (by decide)), hj.d.fr hf (hne ⟨_, hj.d⟩ (by decide)), hj.t.fr hf (hne ⟨_, hj.t.b⟩ (by decide)) (fun g hg => hne hg (by decide)) (fun g hg => hne hg (by decide)), hj.v.fr hf (hne hj.v.bt.1 (by decide)) (fun g hg => hne (hj.v.bt.2 g hg) (by decide)), hj.c.fr hf (hne ⟨_, hj.c.b⟩ (by decide)) (fun g hg => hne hg (by decide))⟩,
  own_fr h.o hf (fun g hg => hne (own_bt h.o hg) (by decide)), ?_, h.f.trans' hf (fun i hi e => by omega), h.ro, h.ra, h.oa, h.rn, h.n, h.b, h.ln⟩
 obtain ⟨cs, hc⟩ := h.l;exact ⟨cs, own_fr hc hf (fun g hg => hne (own_bt hc hg) (by decide))⟩
theorem LJ.apply (h : LJ x q mo out r O oc L ln lc w0 w) {bs : List UInt8} {r2 : Option Nat} (hv : win.Win w' x.B x.wb r2 x.size (x.all ++ mo ++ bs)) (hf : Fr (fun k => k = x.wb ∨ some k = r) w w') (hr : ∀ g, r2 = some g → r = some g ∨ w.heap.size ≤ g) :
 LJ x q (mo ++ bs) out r2 O oc L ln lc w0 w' := by
 have hj := h.j;have hbt := hj.v.bt;have hne : ∀ {g : Nat} {t : TypeId}, BT w g t → t ≠ 247 → t ≠ 5 → ¬ (g = x.wb ∨ some g = r) := fun hg h1 h2 e => by
  rcases e with e | e
  · exact BT.ne hg hbt.1 h1 e
  · exact BT.ne hg (hbt.2 _ e.symm) h2 rfl
 have hob : ∀ g, (Value.slice O out.length oc).ownBlock = some g → ¬ (g = x.wb ∨ some g = r) := fun g hg e => by
  rcases e with e | e
  · exact BT.ne (own_bt h.o hg) hbt.1 (by decide) e
  · exact h.ro g e.symm hg
 have hw0 := h.f.size;refine ⟨⟨hj.b.fr hf (hne ⟨_, hj.b⟩ (by decide) (by decide)), hj.d.fr hf (hne ⟨_, hj.d⟩ (by decide) (by decide)), hj.t.fr hf (hne ⟨_, hj.t.b⟩ (by decide) (by decide)) (fun g hg => hne hg (by decide) (by decide)) (fun g hg => hne hg (by decide) (by decide)), by rw [show (x.on r2 (mo ++ bs)).all = x.all ++ mo ++ bs from (List.append_assoc _ _ _).symm]; exact hv, hj.c.fr' hf (hne ⟨_, hj.c.b⟩ (by decide) (by decide)) ?_⟩,
  own_fr h.o hf hob, ?_, ?_, ?_, ?_, h.oa, ?_, h.n, h.b, Nat.le_trans h.ln (by simp)⟩
 · intro h0 ad had e;rcases e with e | e
   · exact BT.ne (hj.c.bt h0 ad had) hbt.1 (by decide) e
   · exact h.ra _ e.symm h0 ad had rfl
 · obtain ⟨cs, hc⟩ := h.l;exact ⟨cs, own_fr hc hf (fun g hg => hne (own_bt hc hg) (by decide) (by decide))⟩
 · refine h.f.trans' hf fun i hi e => ?_
   rcases e with e | e
   · exact .inl e
   · rcases h.rn i e.symm with h1 | h1
     · exact .inr (.inl h1)
     · omega
 · intro g hg e;rcases hr g hg with h1 | h1
   · exact h.ro g h1 e
   · have := (own_lt h.o e).2; omega
 · intro g hg h0 ad had e;rcases hr g hg with h1 | h1
   · exact h.ra g h1 h0 ad had e
   · have := (hj.c.bt h0 ad had).lt; omega
 · intro g hg;rcases hr g hg with h1 | h1
   · exact h.rn g h1
   · exact .inr (by omega)
end
section
variable {x : RsX} {q : Q} {mo out : List UInt8} {r : Option Nat} {O L : Option Addr} {oc ln lc : Nat} {w0 w w' : World}
theorem LJ.setSt (h : LJ x q mo out r O oc L ln lc w0 w) (s : St) : LJ x ⟨q.f, q.s, { q.t with s := s }⟩ mo out r O oc L ln lc w0 (((((w.setCell ⟨x.tb.tb, 3, none⟩ (.int .i64 s.n)).setCell ⟨x.tb.tb, 4, none⟩ (.int .i64 s.a)).setCell ⟨x.tb.tb, 5, none⟩ (.int .i64 s.b)).setCell ⟨x.tb.tb, 6, none⟩ (.int .i64 s.c)).setCell ⟨x.tb.tb, 7, none⟩ (.int .i64 s.d)) := by
 have hj := h.j;have hf : Fr (fun k => k = x.tb.tb) w (((((w.setCell ⟨x.tb.tb, 3, none⟩ (.int .i64 s.n)).setCell ⟨x.tb.tb, 4, none⟩ (.int .i64 s.a)).setCell ⟨x.tb.tb, 5, none⟩ (.int .i64 s.b)).setCell ⟨x.tb.tb, 6, none⟩ (.int .i64 s.c)).setCell ⟨x.tb.tb, 7, none⟩ (.int .i64 s.d)) := Fr.set1 (Fr.set1 (Fr.set1 (Fr.set1 (Fr.set1 (Fr.refl _ _) 3 _) 4 _) 5 _) 6 _) 7 _
 have hne : ∀ {g : Nat} {t : TypeId}, BT w g t → t ≠ 254 → ¬ g = x.tb.tb := fun hg h1 => BT.ne hg ⟨_, hj.t.b⟩ h1
 have hB := ((((hj.t.b.set_ 3 (.int .i64 s.n)).set_ 4 (.int .i64 s.a)).set_ 5 (.int .i64 s.b)).set_ 6 (.int .i64 s.c)).set_ 7 (.int .i64 s.d);refine ⟨⟨hj.b.fr hf (hne ⟨_, hj.b⟩ (by decide)), hj.d.fr hf (hne ⟨_, hj.d⟩ (by decide)), ⟨hB, hj.t.s.fr hf (fun g hg => hne hg (by decide)) (fun g hg => hne hg (by decide)), hj.t.n, hj.t.p, hj.t.o⟩, hj.v.fr hf (hne hj.v.bt.1 (by decide)) (fun g hg => hne (hj.v.bt.2 g hg) (by decide)), hj.c.fr hf (hne ⟨_, hj.c.b⟩ (by decide)) (fun g hg => hne hg (by decide))⟩,
  own_fr h.o hf (fun g hg => hne (own_bt h.o hg) (by decide)), ?_, h.f.trans' hf (fun i hi e => .inr (.inr (.inl e))), h.ro, h.ra, h.oa, h.rn, h.n, h.b, h.ln⟩
 obtain ⟨cs, hc⟩ := h.l;exact ⟨cs, own_fr hc hf (fun g hg => hne (own_bt hc hg) (by decide))⟩
theorem LJ.appL (h : LJ x q mo out r O oc L ln lc w0 w) {L2 : Option Addr} {ln2 lc2 : Nat} {cs : List Value} (hg : w.grownBy w' (Value.slice L ln lc).ownBlock) (hO : w'.ownsRow w0.heap.size 232 4 (.slice L2 ln2 lc2) ln2 cs) (hl : ln2 ≤ mo.length) : LJ x q mo out r O oc L2 ln2 lc2 w0 w' := by
 obtain ⟨cs0, hc⟩ := h.l;have hj := h.j;have hf : Fr (fun k => (Value.slice L ln lc).ownBlock = some k) w w' := (Fr.refl _ _).grown hg (fun g hg => .inl hg)
 have hne : ∀ {g : Nat} {t : TypeId}, BT w g t → t ≠ 232 → ¬ (Value.slice L ln lc).ownBlock = some g := fun hg h1 e => BT.ne hg (own_bt hc e) h1 rfl
 refine ⟨⟨hj.b.fr hf (hne ⟨_, hj.b⟩ (by decide)), hj.d.fr hf (hne ⟨_, hj.d⟩ (by decide)), hj.t.fr hf (hne ⟨_, hj.t.b⟩ (by decide)) (fun g hg => hne hg (by decide)) (fun g hg => hne hg (by decide)), hj.v.fr hf (hne hj.v.bt.1 (by decide)) (fun g hg => hne (hj.v.bt.2 g hg) (by decide)), hj.c.fr hf (hne ⟨_, hj.c.b⟩ (by decide)) (fun g hg => hne hg (by decide))⟩,
  own_fr h.o hf (fun g hg => hne (own_bt h.o hg) (by decide)), ⟨cs, hO⟩, h.f.trans' hf (fun i hi e => by have := (own_lt hc e).1; omega), h.ro, h.ra, h.oa, h.rn, h.n, h.b, hl⟩
theorem LJ.appO (h : LJ x q mo out r O oc L ln lc w0 w) {out2 : List UInt8} {O2 : Option Addr} {oc2 : Nat} (hg : w.grownBy w' (Value.slice O out.length oc).ownBlock) (hO : w'.ownsRow w0.heap.size 5 1 (.slice O2 out2.length oc2) out2.length (bys out2))
 (hat : (Value.slice O2 out2.length oc2).ownBlock = (Value.slice O out.length oc).ownBlock ∨ (Value.slice O2 out2.length oc2).ownBlock = some w.heap.size) : LJ x q mo out2 r O2 oc2 L ln lc w0 w' := by
 have hj := h.j;have hf : Fr (fun k => (Value.slice O out.length oc).ownBlock = some k) w w' := (Fr.refl _ _).grown hg (fun g hg => .inl hg)
 have hne : ∀ {g : Nat} {t : TypeId}, BT w g t → t ≠ 5 → ¬ (Value.slice O out.length oc).ownBlock = some g := fun hg h1 e => BT.ne hg (own_bt h.o e) h1 rfl
 refine ⟨⟨hj.b.fr hf (hne ⟨_, hj.b⟩ (by decide)), hj.d.fr hf (hne ⟨_, hj.d⟩ (by decide)), hj.t.fr hf (hne ⟨_, hj.t.b⟩ (by decide)) (fun g hg => hne hg (by decide)) (fun g hg => hne hg (by decide)), hj.v.fr hf (hne hj.v.bt.1 (by decide)) (fun g hg => h.ro g hg), hj.c.fr' hf (hne ⟨_, hj.c.b⟩ (by decide)) (fun h0 ad had => h.oa h0 ad had)⟩,
  hO, ?_, h.f.trans' hf (fun i hi e => by have := (own_lt h.o e).1; omega), ?_, h.ra, ?_, h.rn, h.n, h.b, h.ln⟩
 · obtain ⟨cs, hc⟩ := h.l;exact ⟨cs, own_fr hc hf (fun g hg => hne (own_bt hc hg) (by decide))⟩
 · intro g hg e;rcases hat with h1 | h1
   · exact h.ro g hg (h1.symm.trans e)
   · rw [h1] at e;injection e with e;have := (hj.v.lt.2 g hg).2;omega
 · intro h0 ad had e;rcases hat with h1 | h1
   · exact h.oa h0 ad had (h1.symm.trans e)
   · rw [h1] at e;injection e with e;have := (hj.c.bt h0 ad had).lt;omega
end
def ApQ (size B b : Nat) (r : Option Nat) (all bs : List UInt8) (tn ta tb tc td : Int) (f : Int) (w : World) (en : Ending) (w' : World) : Prop :=
 ∃ A c r', en = .returned (.tuple #[.slice A bs.length c, .agg #[.int .i64 tn, .int .i64 ta, .int .i64 tb, .int .i64 tc, .int .i64 td], .int .i64 f]) ∧ win.Win w' B b r' size (all ++ bs) ∧ w'.ownsRow w.heap.size 5 1 (.slice A bs.length c) bs.length (bys bs) ∧
  Fr (fun k => k = b ∨ some k = r) w w' ∧ (∀ g, r' = some g → r = some g ∨ w.heap.size ≤ g) ∧ (∀ g, (Value.slice A bs.length c).ownBlock = some g → r' ≠ some g)
theorem apB_sz {size : Nat} {all : List UInt8} {s : St} {y : Sy} (h : win.apE size all s y = 0) (hs : 1 ≤ szF y) : ((win.apB size all s y).length : Int) = szF y := by
 have h1 : nextE St.start y = 0 := by
  unfold szF at hs;by_cases h : nextE St.start y = 0
  · exact h
  · rw [if_neg h] at hs; omega
 have h2 : szF y = if y.k = 2 ∨ y.k = 3 then y.l else 1 := by rw [szF, if_pos h1]
 have h3 : szF y = win.lenOf y := by rw [h2, win.lenOf]
 unfold win.apB;rw [if_pos h];by_cases hk : y.k = 1
 · rw [if_pos hk, h2, if_neg (by omega)]
   rfl
 · rw [if_neg hk, List.length_drop, win.ext_length, ← h3];omega
theorem fr_set5 {S : Nat → Prop} {a w : World} (h : Fr S a w) {T : Nat} (hT : a.heap.size ≤ T) (u0 u1 u2 u3 u4 : Value) : Fr S a (((((w.setCell ⟨T, 0, none⟩ u0).setCell ⟨T, 1, none⟩ u1).setCell ⟨T, 2, none⟩ u2).setCell ⟨T, 3, none⟩ u3).setCell ⟨T, 4, none⟩ u4) :=
 ((((h.setCell (p := ⟨T, 0, none⟩) (.inr hT) _).setCell (p := ⟨T, 1, none⟩) (.inr hT) _).setCell (p := ⟨T, 2, none⟩) (.inr hT) _).setCell (p := ⟨T, 3, none⟩) (.inr hT) _).setCell (p := ⟨T, 4, none⟩) (.inr hT) _
def slLen : Value → Nat
 | .slice _ n _ => n
 | _ => 0
theorem all_any (x : RsX) (t : Tb) (A : Option Addr) (m c : Nat) (b : List UInt8) (n : Nat) (w : World) (h : Lz x t w) (hI : In w A m b) (hc : m ≤ c) (hl : Laid w) (hB : 16 < x.B) (hn : n ≤ 2097152) (hall : x.all.length ≤ 4611686018420000000) (hxB : x.B ≤ w.heap.size) :
 Calls Tryz.prog 196 #[.pointer (some ⟨x.d, 0, none⟩), .slice A m c, .int .i64 n] w (AllPost x b (allQ t x.size x.all b n) w) := by
 obtain ⟨R, hR⟩ : ∃ R, allQ t x.size x.all b n = R := ⟨_, rfl⟩;rw [hR];have HR := Lib.hid hR;have HN := Lib.hid (reader_any x t A m c b w h hI hc);have H := Lib.hid h;have HL := Lib.hid hl;have HG := Lib.hid hB;have HXB := Lib.hid hxB;clear hR h hI hl hB hc hxB;go_enter Tryz.func196, Tryz.ntmps196;go_wp2_with fail;refine HN.out.mono ?_;rintro e w1 ⟨hb, ⟨he, rfl⟩ | ⟨he, rd, rc, rfl, hrl, hrn, hrs, hrd, hdb, hA2⟩⟩
 · have HE := Lib.hid he;have HB := Lib.hid hb;clear he hb HN;go_wp2_with fail;have hr0 : R = none := by rw [← HR.out, allQ, if_neg HE.out]
   subst hr0;exact bodyPost_ret (v := .tuple #[.slice none 0 0, .slice none 0 0, .bool false]) (by simp [results, Tryz.results196, go_sem]) rfl ⟨_, _, rfl, H.out.d.below HB.out, Fr.of_below HB.out⟩
 · have HRg : Hid (allGo b x.size x.all n (n + 1) ⟨false, rcS0 b, t⟩ [] = R) := by show _ = _; rw [← HR.out, allQ, if_pos he]
   have HJ : Hid (LJ (x.read rd rc) ⟨false, rcS0 b, t⟩ [] [] x.r none 0 none 0 0 w w1) := by
    refine ⟨?_, World.ownsRow_nil _ _ _ _, ⟨[], World.ownsRow_nil _ _ _ _⟩, Fr.of_below hb, fun g _ e => (by cases e), fun g hg h0 ad had => ?_, fun _ _ _ e => (by cases e), fun g hg => .inl hg, ⟨hrd, hdb⟩, HXB.out, Nat.le_refl _⟩
    · have e : (x.read rd rc).on x.r [] = x.read rd rc := by unfold RsX.on RsX.read; simp
      rw [e]; exact hrs
    · have h1 := hA2 (by rw [← hrn]; exact h0) ad had
      have h2 := (H.out.v.lt.2 g hg).2;omega
   have HK := Lib.hid (And.intro hrl hrn);clear he hb HN hrl hrn hrs hrd hdb hA2;have HXr : Hid (∀ g, x.r = some g → x.B ≤ g) := fun g hg => (H.out.v.lt.2 g hg).1
   go_wp2_with fail;clear HR
   go_loopw [10, 11] (fun s10 s11 wr => ∃ (q : Q) (out : List UInt8) (r : Option Nat) (O : Option Addr) (oc : Nat) (L : Option Addr) (ln lc k : Nat), s10 = .slice L ln lc ∧ s11 = .slice O out.length oc ∧ out.length ≤ n ∧ Hid (LJ (x.read rd rc) q out out r O oc L ln lc w wr ∧ allGo b x.size x.all n k q out = R ∧ n - out.length < k ∧ q.f = false)) (fun _ s11 _ => n - slLen s11)
   case atStart => exact ⟨⟨false, rcS0 b, t⟩, [], x.r, none, 0, none, 0, 0, n + 1, rfl, rfl, Nat.zero_le _, HJ.out, HRg.out, by simp, rfl⟩
   case round =>
    clear HJ HRg;obtain ⟨q, out, r, O, oc, L, ln, lc, k, rfl, rfl, hon, HQ⟩ := hrel;obtain ⟨k, rfl⟩ : ∃ j, k = j + 1 := ⟨k - 1, by have := HQ.out.2.2.1; omega⟩
    obtain ⟨ol, hol⟩ : ∃ z, out.length = z := ⟨_, rfl⟩;have HOL := Lib.hid hol;rw [hol] at hon ⊢;by_cases hlt : ol < n
    · have hlt' : (ol : Int) < (n : Int) := by omega
      have HJ := Lib.hid HQ.out.1;have HQk := Lib.hid HQ.out.2.2.1;have hgo := HQ.out.2.1;rw [allGo, if_pos (by rw [hol]; exact hlt)] at hgo
      have hs := symbol_any ((x.read rd rc).on r out) q wr HJ.out.j;rw [symbolQ_bare, show ((x.read rd rc).on r out).rc.l = b from HK.out.1] at hs
      obtain ⟨⟨y, q1⟩, hy⟩ : ∃ z, symbolQ (bareX b x.size (x.all ++ out)) q = z := ⟨_, rfl⟩;have hs' : Calls Tryz.prog 208 #[.pointer (some ⟨rd, 0, none⟩)] wr (SPost ((x.read rd rc).on r out) wr (y, q1)) := by rw [← hy]; exact hs
      rw [hy, hol] at hgo;simp only [] at hgo;have HS := Lib.hid hs';have HGo := Lib.hid hgo;obtain ⟨yk, yy, yl, yx⟩ := y;clear hs hs' hgo hy hol hlt;go_wp2_with fail;refine HS.out.mono ?_;rintro e w2 ⟨rfl, h2, hf2⟩;have HJ2 := Lib.hid (HJ.out.read h2 hf2);clear h2 hf2 HS;unfold Sy.v Sy.cs;simp only [];go_upto_region 8 with (fail);obtain ⟨Y, hY⟩ : ∃ Y, w2.heap.size = Y := ⟨_, rfl⟩;obtain ⟨w3, hw3⟩ : ∃ w3, w2.alloc (.cells #[.int .i64 yk, .int .u8 (yy.toNat : Int), .int .i64 yl, .int .i64 yx] 232) = w3 := ⟨_, rfl⟩
      have HJ3 := Lib.hid (HJ2.out.below (w' := w3) (by rw [← hw3]; exact (Below.refl _ _).alloc (Nat.le_refl _) _))
      have HY3 : Hid (Blk w3 Y 232 #[.int .i64 yk, .int .u8 (yy.toNat : Int), .int .i64 yl, .int .i64 yx]) := by show Blk _ _ _ _; rw [← hw3]; exact Blk.new_at hY.symm
      have HYn : Hid (w.heap.size ≤ Y) := by show _ ≤ _; rw [← hY]; exact HJ2.out.f.size
      rw [hw3, hY];clear hw3 hY HJ2 HJ HQ;obtain ⟨y0, y1, y2, y3⟩ := HY3.out.four;have HLd : Hid (∀ w', Below w3.heap.size w3 w' → Laid w') := fun w' hb => HL.out.low ((HJ3.out.below hb).low HXr.out) HG.out
      have c2 : w3.cell? ⟨rd, 2, none⟩ = some (.bool q1.f) := HJ3.out.j.b.cell 2;obtain ⟨f, hf⟩ : ∃ f, q1.f = f := ⟨_, rfl⟩;have HF := Lib.hid hf;rw [hf] at c2;clear hf;cases f
      · have HY1 := Lib.hid (fun w' hb => YSize_any yk yl yx yy w' (HLd.out w' hb))
        obtain ⟨sz, hsz⟩ : ∃ z, szF ⟨yk, yy, yl, yx⟩ = z := ⟨_, rfl⟩;rw [hsz] at HY1;have HSZ := Lib.hid hsz;clear hsz;go_wp2_with fail;refine (HY1.out w3 (Below.refl _ _)).mono ?_;rintro e w4 ⟨rfl, hb4⟩;have HB4 := Lib.hid hb4;obtain ⟨z0, z1, z2, z3⟩ := (HY3.out.below hb4).four;clear hb4;by_cases h1 : sz < 1
        · have hr0 : R = none := by rw [← HGo.out, if_pos (by unfold badY; rw [HSZ.out, decide_eq_true h1]; simp)]
          subst hr0;go_wp2_with fail;exact bodyPost_ret (v := .tuple #[.slice none 0 0, .slice none 0 0, .bool false]) (by simp [results, Tryz.results196, go_sem]) rfl ⟨_, _, rfl, (HJ3.out.below HB4.out).failed⟩
        · have h1' : decide (sz < 1) = false := decide_eq_false h1;go_wp2_with fail;refine (HY1.out w4 HB4.out).mono ?_;rintro e w5 ⟨rfl, hb5⟩;have HB5 := Lib.hid (bup HB4.out hb5);clear hb5 z0 z1 z2 z3 HY1 HB4 y0 y1 y2 y3 c2;by_cases h2 : (n : Int) - (ol : Int) < sz
          · have hr0 : R = none := by rw [← HGo.out, if_pos (by unfold badY; rw [HSZ.out, decide_eq_true h2]; simp)]
            subst hr0;go_wp2_with fail;exact bodyPost_ret (v := .tuple #[.slice none 0 0, .slice none 0 0, .bool false]) (by simp [results, Tryz.results196, go_sem]) rfl ⟨_, _, rfl, (HJ3.out.below HB5.out).failed⟩
          · have h2' : decide ((n : Int) - (ol : Int) < sz) = false := decide_eq_false h2;have HG2 := Lib.hid (by have := HGo.out; rw [if_neg (by unfold badY; rw [HSZ.out, HF.out, h1', h2']; decide)] at this; exact this)
            have HSb : Hid (1 ≤ sz ∧ sz ≤ (n : Int) - (ol : Int)) := by constructor <;> omega
            have HJ5 := Lib.hid (HJ3.out.below HB5.out);have HY5 := Lib.hid (HY3.out.below HB5.out);have HL5 : Hid (∀ w', Below w5.heap.size w5 w' → Laid w') := fun w' hb => HLd.out w' (bup HB5.out hb)
            clear HGo h1 HJ3 HY3 HLd HB5;go_upto_region 10 with (fail);obtain ⟨⟨sn, sa, sb, sc, sd⟩, hst⟩ : ∃ z, q1.t.s = z := ⟨_, rfl⟩;have HST := Lib.hid hst;have hAp := fun W (hb : Below w5.heap.size w5 W) => win.Apply_sp x.B x.wb x.size r (x.all ++ out) sn sa sb sc sd yk yl yx yy W (HJ5.out.below hb).j.v (HL5.out W hb) (by rw [List.length_append]; have := HOL.out; omega)
            rw [hst] at HG2;obtain ⟨bs, hbs⟩ : ∃ z, win.apB x.size (x.all ++ out) ⟨sn, sa, sb, sc, sd⟩ ⟨yk, yy, yl, yx⟩ = z := ⟨_, rfl⟩;obtain ⟨⟨tn, ta, tb, tc, td⟩, hts⟩ : ∃ z, win.apS x.size (x.all ++ out) ⟨sn, sa, sb, sc, sd⟩ ⟨yk, yy, yl, yx⟩ = z := ⟨_, rfl⟩;obtain ⟨ae, hae⟩ : ∃ z, win.apE x.size (x.all ++ out) ⟨sn, sa, sb, sc, sd⟩ ⟨yk, yy, yl, yx⟩ = z := ⟨_, rfl⟩;rw [hbs, hts, hae] at hAp;rw [hbs, hae] at HG2
            have hAp : ∀ W, Below w5.heap.size w5 W → Calls Tryz.prog 135 #[.pointer (some ⟨x.wb, 0, none⟩), .agg #[.int .i64 sn, .int .i64 sa, .int .i64 sb, .int .i64 sc, .int .i64 sd], .agg #[.int .i64 yk, .int .u8 (yy.toNat : Int), .int .i64 yl, .int .i64 yx]] W (ApQ x.size x.B x.wb r (x.all ++ out) bs tn ta tb tc td ae W) := hAp;have HAp := Lib.hid hAp;have HTS := Lib.hid hts;have HBS := Lib.hid (And.intro hbs hae)
            clear hAp hts hbs hae hst;have HC : Hid (∀ W, Fr (fun k => k = x.wb ∨ some k = r) w5 W → W.cell? ⟨x.d, 0, none⟩ = some (.pointer (some ⟨x.tb.tb, 0, none⟩)) ∧ W.cell? ⟨x.d, 1, none⟩ = some (.pointer (some ⟨x.wb, 0, none⟩)) ∧ W.cell? ⟨x.tb.tb, 3, none⟩ = some (.int .i64 sn) ∧ W.cell? ⟨x.tb.tb, 4, none⟩ = some (.int .i64 sa) ∧ W.cell? ⟨x.tb.tb, 5, none⟩ = some (.int .i64 sb) ∧ W.cell? ⟨x.tb.tb, 6, none⟩ = some (.int .i64 sc) ∧ W.cell? ⟨x.tb.tb, 7, none⟩ = some (.int .i64 sd) ∧ W.cell? ⟨Y, 0, none⟩ = some (.int .i64 yk) ∧ W.cell? ⟨Y, 1, none⟩ = some (.int .u8 (yy.toNat : Int)) ∧ W.cell? ⟨Y, 2, none⟩ = some (.int .i64 yl) ∧ W.cell? ⟨Y, 3, none⟩ = some (.int .i64 yx)) := fun W hW => by
             have hj := HJ5.out.j;have hbt := hj.v.bt;have hne : ∀ {g : Nat} {t : TypeId}, BT w5 g t → t ≠ 247 → t ≠ 5 → ¬ (g = x.wb ∨ some g = r) := fun hg h1 h2 e => by
              rcases e with e | e
              · exact BT.ne hg hbt.1 h1 e
              · exact BT.ne hg (hbt.2 _ e.symm) h2 rfl
             have hd := hj.d.fr hW (hne ⟨_, hj.d⟩ (by decide) (by decide))
             have ht := hj.t.b.fr hW (hne ⟨_, hj.t.b⟩ (by decide) (by decide))
             have hy := HY5.out.fr hW (hne ⟨_, HY5.out⟩ (by decide) (by decide))
             unfold tbC at ht;rw [HST.out] at ht;exact ⟨hd.cell 0, hd.cell 1, ht.cell 3, ht.cell 4, ht.cell 5, ht.cell 6, ht.cell 7, hy.cell 0, hy.cell 1, hy.cell 2, hy.cell 3⟩
            obtain ⟨p0, p1, p2, p3, p4, p5, p6, p7, p8, p9, p10⟩ := HC.out w5 (Fr.refl _ _);go_cut [13, 14, 15] (fun s13 s14 s15 wy => ∃ (A2 : Option Addr) (c2 : Nat) (r2 : Option Nat) (T : Nat), s13 = .slice A2 bs.length c2 ∧ s14 = .pointer (some ⟨T, 0, none⟩) ∧ s15 = .int .i64 ae ∧ Hid (LJ (x.read rd rc) q1 (out ++ bs) out r2 O oc L ln lc w wy ∧ wy.ownsRow w.heap.size 5 1 (.slice A2 bs.length c2) bs.length (bys bs) ∧ Blk wy T 157 #[.int .i64 tn, .int .i64 ta, .int .i64 tb, .int .i64 tc, .int .i64 td] ∧ Blk wy Y 232 #[.int .i64 yk, .int .u8 (yy.toNat : Int), .int .i64 yl, .int .i64 yx]))
            case first =>
             have hb0 : Below w5.heap.size w5 w5.drew := (Below.refl _ _).drew;have hb1 : Below w5.heap.size w5 (w5.alloc (.cells #[.int .i64 0, .int .i64 0, .int .i64 0, .int .i64 0, .int .i64 0] 157)).drew := ((Below.refl _ _).alloc (Nat.le_refl _) _).drew;have hTn : ¬ (w5.heap.size = x.wb ∨ some w5.heap.size = r) := fun e => by
              have hv := HJ5.out.j.v.lt;rcases e with e | e
              · have := hv.1; simp only [RsX.on, RsX.read] at this; omega
              · have := (hv.2 _ e.symm).2; omega
             go_region_held3 (fun w' => w'.cell? ⟨x.d, 0, none⟩ = some (.pointer (some ⟨x.tb.tb, 0, none⟩)) ∧ w'.cell? ⟨x.d, 1, none⟩ = some (.pointer (some ⟨x.wb, 0, none⟩)) ∧ w'.cell? ⟨x.tb.tb, 3, none⟩ = some (.int .i64 sn) ∧ w'.cell? ⟨x.tb.tb, 4, none⟩ = some (.int .i64 sa) ∧ w'.cell? ⟨x.tb.tb, 5, none⟩ = some (.int .i64 sb) ∧ w'.cell? ⟨x.tb.tb, 6, none⟩ = some (.int .i64 sc) ∧ w'.cell? ⟨x.tb.tb, 7, none⟩ = some (.int .i64 sd) ∧ w'.cell? ⟨Y, 0, none⟩ = some (.int .i64 yk) ∧ w'.cell? ⟨Y, 1, none⟩ = some (.int .u8 (yy.toNat : Int)) ∧ w'.cell? ⟨Y, 2, none⟩ = some (.int .i64 yl) ∧ w'.cell? ⟨Y, 3, none⟩ = some (.int .i64 yx))
              (first | (with_reducible exact HC.out _ (Fr.refl _ _).drew) | (with_reducible exact HC.out _ ((Fr.refl _ _).alloc _).drew) | (with_reducible exact HC.out _ hF6) | (with_reducible exact HC.out _ (hF6.alloc _)) | (with_reducible exact HC.out _ (fr_set5 hF6 (Nat.le_refl _) _ _ _ _ _)))
              (first | (go_at_call 135; refine (HAp.out _ (by first | (with_reducible exact hb0) | (with_reducible exact hb1))).mono ?_; rintro en w6 ⟨A2, c2, r2, rfl, hv6, ho6, hf6, hr6, hno6⟩; have hF6 : Fr (fun k => k = x.wb ∨ some k = r) w5 w6 := (by first | (with_reducible exact (Fr.of_below hb0).trans hf6) | (with_reducible exact (Fr.of_below hb1).trans hf6)); (try (have hz : Blk w6 w5.heap.size 157 #[.int .i64 0, .int .i64 0, .int .i64 0, .int .i64 0, .int .i64 0] := (by with_reducible exact (Blk.new w5 157 #[.int .i64 0, .int .i64 0, .int .i64 0, .int .i64 0, .int .i64 0]).drew.fr hf6 hTn); obtain ⟨⟨z0, z1, z2, z3, z4⟩, ⟨f0, f1, f2, f3, f4⟩⟩ := st_five hz))))
             all_goals go_wp2_with fail
             all_goals go_meet
             all_goals
              have hJ6 : LJ (x.read rd rc) q1 (out ++ bs) out r2 O oc L ln lc w w6 := by
               first
                | exact (HJ5.out.below hb0).apply hv6 hf6 hr6
                | exact (HJ5.out.below hb1).apply hv6 hf6 hr6
              have hO6 : w6.ownsRow w.heap.size 5 1 (.slice A2 bs.length c2) bs.length (bys bs) := own_mono ho6 (Nat.le_trans HJ5.out.f.size (by first | exact hb0.size | exact hb1.size))
              have hY6 : Blk w6 Y 232 #[.int .i64 yk, .int .u8 (yy.toNat : Int), .int .i64 yl, .int .i64 yx] := HY5.out.fr hF6 (fun e => by
               rcases e with e | e
               · exact BT.ne ⟨_, HY5.out⟩ HJ5.out.j.v.bt.1 (by decide) e
               · exact BT.ne ⟨_, HY5.out⟩ (HJ5.out.j.v.bt.2 _ e.symm) (by decide) rfl)
             · have hnb : Below w6.heap.size w6 (w6.alloc (.cells #[.int .i64 tn, .int .i64 ta, .int .i64 tb, .int .i64 tc, .int .i64 td] 157)) := (Below.refl _ _).alloc (Nat.le_refl _) _;exact ⟨A2, c2, r2, w6.heap.size, rfl, rfl, rfl, hJ6.below hnb, own_below hO6 hnb, Blk.new _ _ _, hY6.below hnb⟩
             · have hf5 : Fr (fun k => k = w5.heap.size) w6 (((((w6.setCell ⟨w5.heap.size, 0, none⟩ (.int .i64 tn)).setCell ⟨w5.heap.size, 1, none⟩ (.int .i64 ta)).setCell ⟨w5.heap.size, 2, none⟩ (.int .i64 tb)).setCell ⟨w5.heap.size, 3, none⟩ (.int .i64 tc)).setCell ⟨w5.heap.size, 4, none⟩ (.int .i64 td)) := Fr.set1 (Fr.set1 (Fr.set1 (Fr.set1 (Fr.set1 (Fr.refl _ _) 0 _) 1 _) 2 _) 3 _) 4 _
               exact ⟨A2, c2, r2, w5.heap.size, rfl, rfl, rfl, hJ6.frT hf5 ⟨_, hz⟩ HJ5.out.f.size, own_fr hO6 hf5 (fun g hg => BT.ne (own_bt hO6 hg) ⟨_, hz⟩ (by decide)), set5_st hz _ _ _ _ _, hY6.fr hf5 (BT.ne ⟨_, hY6⟩ ⟨_, hz⟩ (by decide))⟩
            case rest =>
             obtain ⟨A2, c2, r2, T, rfl, rfl, rfl, H6⟩ := hcut;have HLN : Hid (ln ≤ out.length) := HJ5.out.ln;clear HC HAp HJ5 HY5 HL5 p0 p1 p2 p3 p4 p5 p6 p7 p8 p9 p10;by_cases hae : ae = 0
             · subst hae;have HG3 := Lib.hid (by have := HG2.out; rw [if_pos rfl] at this; exact this)
               clear HG2;have hj := H6.out.1.j;have d0 : wc.cell? ⟨x.d, 0, none⟩ = some (.pointer (some ⟨x.tb.tb, 0, none⟩)) := hj.d.cell 0;obtain ⟨⟨a0, a1, a2, a3, a4⟩, _⟩ := st_five H6.out.2.2.1;have t0 : wc.cell? ⟨x.tb.tb, 3, none⟩ = some (.int .i64 q1.t.s.n) := hj.st.1;have t1 : wc.cell? ⟨x.tb.tb, 4, none⟩ = some (.int .i64 q1.t.s.a) := hj.st.2.1;have t2 : wc.cell? ⟨x.tb.tb, 5, none⟩ = some (.int .i64 q1.t.s.b) := hj.st.2.2.1
               have t3 : wc.cell? ⟨x.tb.tb, 6, none⟩ = some (.int .i64 q1.t.s.c) := hj.st.2.2.2.1;have t4 : wc.cell? ⟨x.tb.tb, 7, none⟩ = some (.int .i64 q1.t.s.d) := hj.st.2.2.2.2.1;have g3 : wc.frozen? ⟨x.tb.tb, 3, none⟩ = false := hj.t.b.frozen 3;have g4 : wc.frozen? ⟨x.tb.tb, 4, none⟩ = false := hj.t.b.frozen 4;have g5 : wc.frozen? ⟨x.tb.tb, 5, none⟩ = false := hj.t.b.frozen 5;have g6 : wc.frozen? ⟨x.tb.tb, 6, none⟩ = false := hj.t.b.frozen 6
               have g7 : wc.frozen? ⟨x.tb.tb, 7, none⟩ = false := hj.t.b.frozen 7;clear hj;go_wp2_with fail
               go_region
               all_goals
                have HJ7 := Lib.hid ((H6.out.1.setSt ⟨tn, ta, tb, tc, td⟩).below (below_drewN (Below.refl _ _) 1));have hf7 : Fr (fun k => k = x.tb.tb) wc (((((wc.setCell ⟨x.tb.tb, 3, none⟩ (.int .i64 tn)).setCell ⟨x.tb.tb, 4, none⟩ (.int .i64 ta)).setCell ⟨x.tb.tb, 5, none⟩ (.int .i64 tb)).setCell ⟨x.tb.tb, 6, none⟩ (.int .i64 tc)).setCell ⟨x.tb.tb, 7, none⟩ (.int .i64 td)).drew := (Fr.set1 (Fr.set1 (Fr.set1 (Fr.set1 (Fr.set1 (Fr.refl _ _) 3 _) 4 _) 5 _) 6 _) 7 _).drew
                have HO7 := Lib.hid (own_fr H6.out.2.1 hf7 (fun g hg => BT.ne (own_bt H6.out.2.1 hg) ⟨_, H6.out.1.j.t.b⟩ (by decide)))
                have hY7 := H6.out.2.2.2.fr hf7 (BT.ne ⟨_, H6.out.2.2.2⟩ ⟨_, H6.out.1.j.t.b⟩ (by decide))
                obtain ⟨w7, hw7⟩ : ∃ w7, (((((wc.setCell ⟨x.tb.tb, 3, none⟩ (.int .i64 tn)).setCell ⟨x.tb.tb, 4, none⟩ (.int .i64 ta)).setCell ⟨x.tb.tb, 5, none⟩ (.int .i64 tb)).setCell ⟨x.tb.tb, 6, none⟩ (.int .i64 tc)).setCell ⟨x.tb.tb, 7, none⟩ (.int .i64 td)).drew = w7 := ⟨_, rfl⟩;have HJ7 : Hid (LJ (x.read rd rc) ⟨q1.f, q1.s, { q1.t with s := ⟨tn, ta, tb, tc, td⟩ }⟩ (out ++ bs) out r2 O oc L ln lc w w7) := by show LJ _ _ _ _ _ _ _ _ _ _ _ _; rw [← hw7]; exact HJ7.out
                have hbsz : Hid (bs.length = sz.toNat ∧ 1 ≤ bs.length ∧ out.length + bs.length ≤ n) := by
                 have h1 := apB_sz HBS.out.2 (by rw [HSZ.out]; exact HSb.out.1)
                 rw [HBS.out.1, HSZ.out] at h1;have h2 := HSb.out;have h3 := HOL.out;refine ⟨?_, ?_, ?_⟩ <;> omega
                rw [hw7] at HO7 hY7 ⊢;clear hw7 hf7 d0 a0 a1 a2 a3 a4 t0 t1 t2 t3 t4 g3 g4 g5 g6 g7;obtain ⟨y0, y1, y2, y3⟩ := hY7.four;obtain ⟨iy, hi0, hz0, hz1, hz2⟩ := info_parts infosy;obtain ⟨csl, hcsl⟩ := HJ7.out.l;have HC7 := Lib.hid hcsl;have hnb : Below w7.heap.size w7 (w7.alloc (.cells #[.int .i64 yk, .int .u8 (yy.toNat : Int), .int .i64 yl, .int .i64 yx] 232)) := (Below.refl _ _).alloc (Nat.le_refl _) _
                have hrd : Rd (w7.alloc (.cells #[.int .i64 yk, .int .u8 (yy.toNat : Int), .int .i64 yl, .int .i64 yx] 232)) 4 (some ⟨w7.heap.size, 0, none⟩) 1 [.int .i64 yk, .int .u8 (yy.toNat : Int), .int .i64 yl, .int .i64 yx] :=
                 ⟨rfl, fun _ => ⟨_, rfl, fun j u hu => by
                  rw [show (⟨w7.heap.size, 0, none⟩ : Addr).add j = ⟨w7.heap.size, j, none⟩ from by unfold Addr.add; split <;> simp_all, (Blk.new w7 232 #[.int .i64 yk, .int .u8 (yy.toNat : Int), .int .i64 yl, .int .i64 yx]).cell]
                  simpa using hu⟩⟩
                have HRd := Lib.hid hrd;have HNb := Lib.hid hnb;have hsz7 : w.heap.size ≤ w7.heap.size := HJ7.out.f.size;have hln : ln ≤ 2097152 := by have := HLN.out; have := HOL.out; omega
                clear hcsl hnb hrd hY7 H6;go_wp2_with (first | (at_builtin; with_reducible refine wpList_append_rd rfl (.tmp 71) (.tmp 73) 229 rfl w.heap.size 232 iy _ 4 32 Tryz.underlying229 hi0 hz0 hz1 hz2 rfl (by decide) _ ln csl rfl (own_below HC7.out HNb.out) _ 1 1 _ rfl HRd.out ?_ (by unfold maxLen; omega) (by omega) (by simp; omega) ?_))
                · exact ⟨rfl, rfl, rfl, rfl⟩
                · intro L8 lc8 w8 hown8 hg8 _;have HJ8 : Hid (LJ (x.read rd rc) ⟨q1.f, q1.s, { q1.t with s := ⟨tn, ta, tb, tc, td⟩ }⟩ (out ++ bs) out r2 O oc L8 (ln + 1) lc8 w w8) := (HJ7.out.below HNb.out).appL hg8 hown8 (by have := HLN.out; have := hbsz.out; rw [List.length_append]; omega)
                  have HO8 := Lib.hid (own_fr (own_below HO7.out HNb.out) ((Fr.refl (fun k => (Value.slice L ln lc).ownBlock = some k) _).grown hg8 (fun g hg => .inl hg)) (fun g hg e => BT.ne (own_bt (own_below HO7.out HNb.out) hg) (own_bt (own_below HC7.out HNb.out) e) (by decide) rfl))
                  have hsz8 : w.heap.size ≤ w8.heap.size := HJ8.out.f.size;obtain ⟨iu, ju0, ju1, ju2, ju3⟩ := info_parts infou8;have hown0 : w8.ownsRow w.heap.size 5 1 (.slice O ol oc) ol (bys out) := by have := HJ8.out.o; rw [HOL.out] at this; exact this
                  have HW0 := Lib.hid hown0;have hbl : bs.length ≤ 2097152 := by have := hbsz.out; omega
                  clear hown8 hg8 HJ7 HO7 HC7 HRd HNb y0 y1 y2 y3 hown0;go_wp2_with (first | (at_builtin; refine wpList_append_rd rfl (.tmp 75) (.tmp 76) 22 rfl w.heap.size 5 iu _ 1 1 Tryz.underlying22 ju0 ju1 ju2 ju3 rfl (by decide) _ ol (bys out) rfl HW0.out _ bs.length _ _ rfl (Rd.of_own HO8.out) (bys_one _) (by unfold maxLen; omega) (by omega) (by omega) ?_))
                  intro O9 oc9 w9 hown9 hg9 hat9;have hlen : (out ++ bs).length = ol + bs.length := by rw [List.length_append, HOL.out]
                  have hown9' : w9.ownsRow w.heap.size 5 1 (.slice O9 (out ++ bs).length oc9) (out ++ bs).length (bys (out ++ bs)) := by rw [bys_append, hlen]; exact hown9
                  have HJ9 : Hid (LJ (x.read rd rc) ⟨q1.f, q1.s, { q1.t with s := ⟨tn, ta, tb, tc, td⟩ }⟩ (out ++ bs) (out ++ bs) r2 O9 oc9 L8 (ln + 1) lc8 w w9) := HJ8.out.appO (by rw [HOL.out]; exact hg9) hown9' (by rw [HOL.out, hlen]; exact hat9)
                  have HSt : Hid (stepQ x.size (x.all ++ out) q1 ⟨yk, yy, yl, yx⟩ = ⟨q1.f, q1.s, { q1.t with s := ⟨tn, ta, tb, tc, td⟩ }⟩) := by show _ = _; unfold stepQ; rw [HST.out, HTS.out]
                  have hG9 := HG3.out;rw [HSt.out] at hG9;have HG9 := Lib.hid hG9;have HLE := Lib.hid hlen;clear hown9 hg9 hat9 hlen hown9' HJ8 HO8 HG3 HW0 hG9;have HFu : Hid (n - (out ++ bs).length < k) := by show _ < _; have h1 := HQk.out; have h2 := hbsz.out; rw [List.length_append]; omega
                  go_wp2_with fail
                  go_roundw
                  case rel => exact ⟨_, out ++ bs, r2, O9, oc9, L8, ln + 1, lc8, k, rfl, by rw [HLE.out], by rw [List.length_append]; exact hbsz.out.2.2, HJ9.out, HG9.out, HFu.out, HF.out⟩
                  case measure => have := hbsz.out; have := HOL.out; simp [slLen]; omega
             · have hr0 : R = none := by rw [← HG2.out, if_neg hae]
               subst hr0;have hae' : (ae == 0) = false := beq_eq_false_iff_ne.2 hae;have HA := Lib.hid hae;clear hae;go_wp2_with fail;exact bodyPost_ret (v := .tuple #[.slice none 0 0, .slice none 0 0, .bool false]) (by simp [results, Tryz.results196, go_sem]) rfl ⟨_, _, rfl, H6.out.1.failed⟩
      · have hr0 : R = none := by rw [← HGo.out, if_pos (by unfold badY; rw [HF.out]; rfl)]
        subst hr0;go_wp2_with fail;exact bodyPost_ret (v := .tuple #[.slice none 0 0, .slice none 0 0, .bool false]) (by simp [results, Tryz.results196, go_sem]) rfl ⟨_, _, rfl, HJ3.out.failed⟩
    · have HJ := Lib.hid HQ.out.1;have hgo := HQ.out.2.1;rw [allGo, if_neg (by rw [hol]; exact hlt)] at hgo
      have hr0 : R = some (q, out) := hgo.symm;subst hr0;have hlt' : ¬ (ol : Int) < (n : Int) := by omega
      have r1 : wr.cell? ⟨rd, 1, none⟩ = some (.pointer (some ⟨rc.db, 0, none⟩)) := HJ.out.j.b.cell 1;have HD := Lib.hid (Done_any rc q.s wr HJ.out.j.c);clear hgo hol hlt HQ;go_wp2_with fail;refine HD.out.mono ?_;rintro e w2 ⟨rfl, k2, rfl⟩;obtain ⟨dn, hdn⟩ : ∃ z, doneB rc.n q.s = z := ⟨_, rfl⟩;rw [hdn];have HDN := Lib.hid hdn;clear hdn HD;go_wp2_with fail;exact bodyPost_ret (v := .tuple #[.slice L ln lc, .slice O ol oc, .bool dn]) (by simp [results, Tryz.results196, go_sem]) rfl ⟨rd, rc, r, O, oc, L, ln, lc, HK.out.1, HK.out.2, by rw [HOL.out, ← HDN.out, HK.out.2], HJ.out.below (below_drewN (Below.refl _ _) k2)⟩
end Go.Proofs.YtcjehjdehdoaeaaGreatDoor
