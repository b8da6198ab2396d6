
/-
  What the law SymbolApply holds in its loop: two windows, the state, the book of answered lists, and how each step keeps the others. Conditions beyond each lemma's own: none.
-/
import Derived.Test.YthcgchkcanhmnaaDoorRowsC
import Derived.ChangeKeysEq
namespace Go.Proofs.YthcgchkcanhmnaaDoor
open Go.RowKit

structure AL (w wr : World) (size b c S : Nat) (r1 r2 : Option Nat) (s : St) (all all2 : List UInt8) (L : Option Addr) (k lc : Nat) (es : List HE) : Prop where
  win : Win wr w.heap.size b r1 size all
  rwin : WinR wr w.heap.size c r2 size all2
  st : Blk wr S 35 (stC s.n s.a s.b s.c s.d)
  base : w.heap.size ≤ S
  row : wr.ownsRow w.heap.size 47 5 (.slice L k lc) k (hec es)
  own : BookOwn wr w.heap.size es
  sep : BookSep es
  ok : ∀ (i : Nat) (e : HE), es[i]? = some e → e.ok ∧ e.N ≤ 1073741824
  ne1 : ∀ (i : Nat) (e : HE), es[i]? = some e → ∀ g, e.v.ownBlock = some g → r1 ≠ some g
  ne2 : ∀ (i : Nat) (e : HE), es[i]? = some e → ∀ g, e.v.ownBlock = some g → r2 ≠ some g
  ne12 : ∀ g, r1 = some g → r2 ≠ some g
  below : Below w.heap.size w wr
section
variable {w wr w' : World} {size b c S k lc : Nat} {r1 r2 : Option Nat} {s : St} {all all2 bs : List UInt8} {L : Option Addr} {es : List HE}
theorem AL.len (h : AL w wr size b c S r1 r2 s all all2 L k lc es) : es.length = k := by have := h.row.1; rw [hec_length] at this; omega
theorem AL.keep (h : AL w wr size b c S r1 r2 s all all2 L k lc es) (hb : Below wr.heap.size wr w') : AL w w' size b c S r1 r2 s all all2 L k lc es :=
  ⟨h.win.below hb, h.rwin.below hb, h.st.below hb, h.base, own_below h.row hb, h.own.below hb, h.sep, h.ok, h.ne1, h.ne2, h.ne12, bup h.below hb⟩
theorem AL.bts (h : AL w wr size b c S r1 r2 s all all2 L k lc es) : c ≠ b ∧ (∀ g, r1 = some g → c ≠ g) ∧ (∀ g, r2 = some g → g ≠ b) ∧ S ≠ b ∧ S ≠ c ∧ (∀ g, r1 = some g → S ≠ g) ∧ (∀ g, r2 = some g → S ≠ g) ∧
    (∀ g, (Value.slice L k lc).ownBlock = some g → g ≠ b ∧ g ≠ c ∧ g ≠ S ∧ r1 ≠ some g ∧ r2 ≠ some g) ∧ (∀ (i : Nat) (e : HE), es[i]? = some e → ∀ g, e.v.ownBlock = some g → g ≠ b ∧ g ≠ c ∧ g ≠ S ∧ (Value.slice L k lc).ownBlock ≠ some g) := by
  have hS : BT wr S 35 := ⟨_, h.st⟩
  refine ⟨h.rwin.bt.1.ne h.win.bt.1 (by decide), fun g hg => h.rwin.bt.1.ne (h.win.bt.2 g hg) (by decide), fun g hg => (h.rwin.bt.2 g hg).ne h.win.bt.1 (by decide), hS.ne h.win.bt.1 (by decide), hS.ne h.rwin.bt.1 (by decide), fun g hg => hS.ne (h.win.bt.2 g hg) (by decide), fun g hg => hS.ne (h.rwin.bt.2 g hg) (by decide), fun g hg => ?_, fun i e hi g hg => ?_⟩
  · have hL := own_bt h.row hg
    exact ⟨hL.ne h.win.bt.1 (by decide), hL.ne h.rwin.bt.1 (by decide), hL.ne hS (by decide), fun e => hL.ne (h.win.bt.2 g e) (by decide) rfl, fun e => hL.ne (h.rwin.bt.2 g e) (by decide) rfl⟩
  · have hE := own_bt (h.own i e hi) hg
    exact ⟨hE.ne h.win.bt.1 (by decide), hE.ne h.rwin.bt.1 (by decide), hE.ne hS (by decide), fun e => hE.ne (own_bt h.row e) (by decide) rfl⟩
/-- the program's window changes -/
theorem AL.win1 {r' : Option Nat} {all' : List UInt8} (h : AL w wr size b c S r1 r2 s all all2 L k lc es) (hW : Win w' w.heap.size b r' size all') (hF : Fr (fun k => k = b ∨ some k = r1) wr w') (hA : ∀ g, r' = some g → r1 = some g ∨ wr.heap.size ≤ g) :
    AL w w' size b c S r' r2 s all' all2 L k lc es := by
  obtain ⟨t1, t2, t3, t4, t5, t6, t7, t8, t9⟩ := h.bts
  refine ⟨hW, h.rwin.fr hF ?_ ?_, h.st.fr hF ?_, h.base, own_fr h.row hF ?_, h.own.fr hF ?_, h.sep, h.ok, ?_, h.ne2, ?_, ?_⟩
  · rintro (e | e)
    · exact t1 e
    · exact t2 _ e.symm rfl
  · intro g hg
    rintro (e | e)
    · exact t3 g hg e
    · exact h.ne12 g e.symm hg
  · rintro (e | e)
    · exact t4 e
    · exact t6 _ e.symm rfl
  · intro g hg
    rintro (e | e)
    · exact (t8 g hg).1 e
    · exact (t8 g hg).2.2.2.1 e.symm
  · intro i e hi g hg
    rintro (e1 | e1)
    · exact (t9 i e hi g hg).1 e1
    · exact h.ne1 i e hi g hg e1.symm
  · intro i e hi g hg e1
    rcases hA g e1 with h1 | h1
    · exact h.ne1 i e hi g hg h1
    · have := (own_lt (h.own i e hi) hg).2; omega
  · intro g hg e1
    rcases hA g hg with h1 | h1
    · exact h.ne12 g h1 e1
    · have := (h.rwin.lt.2 g e1).2; omega
  · exact ((Fr.of_below (S := fun k => w.heap.size ≤ k) h.below).trans' hF (fun i _ hx => by
      rcases hx with hx | hx
      · have := h.win.base; omega
      · exact (h.win.lt.2 i hx.symm).1)).below (Nat.le_refl _) (fun k hk => hk)
/-- the document's window changes -/
theorem AL.win2 {r' : Option Nat} {all' : List UInt8} (h : AL w wr size b c S r1 r2 s all all2 L k lc es) (hW : WinR w' w.heap.size c r' size all') (hF : Fr (fun k => k = c ∨ some k = r2) wr w') (hA : ∀ g, r' = some g → r2 = some g ∨ wr.heap.size ≤ g) :
    AL w w' size b c S r1 r' s all all' L k lc es := by
  obtain ⟨t1, t2, t3, t4, t5, t6, t7, t8, t9⟩ := h.bts
  refine ⟨h.win.fr hF ?_ ?_, hW, h.st.fr hF ?_, h.base, own_fr h.row hF ?_, h.own.fr hF ?_, h.sep, h.ok, h.ne1, ?_, ?_, ?_⟩
  · rintro (e | e)
    · exact t1 e.symm
    · exact t3 _ e.symm rfl
  · intro g hg
    rintro (e | e)
    · exact t2 g hg e.symm
    · exact h.ne12 g hg e.symm
  · rintro (e | e)
    · exact t5 e
    · exact t7 _ e.symm rfl
  · intro g hg
    rintro (e | e)
    · exact (t8 g hg).2.1 e
    · exact (t8 g hg).2.2.2.2 e.symm
  · intro i e hi g hg
    rintro (e1 | e1)
    · exact (t9 i e hi g hg).2.1 e1
    · exact h.ne2 i e hi g hg e1.symm
  · intro i e hi g hg e1
    rcases hA g e1 with h1 | h1
    · exact h.ne2 i e hi g hg h1
    · have := (own_lt (h.own i e hi) hg).2; omega
  · intro g hg e1
    rcases hA g e1 with h1 | h1
    · exact h.ne12 g hg h1
    · have := (h.win.lt.2 g hg).2; omega
  · exact ((Fr.of_below (S := fun k => w.heap.size ≤ k) h.below).trans' hF (fun i _ hx => by
      rcases hx with hx | hx
      · have := h.rwin.base; omega
      · exact (h.rwin.lt.2 i hx.symm).1)).below (Nat.le_refl _) (fun k hk => hk)
/-- the state changes -/
theorem AL.state {t : St} (h : AL w wr size b c S r1 r2 s all all2 L k lc es) (hS : Blk w' S 35 (stC t.n t.a t.b t.c t.d)) (hF : Fr (fun k => k = S) wr w') : AL w w' size b c S r1 r2 t all all2 L k lc es := by
  obtain ⟨t1, t2, t3, t4, t5, t6, t7, t8, t9⟩ := h.bts
  exact ⟨h.win.fr hF (fun e => t4 e.symm) (fun g hg e => t6 g hg e.symm), h.rwin.fr hF (fun e => t5 e.symm) (fun g hg e => t7 g hg e.symm), hS, h.base, own_fr h.row hF (fun g hg e => (t8 g hg).2.2.1 e), h.own.fr hF (fun i e hi g hg e1 => (t9 i e hi g hg).2.2.1 e1), h.sep, h.ok, h.ne1, h.ne2, h.ne12,
    ((Fr.of_below (S := fun k => w.heap.size ≤ k) h.below).trans' hF (fun i _ hx => by have := h.base; omega)).below (Nat.le_refl _) (fun k hk => hk)⟩
/-- a block that is none of these changes: an answered list is written -/
theorem AL.far {F : Nat → Prop} (h : AL w wr size b c S r1 r2 s all all2 L k lc es) (hF : Fr F wr w') (f1 : ¬ F b) (f2 : ∀ g, r1 = some g → ¬ F g) (f3 : ¬ F c) (f4 : ∀ g, r2 = some g → ¬ F g) (f5 : ¬ F S) (f6 : ∀ g, (Value.slice L k lc).ownBlock = some g → ¬ F g) (f7 : ∀ (i : Nat) (e : HE), es[i]? = some e → ∀ g, e.v.ownBlock = some g → ¬ F g) (f8 : ∀ g, F g → w.heap.size ≤ g) :
    AL w w' size b c S r1 r2 s all all2 L k lc es :=
  ⟨h.win.fr hF f1 f2, h.rwin.fr hF f3 f4, h.st.fr hF f5, h.base, own_fr h.row hF f6, h.own.fr hF f7, h.sep, h.ok, h.ne1, h.ne2, h.ne12, ((Fr.of_below (S := fun k => w.heap.size ≤ k) h.below).trans' hF (fun i _ hx => f8 i hx)).below (Nat.le_refl _) (fun k hk => hk)⟩
/-- a list is put into the book -/
theorem AL.grow {w5 : World} {L2 : Option Addr} {lc2 : Nat} (h : AL w wr size b c S r1 r2 s all all2 L k lc es) (e : HE) (o : Obj) (hO : wr.ownsRow w.heap.size 5 1 e.v e.xs.length (bys e.xs)) (h1 : ∀ g, e.v.ownBlock = some g → r1 ≠ some g) (h2 : ∀ g, e.v.ownBlock = some g → r2 ≠ some g)
    (h3 : ∀ (i : Nat) (f : HE), es[i]? = some f → ∀ g, f.v.ownBlock = some g → e.v.ownBlock ≠ some g) (hok : e.ok ∧ e.N ≤ 1073741824) (h5 : w5.ownsRow w.heap.size 47 5 (.slice L2 (k + 1) lc2) (k + 1) (hec (es ++ [e]))) (hg : (wr.alloc o).grownBy w5 (Value.slice L k lc).ownBlock) :
    AL w w5 size b c S r1 r2 s all all2 L2 (k + 1) lc2 (es ++ [e]) := by
  obtain ⟨t1, t2, t3, t4, t5, t6, t7, t8, t9⟩ := h.bts
  have hF : Fr (fun g => (Value.slice L k lc).ownBlock = some g) wr w5 := ((Fr.refl _ wr).alloc o).grown hg (fun g hg => .inl hg)
  have hEL : ∀ g, e.v.ownBlock = some g → (Value.slice L k lc).ownBlock ≠ some g := fun g hg e1 => (own_bt hO hg).ne (own_bt h.row e1) (by decide) rfl
  have hget : ∀ (i : Nat) (f : HE), (es ++ [e])[i]? = some f → (es[i]? = some f ∧ i < es.length) ∨ (f = e ∧ i = es.length) := fun i f hi => by
    by_cases hlt : i < es.length
    · rw [List.getElem?_append_left hlt] at hi; exact .inl ⟨hi, hlt⟩
    · rw [List.getElem?_append_right (by omega)] at hi
      obtain ⟨j, hj⟩ : ∃ j, i - es.length = j := ⟨_, rfl⟩
      rw [hj] at hi
      cases j with
      | zero => simp at hi; exact .inr ⟨hi.symm, by omega⟩
      | succ j => simp at hi
  refine ⟨h.win.fr hF (fun e1 => (t8 _ e1).1 rfl) (fun g hg e1 => (t8 g e1).2.2.2.1 hg), h.rwin.fr hF (fun e1 => (t8 _ e1).2.1 rfl) (fun g hg e1 => (t8 g e1).2.2.2.2 hg), h.st.fr hF (fun e1 => (t8 _ e1).2.2.1 rfl), h.base, h5, ?_, ?_, ?_, ?_, ?_, h.ne12, ?_⟩
  · intro i f hi
    rcases hget i f hi with ⟨hi, _⟩ | ⟨rfl, _⟩
    · exact own_fr (h.own i f hi) hF (fun g hg => (t9 i f hi g hg).2.2.2)
    · exact own_fr hO hF hEL
  · intro i j f f' hij hi hj g hg hg'
    have ki := hget i f hi
    have kj := hget j f' hj
    clear hi hj
    rcases ki with ⟨ki, _⟩ | ⟨ki, ii⟩
    · rcases kj with ⟨kj, _⟩ | ⟨kj, jj⟩
      · exact h.sep i j f f' hij ki kj g hg hg'
      · rw [kj] at hg'; exact h3 i f ki g hg hg'
    · rcases kj with ⟨kj, _⟩ | ⟨kj, jj⟩
      · rw [ki] at hg; exact h3 j f' kj g hg' hg
      · omega
  · intro i f hi
    rcases hget i f hi with ⟨hi, _⟩ | ⟨rfl, _⟩
    · exact h.ok i f hi
    · exact hok
  · intro i f hi g hg
    rcases hget i f hi with ⟨hi, _⟩ | ⟨rfl, _⟩
    · exact h.ne1 i f hi g hg
    · exact h1 g hg
  · intro i f hi g hg
    rcases hget i f hi with ⟨hi, _⟩ | ⟨rfl, _⟩
    · exact h.ne2 i f hi g hg
    · exact h2 g hg
  · exact ((Fr.of_below (S := fun k => w.heap.size ≤ k) h.below).trans' hF (fun i _ hx => (own_lt h.row hx).1)).below (Nat.le_refl _) (fun k hk => hk)
/-- memory that the round makes for itself changes -/
theorem AL.temp {Z : Nat} {cs : Array Value} (h : AL w wr size b c S r1 r2 s all all2 L k lc es) (hZ : Blk wr Z 39 cs) (hB : w.heap.size ≤ Z) (hF : Fr (fun g => g = Z) wr w') : AL w w' size b c S r1 r2 s all all2 L k lc es := by
  have hT : BT wr Z 39 := ⟨_, hZ⟩
  have hS : BT wr S 35 := ⟨_, h.st⟩
  exact h.far hF (h.win.bt.1.ne hT (by decide)) (fun g hg => (h.win.bt.2 g hg).ne hT (by decide)) (h.rwin.bt.1.ne hT (by decide)) (fun g hg => (h.rwin.bt.2 g hg).ne hT (by decide)) (hS.ne hT (by decide)) (fun g hg => (own_bt h.row hg).ne hT (by decide)) (fun i e hi g hg => (own_bt (h.own i e hi) hg).ne hT (by decide)) (fun g hg => by omega)
/-- .. and the list that is answered -/
structure AB (w wr : World) (size b c S : Nat) (r1 r2 : Option Nat) (s : St) (all all2 : List UInt8) (L : Option Addr) (k lc : Nat) (es : List HE) (A1 : Option Addr) (c1 : Nat) (bs : List UInt8) : Prop where
  al : AL w wr size b c S r1 r2 s all all2 L k lc es
  own : wr.ownsRow w.heap.size 5 1 (.slice A1 bs.length c1) bs.length (bys bs)
  ne1 : ∀ g, (Value.slice A1 bs.length c1).ownBlock = some g → r1 ≠ some g
  ne2 : ∀ g, (Value.slice A1 bs.length c1).ownBlock = some g → r2 ≠ some g
  nee : ∀ (i : Nat) (e : HE), es[i]? = some e → ∀ g, e.v.ownBlock = some g → (Value.slice A1 bs.length c1).ownBlock ≠ some g
variable {A1 : Option Addr} {c1 : Nat}
theorem AB.keep (h : AB w wr size b c S r1 r2 s all all2 L k lc es A1 c1 bs) (hb : Below wr.heap.size wr w') : AB w w' size b c S r1 r2 s all all2 L k lc es A1 c1 bs :=
  ⟨h.al.keep hb, own_below h.own hb, h.ne1, h.ne2, h.nee⟩
theorem AB.win2 {r' : Option Nat} {all' : List UInt8} (h : AB w wr size b c S r1 r2 s all all2 L k lc es A1 c1 bs) (hW : WinR w' w.heap.size c r' size all') (hF : Fr (fun k => k = c ∨ some k = r2) wr w') (hA : ∀ g, r' = some g → r2 = some g ∨ wr.heap.size ≤ g) :
    AB w w' size b c S r1 r' s all all' L k lc es A1 c1 bs := by
  refine ⟨h.al.win2 hW hF hA, own_fr h.own hF (fun g hg => ?_), h.ne1, fun g hg e => ?_, h.nee⟩
  · rintro (e | e)
    · exact (own_bt h.own hg).ne h.al.rwin.bt.1 (by decide) e
    · exact h.ne2 g hg e.symm
  · rcases hA g e with h1 | h1
    · exact h.ne2 g hg h1
    · have := (own_lt h.own hg).2; omega
theorem AB.state {t : St} (h : AB w wr size b c S r1 r2 s all all2 L k lc es A1 c1 bs) (hS : Blk w' S 35 (stC t.n t.a t.b t.c t.d)) (hF : Fr (fun k => k = S) wr w') : AB w w' size b c S r1 r2 t all all2 L k lc es A1 c1 bs :=
  ⟨h.al.state hS hF, own_fr h.own hF (fun g hg => (own_bt h.own hg).ne ⟨_, h.al.st⟩ (by decide)), h.ne1, h.ne2, h.nee⟩
theorem AB.temp {Z : Nat} {cs : Array Value} (h : AB w wr size b c S r1 r2 s all all2 L k lc es A1 c1 bs) (hZ : Blk wr Z 39 cs) (hB : w.heap.size ≤ Z) (hF : Fr (fun g => g = Z) wr w') : AB w w' size b c S r1 r2 s all all2 L k lc es A1 c1 bs :=
  ⟨h.al.temp hZ hB hF, own_fr h.own hF (fun g hg => (own_bt h.own hg).ne ⟨_, hZ⟩ (by decide)), h.ne1, h.ne2, h.nee⟩
theorem AB.made {W : World} {r' : Option Nat} {all' : List UInt8} (h : AL w W size b c S r1 r2 s all all2 L k lc es) (hW : Win w' w.heap.size b r' size all') (hF : Fr (fun k => k = b ∨ some k = r1) W w') (hA : ∀ g, r' = some g → r1 = some g ∨ W.heap.size ≤ g)
    (hO : w'.ownsRow W.heap.size 5 1 (.slice A1 bs.length c1) bs.length (bys bs)) (hN : ∀ g, (Value.slice A1 bs.length c1).ownBlock = some g → r' ≠ some g) : AB w w' size b c S r' r2 s all' all2 L k lc es A1 c1 bs :=
  ⟨h.win1 hW hF hA, own_mono hO h.below.size, hN, fun g hg e => by have := (h.rwin.lt.2 g e).2; have := (own_lt hO hg).1; omega, fun i e hi g hg e1 => by have := (own_lt (h.own i e hi) hg).2; have := (own_lt hO e1).1; omega⟩
theorem AB.hold {x : HE} (h : AB w wr size b c S r1 r2 s all all2 L k lc es A1 c1 bs) (hF : Fr (fun k => some k = (Value.slice A1 bs.length c1).ownBlock) wr w') (hat : x.v.ownBlock = (Value.slice A1 bs.length c1).ownBlock ∨ ∀ g, x.v.ownBlock = some g → wr.heap.size ≤ g) :
    AL w w' size b c S r1 r2 s all all2 L k lc es ∧ (∀ g, x.v.ownBlock = some g → r1 ≠ some g) ∧ (∀ g, x.v.ownBlock = some g → r2 ≠ some g) ∧ (∀ (i : Nat) (f : HE), es[i]? = some f → ∀ g, f.v.ownBlock = some g → x.v.ownBlock ≠ some g) := by
  have hS : BT wr S 35 := ⟨_, h.al.st⟩
  refine ⟨h.al.far hF (fun e => (own_bt h.own e.symm).ne h.al.win.bt.1 (by decide) rfl) (fun g hg e => h.ne1 g e.symm hg) (fun e => (own_bt h.own e.symm).ne h.al.rwin.bt.1 (by decide) rfl) (fun g hg e => h.ne2 g e.symm hg) (fun e => (own_bt h.own e.symm).ne hS (by decide) rfl) (fun g hg e => (own_bt h.own e.symm).ne (own_bt h.al.row hg) (by decide) rfl) (fun i f hi g hg e => h.nee i f hi g hg e.symm) (fun g hg => (own_lt h.own hg.symm).1), fun g hg e => ?_, fun g hg e => ?_, fun i f hi g hg e => ?_⟩
  · rcases hat with h1 | h1
    · rw [h1] at hg; exact h.ne1 g hg e
    · have := h1 g hg; have := (h.al.win.lt.2 g e).2; omega
  · rcases hat with h1 | h1
    · rw [h1] at hg; exact h.ne2 g hg e
    · have := h1 g hg; have := (h.al.rwin.lt.2 g e).2; omega
  · rcases hat with h1 | h1
    · rw [h1] at e; exact h.nee i f hi g hg e
    · have := h1 g e; have := (own_lt (h.al.own i f hi) hg).2; omega
end
theorem ofRef_any (n a b c d : Int) (w : World) : Calls Tryd.prog 13 #[.agg #[.int .i64 n, .int .i64 a, .int .i64 b, .int .i64 c, .int .i64 d]] w fun e w' => e = .returned (.agg #[.int .i64 n, .int .i64 a, .int .i64 b, .int .i64 c, .int .i64 d]) ∧ Below w.heap.size w w' := by
  go_enter Tryd.func13, Tryd.ntmps13
  go_wp2_with fail
  exact bodyPost_ret (v := .agg #[.int .i64 n, .int .i64 a, .int .i64 b, .int .i64 c, .int .i64 d]) (by simp [results, Tryd.results13, go_sem, *]) rfl ⟨rfl, ((Below.refl _ _).alloc (Nat.le_refl _) _).alloc (by simp) _⟩
theorem infoint : (Tryd.prog.info? 3).map (fun i => (i.zero, i.size, i.bytes)) = some (some (.int .i64 0), 1, 8) := by kernel_rfl
theorem eq4 (a b c d : Int) (w : World) : (Op.equalIn 10000 22 (.agg #[.int .i64 a, .int .i64 b, .int .i64 c, .int .i64 d]) (.agg #[.int .i64 a, .int .i64 b, .int .i64 c, .int .i64 d])).run Tryd.prog w = .ok true w := by
  obtain ⟨i0, hi0, hz0, hz1, hz2⟩ := info_parts infoint
  have hc : Tryd.prog.cellsOf 3 = 1 := by kernel_rfl
  rw [run_equalIn_array w 9999 (n := 4) (e := 3) (i := i0) _ _ Tryd.underlying22 hi0, hc]
  simp [Op.eqItems, List.range, List.range.loop, part, isAgg, run_underlying Tryd.underlying3, run_equalIn_int _ _ _ _ _ _ _ Tryd.underlying3]
theorem alike_any (n a b c d : Int) (w : World) : Calls Tryd.prog 15 #[.agg #[.int .i64 n, .int .i64 a, .int .i64 b, .int .i64 c, .int .i64 d], .agg #[.int .i64 n, .int .i64 a, .int .i64 b, .int .i64 c, .int .i64 d]] w fun e w' => e = .returned (.bool true) ∧ Below w.heap.size w w' := by
  have h4 := fun w => eq4 a b c d w
  go_enter Tryd.func15, Tryd.ntmps15
  go_wp2_with fail
  go_ret
  exact ⟨rfl, ((Below.refl _ _).alloc (Nat.le_refl _) _).alloc (by simp) _⟩
end Go.Proofs.YthcgchkcanhmnaaDoor
