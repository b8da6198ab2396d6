
/-
  Two windows beside one another; the steps that come in. No conditions beyond each lemma's own premises.
-/
import Derived.Test.YtcfaocbdhfmhbaaFresh
import Derived.Test.YtcfaocbdhfmhbaaExt
namespace Go.Proofs.Ytcfaocbdhfmhbaa
open Go.RowKit

/-- two rings are not one -/
def Sep (r r' : Option Nat) : Prop := ∀ g, r = some g → r' ≠ some g
theorem Sep.symm {r r' : Option Nat} (h : Sep r r') : Sep r' r := fun g hg e => h g e hg
theorem Win.other {w w' : World} {B b C c size s : Nat} {r r' : Option Nat} {all al : List UInt8} (h : Win w B b r size all) (hw : Win w C c r' s al) (hf : Fr (fun k => k = c ∨ some k = r') w w') (hcb : c ≠ b) (hs : Sep r' r) : Win w' B b r size all :=
  h.fr hf (by
    rintro (e | e)
    · exact hcb e.symm
    · exact (hw.bt.2 b e.symm).ne h.bt.1 (by decide) rfl) (by
    rintro g hg (e | e)
    · exact (h.bt.2 g hg).ne hw.bt.1 (by decide) e
    · exact hs g e.symm hg)
theorem Sep.new {w : World} {B b size : Nat} {r r1 r2 : Option Nat} {all : List UInt8} (h : Sep r1 r) (hr : ∀ g, r2 = some g → r1 = some g ∨ w.heap.size ≤ g) (hw : Win w B b r size all) : Sep r2 r := fun g hg e => by
  rcases hr g hg with h1 | h1
  · exact h g h1 e
  · have := (hw.lt.2 g e).2; omega
/-- two windows, at P and Q, and what is known of them -/
structure TwoW (w0 w : World) (P Q s u : Nat) (r1 r2 : Option Nat) (a b : List UInt8) : Prop where
  one : Win w P P r1 s a
  two : Win w Q Q r2 u b
  sep : Sep r1 r2
  below : Below w0.heap.size w0 w
  ne : P ≠ Q
  base : w0.heap.size ≤ P ∧ w0.heap.size ≤ Q
section
variable {w0 w w' : World} {P Q s u : Nat} {r1 r2 r' : Option Nat} {a b a' : List UInt8}
theorem TwoW.later (h : TwoW w0 w P Q s u r1 r2 a b) (hb : Below w.heap.size w w') : TwoW w0 w' P Q s u r1 r2 a b :=
  ⟨h.one.below hb, h.two.below hb, h.sep, h.below.trans (hb.mono h.below.size), h.ne, h.base⟩
theorem fr_win_below {B c size C : Nat} {r : Option Nat} {all : List UInt8} (hf : Fr (fun k => k = c ∨ some k = r) w w') (hw : Win w B c r size all) (hC : C ≤ B) : Below C w w' :=
  hf.below (by have := hw.base; have := hw.lt.1; omega) fun k hk => by
    rcases hk with rfl | hk
    · have := hw.base; omega
    · have := (hw.lt.2 k hk.symm).1; omega
theorem TwoW.left (h : TwoW w0 w P Q s u r1 r2 a b) (hf : Fr (fun k => k = P ∨ some k = r1) w w') (hw : Win w' P P r' s a') (ha : ∀ g, r' = some g → r1 = some g ∨ w.heap.size ≤ g) : TwoW w0 w' P Q s u r' r2 a' b :=
  ⟨hw, h.two.other h.one hf h.ne h.sep, h.sep.new ha h.two, h.below.trans (fr_win_below hf h.one h.base.1), h.ne, h.base⟩
theorem TwoW.right (h : TwoW w0 w P Q s u r1 r2 a b) (hf : Fr (fun k => k = Q ∨ some k = r2) w w') (hw : Win w' Q Q r' u a') (ha : ∀ g, r' = some g → r2 = some g ∨ w.heap.size ≤ g) : TwoW w0 w' P Q s u r1 r' a a' :=
  ⟨h.one.other h.two hf h.ne.symm h.sep.symm, hw, (h.sep.symm.new ha h.one).symm, h.below.trans (fr_win_below hf h.two h.base.2), h.ne, h.base⟩
theorem blk_past {B c size : Nat} {r : Option Nat} {all : List UInt8} {N : Nat} {t : TypeId} {cs : Array Value} (hB : Blk w N t cs) (hw : Win w B c r size all) (hf : Fr (fun k => k = c ∨ some k = r) w w') (h1 : t ≠ 59) (h2 : t ≠ 5) : Blk w' N t cs :=
  hB.fr hf (by
    rintro (e | e)
    · exact (show BT w N t from ⟨_, hB⟩).ne hw.bt.1 h1 e
    · exact (show BT w N t from ⟨_, hB⟩).ne (hw.bt.2 N e.symm) h2 rfl)
theorem in_past {B c size : Nat} {r : Option Nat} {all : List UInt8} {A : Option Addr} {n : Nat} {l : List UInt8} {C : Nat} (hI : In w A n l) (hA : 0 < n → ∀ ad, A = some ad → ad.block < C) (hC : C ≤ B) (hw : Win w B c r size all) (hf : Fr (fun k => k = c ∨ some k = r) w w') : In w' A n l :=
  hI.fr hf fun h0 ad had => by
    have := hA h0 ad had
    rintro (e | e)
    · have := hw.base; omega
    · have := (hw.lt.2 ad.block e.symm).1; omega
end
/-- a step that lies at b, off -/
structure OpAt (w : World) (b off : Nat) (kind wn dist n : Int) (A : Option Addr) (len cap : Nat) (l : List UInt8) : Prop where
  c0 : w.cell? ⟨b, off, none⟩ = some (.int .i64 kind)
  c1 : w.cell? ⟨b, off + 1, none⟩ = some (.int .i64 wn)
  c2 : w.cell? ⟨b, off + 2, none⟩ = some (.int .i64 dist)
  c3 : w.cell? ⟨b, off + 3, none⟩ = some (.int .i64 n)
  c4 : w.cell? ⟨b, off + 4, none⟩ = some (.slice A len cap)
  lt : b < w.heap.size
  rd : Rd w 1 A len (bys l)
  src : 0 < len → ∀ ad, A = some ad → ad.block < w.heap.size
  le : len ≤ cap
  bwn : -9223372036854775808 ≤ wn ∧ wn ≤ 9223372036854775807
  bdist : -9223372036854775808 ≤ dist ∧ dist ≤ 9223372036854775807
  bn : -9223372036854775808 ≤ n ∧ n ≤ 9223372036854775807
theorem OpAt.below {w w' : World} {b off : Nat} {kind wn dist n : Int} {A : Option Addr} {len cap : Nat} {l : List UInt8} (h : OpAt w b off kind wn dist n A len cap l) (hb : Below w.heap.size w w') : OpAt w' b off kind wn dist n A len cap l :=
  ⟨(hb.cell (p := ⟨b, off, none⟩) h.lt).trans h.c0, (hb.cell (p := ⟨b, off + 1, none⟩) h.lt).trans h.c1, (hb.cell (p := ⟨b, off + 2, none⟩) h.lt).trans h.c2, (hb.cell (p := ⟨b, off + 3, none⟩) h.lt).trans h.c3, (hb.cell (p := ⟨b, off + 4, none⟩) h.lt).trans h.c4,
    Nat.lt_of_lt_of_le h.lt hb.size, h.rd.keep0 fun h0 ad had => hb.block _ (h.src h0 ad had), fun h0 ad had => Nat.lt_of_lt_of_le (h.src h0 ad had) hb.size, h.le, h.bwn, h.bdist, h.bn⟩
/-- the steps lie in memory -/
def InOps (w : World) (C : Option Addr) (m : Nat) : Prop :=
  ∀ i, i < m → ∃ b off kind wn dist n A len cap l, C = some ⟨b, off, none⟩ ∧ OpAt w b (off + i * 5) kind wn dist n A len cap l
theorem InOps.below {w w' : World} {C : Option Addr} {m : Nat} (h : InOps w C m) (hb : Below w.heap.size w w') : InOps w' C m := fun i hi => by
  obtain ⟨b, off, kind, wn, dist, n, A, len, cap, l, e, ho⟩ := h i hi
  exact ⟨b, off, kind, wn, dist, n, A, len, cap, l, e, ho.below hb⟩
/-- the struct of a step, copied into block N -/
def opCells (kind wn dist n : Int) (A : Option Addr) (len cap : Nat) : Array Value := #[.int .i64 kind, .int .i64 wn, .int .i64 dist, .int .i64 n, .slice A len cap]
end Go.Proofs.Ytcfaocbdhfmhbaa
