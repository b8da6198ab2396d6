
/-
  A fresh copy of bytes (append to an empty list), and Put of such a copy; lists of integers that come in. Conditions: what is copied lies in memory.
-/
import Derived.Test.YtcfaocbdhfmhbaaMade
import Derived.Test.YtcfaocbdhfmhbaaStr
namespace Go.Proofs.Ytcfaocbdhfmhbaa
open Go.RowKit

/-- a copy in new memory; all that was there is as it was -/
def Fresh (w w' : World) (a : Option Addr) (n c : Nat) (l : List UInt8) : Prop := w'.ownsRow w.heap.size 5 1 (.slice a n c) n (bys l) ∧ Below w.heap.size w w'
theorem wpList_fresh {ops : Array Oper} {rest : List Oper} {o : Oper} {a : Act} {Q : Exit → Act → World → Prop} (hgd : o.guard = none) (s x : Operand)
    (ho : o.op = .call { callee := .builtin .append, args := #[s, x], argTypes := #[22, 22] }) {w : World} (N : Nat) (hN : N = w.heap.size) (hs : a.eval s = .slice (some ⟨N, 0, none⟩) 0 0)
    (A : Option Addr) (m c : Nat) (l : List UInt8) (hx : a.eval x = .slice A m c) (hr : In w A m l)
    (h : ∀ a' c' w', Fresh w w' a' m c' l → wpList Try.prog ops Q rest (a.put o.dst (.slice a' m c')) w') : wpList Try.prog ops Q (o :: rest) a (w.alloc (.cells #[] 5)) := by
  obtain ⟨i0, hi0, hz0, hz1, hz2⟩ := info_parts infou8
  have hO := (World.ownsRow_made (base := w.heap.size) (e := 5) (size := 1) w #[] 0 (Nat.le_refl _) (by unfold maxLen; omega) rfl)
  have hr' := hr.below ((Below.refl _ _).alloc (Nat.le_refl _) (.cells #[] 5))
  subst hN
  refine wpList_append_rd hgd s x 22 ho w.heap.size 5 i0 _ 1 1 Try.underlying22 hi0 hz0 hz1 hz2 rfl (by decide) _ 0 [] hs hO A m c (bys l) hx hr'.1 (bys_one _) (by have := hr.2.2; simp only [maxLen]; omega) (by have := hr.2.2; omega) (by simp) ?_
  intro a1 c1 w1 hown hg hat
  simp only [Nat.zero_add, List.nil_append] at hown hat ⊢
  refine h a1 c1 w1 ⟨hown, ?_⟩
  refine Below.grown ((Below.refl _ w).alloc (Nat.le_refl _) _) hg (by simp) ?_
  intro k hk
  simp [Value.ownBlock] at hk; omega
theorem Fresh.win {w w' : World} {a : Option Addr} {n c : Nat} {l : List UInt8} (h : Fresh w w' a n c l) {B b size : Nat} {r : Option Nat} {all : List UInt8} (hw : Win w B b r size all) : Win w' B b r size all := hw.below h.2
theorem Fresh.src {w w' : World} {a : Option Addr} {n c : Nat} {l : List UInt8} (h : Fresh w w' a n c l) {B b size : Nat} {r : Option Nat} {all : List UInt8} (hw : Win w B b r size all) : Src w' b r a n c l :=
  Src.of_own h.1 (hw.below h.2).bt.1 fun g hg e => by have := (own_lt h.1 hg).1; have := (hw.lt.2 g e).2; omega
theorem Put_fresh {B b size : Nat} {r : Option Nat} {all : List UInt8} {a : Option Addr} {n c : Nat} {l : List UInt8} {w w' : World} (hw : Win w B b r size all) (h : Fresh w w' a n c l) (hlen : all.length + n < 4611686018427387904) :
    Calls Try.prog 13 #[.pointer (some ⟨b, 0, none⟩), .slice a n c] w' (PutPost B b size r (all ++ l) w) := by
  refine (Put_any B b size r all a n c l w' (h.win hw) (h.src hw) hlen).mono ?_
  rintro e w2 ⟨rfl, r2, hW, hF, hA⟩
  refine ⟨rfl, r2, hW, (Fr.of_below h.2).trans hF, fun g hg => ?_⟩
  rcases hA g hg with h1 | h1
  · exact .inl h1
  · exact .inr (Nat.le_trans h.2.size h1)
/-- behind a Put all that lies below the window is as it was -/
theorem PutPost.below {B b size : Nat} {r : Option Nat} {all all0 : List UInt8} {w w' : World} {e : Ending} (h : PutPost B b size r all w e w') (hw : Win w B b r size all0) {C : Nat} (hC : C ≤ B) : Below C w w' := by
  obtain ⟨_, _, _, hF, _⟩ := h
  exact hF.below (by have := hw.base; have := hw.lt.1; omega) fun k hk => by
    rcases hk with rfl | hk
    · have := hw.base; omega
    · have := (hw.lt.2 k hk.symm).1; omega
theorem CopyRel.below {B b size : Nat} {r : Option Nat} {all : List UInt8} {d k c : Nat} {A : Option Addr} {r' : Option Nat} {w wr : World} (h : CopyRel B b size r all d w k A c r' wr) (hw : Win w B b r size all) {C : Nat} (hC : C ≤ B) : Below C w wr :=
  h.fr.below (by have := hw.base; have := hw.lt.1; omega) fun k hk => by
    rcases hk with rfl | hk
    · have := hw.base; omega
    · have := (hw.lt.2 k hk.symm).1; omega
theorem In.cut {w : World} {A : Option Addr} {n c k : Nat} {l : List UInt8} (h : In w A n l) (hk : k ≤ n) (hc : n ≤ c) : In w (if c = k then A else A.map (·.add k)) (n - k) (l.drop k) := by
  refine ⟨?_, fun h0 ad had => ?_, by have := h.2.2; omega⟩
  · have := h.1.cut hk hc
    rw [Nat.mul_one, bys_drop] at this
    exact this
  · split at had
    · exact h.2.1 (by omega) ad had
    · cases A with
      | none => cases had
      | some a =>
        simp only [Option.map_some, Option.some.injEq] at had
        subst had
        rw [block_add]
        exact h.2.1 (by omega) a rfl
theorem In.take {w : World} {A : Option Addr} {n k : Nat} {l : List UInt8} (h : In w A n l) (hk : k ≤ n) : In w A k (l.take k) := by
  refine ⟨?_, fun h0 => h.2.1 (by omega), by have := h.2.2; omega⟩
  have := h.1.take hk
  rw [Nat.mul_one, bys_take] at this
  exact this
theorem Fresh.in_ {w w' : World} {a : Option Addr} {n c : Nat} {l : List UInt8} (h : Fresh w w' a n c l) (hn : n ≤ 140737488351232) : In w' a n l :=
  ⟨Rd.of_own h.1, fun _ ad had => (own_lt h.1 (own_addr h.1 had)).2, hn⟩

/-- integers that come in -/
def ints (l : List Int) : List Value := l.map (Value.int .i64)
theorem ints_length (l : List Int) : (ints l).length = l.length := by simp [ints]
def InI (w : World) (A : Option Addr) (n : Nat) (l : List Int) : Prop :=
  l.length = n ∧ n ≤ 140737488351232 ∧ ∀ i, i < n → ∃ b off k, A = some ⟨b, off, none⟩ ∧ l[i]? = some k ∧ b < w.heap.size ∧ w.cell? ⟨b, off + i, none⟩ = some (.int .i64 k) ∧ -9223372036854775808 ≤ k ∧ k ≤ 9223372036854775807
theorem InI.below {w w' : World} {A : Option Addr} {n : Nat} {l : List Int} (h : InI w A n l) (hb : Below w.heap.size w w') : InI w' A n l :=
  ⟨h.1, h.2.1, fun i hi => by
    obtain ⟨b, off, k, e1, e2, e3, e4, e5⟩ := h.2.2 i hi
    exact ⟨b, off, k, e1, e2, Nat.lt_of_lt_of_le e3 hb.size, (hb.cell (p := ⟨b, off + i, none⟩) e3).trans e4, e5⟩⟩
end Go.Proofs.Ytcfaocbdhfmhbaa
