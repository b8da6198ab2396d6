/-
  Bytes that are handed in, and an append to an empty list. Conditions: each lemma's own.
-/
import Derived.Test.YthlflcnpmabmbaaDoorChecked
import Derived.Test.YthlflcnpmabmbaaDoorMem
import Derived.Test.YthlflcnpmabmbaaDoorStr
import Derived.WalkKit
import Derived.WalkSpells
import Derived.WalkLawsBesides
import Derived.Deep.QuietTactic
import Derived.BigQuiet
import Derived.BigRegion
import Derived.Deep.LoopGhost
import Derived.Deep.RegionLaw
import Derived.Deep.RegionHeld3
import Derived.Deep.DeepCutAuto
namespace Go.Proofs.YthlflcnpmabmbaaDoor
open Go.RowKit
theorem infou8 : (Tryd.prog.info? 5).map (fun i => (i.zero, i.size, i.bytes)) = some (some (.int .u8 0), 1, 1) := by kernel_rfl

theorem own_le {w : World} {B : Nat} {e : TypeId} {size n c : Nat} {a : Option Addr} {xs : List Value} (h : w.ownsRow B e size (.slice a n c) n xs) : n ≤ c := by
  rcases h.2 with ⟨hv, h0⟩ | ⟨g', cap', cur, hv, _, _, hn, _⟩
  · injection hv with _ h2 h3; omega
  · injection hv with _ _ h3; omega
theorem own_addr {w : World} {B : Nat} {e : TypeId} {size n c : Nat} {a : Option Addr} {xs : List Value} (h : w.ownsRow B e size (.slice a n c) n xs) {ad : Addr} (ha : a = some ad) : (Value.slice a n c).ownBlock = some ad.block := by
  subst ha; rfl
/-- bytes that come in: they lie in w -/
def In (w : World) (A : Option Addr) (n : Nat) (l : List UInt8) : Prop := Rd w 1 A n (bys l) ∧ (0 < n → ∀ ad, A = some ad → ad.block < w.heap.size) ∧ n ≤ 140737488351232
theorem In.len {w : World} {A : Option Addr} {n : Nat} {l : List UInt8} (h : In w A n l) : l.length = n := by have := h.1.1; rw [bys_length] at this; omega
theorem Rd.keep0 {w w' : World} {size n : Nat} {A : Option Addr} {xs : List Value} (h : Rd w size A n xs) (hk : 0 < n → ∀ ad, A = some ad → w'.heap[ad.block]? = w.heap[ad.block]?) : Rd w' size A n xs :=
  ⟨h.1, fun hn => by
    obtain ⟨ad, e, hc⟩ := h.2 hn
    refine ⟨ad, e, fun j u hu => (World.cell?_of_block ?_).trans (hc j u hu)⟩
    rw [block_add]
    exact hk hn ad e⟩
theorem In.fr {S : Nat → Prop} {w w' : World} {A : Option Addr} {n : Nat} {l : List UInt8} (h : In w A n l) (hf : Fr S w w') (hS : 0 < n → ∀ ad, A = some ad → ¬ S ad.block) : In w' A n l :=
  ⟨h.1.keep0 fun h0 ad had => hf.block _ (h.2.1 h0 ad had) (hS h0 ad had), fun h0 ad had => Nat.lt_of_lt_of_le (h.2.1 h0 ad had) hf.size, h.2.2⟩
theorem In.below {w w' : World} {A : Option Addr} {n : Nat} {l : List UInt8} (h : In w A n l) (hb : Below w.heap.size w w') : In w' A n l :=
  h.fr (S := fun _ => False) ⟨hb.os, hb.tape, hb.output, hb.size, fun k hk _ => hb.block k hk⟩ fun _ _ _ e => e
theorem In.nil (w : World) : In w none 0 [] := ⟨⟨rfl, fun h => absurd h (by omega)⟩, (fun _ _ h => by cases h), by omega⟩

/-- a copy in new memory; all that was there is as it was -/
def Fresh (w w' : World) (a : Option Addr) (n c : Nat) (l : List UInt8) : Prop := w'.ownsRow w.heap.size 5 1 (.slice a n c) n (bys l) ∧ Below w.heap.size w w'
theorem wpList_fresh {ops : Array Oper} {rest : List Oper} {o : Oper} {a : Act} {Q : Exit → Act → World → Prop} (hgd : o.guard = none) (s x : Operand)
    (ho : o.op = .call { callee := .builtin .append, args := #[s, x], argTypes := #[34, 34] }) {w : World} (N : Nat) (hN : N = w.heap.size) (hs : a.eval s = .slice (some ⟨N, 0, none⟩) 0 0)
    (A : Option Addr) (m c : Nat) (l : List UInt8) (hx : a.eval x = .slice A m c) (hr : In w A m l)
    (h : ∀ a' c' w', Fresh w w' a' m c' l → wpList Tryd.prog ops Q rest (a.put o.dst (.slice a' m c')) w') : wpList Tryd.prog ops Q (o :: rest) a (w.alloc (.cells #[] 5)) := by
  obtain ⟨i0, hi0, hz0, hz1, hz2⟩ := info_parts infou8
  have hO := (World.ownsRow_made (base := w.heap.size) (e := 5) (size := 1) w #[] 0 (Nat.le_refl _) (by unfold maxLen; omega) rfl)
  have hr' := hr.below ((Below.refl _ _).alloc (Nat.le_refl _) (.cells #[] 5))
  subst hN
  refine wpList_append_rd hgd s x 34 ho w.heap.size 5 i0 _ 1 1 Tryd.underlying34 hi0 hz0 hz1 hz2 rfl (by decide) _ 0 [] hs hO A m c (bys l) hx hr'.1 (bys_one _) (by have := hr.2.2; simp only [maxLen]; omega) (by have := hr.2.2; omega) (by simp) ?_
  intro a1 c1 w1 hown hg hat
  simp only [Nat.zero_add, List.nil_append] at hown hat ⊢
  refine h a1 c1 w1 ⟨hown, ?_⟩
  refine Below.grown ((Below.refl _ w).alloc (Nat.le_refl _) _) hg (by simp) ?_
  intro k hk
  simp [Value.ownBlock] at hk; omega
theorem In.cut {w : World} {A : Option Addr} {n c k : Nat} {l : List UInt8} (h : In w A n l) (hk : k ≤ n) (hc : n ≤ c) : In w (if c = k then A else A.map (·.add k)) (n - k) (l.drop k) := by
  refine ⟨?_, fun h0 ad had => ?_, by have := h.2.2; omega⟩
  · have := h.1.cut hk hc
    rw [Nat.mul_one, bys_drop] at this
    exact this
  · split at had
    · exact h.2.1 (by omega) ad had
    · cases A with
      | none => cases had
      | some a =>
        simp only [Option.map_some, Option.some.injEq] at had
        subst had
        rw [block_add]
        exact h.2.1 (by omega) a rfl
theorem In.take {w : World} {A : Option Addr} {n k : Nat} {l : List UInt8} (h : In w A n l) (hk : k ≤ n) : In w A k (l.take k) := by
  refine ⟨?_, fun h0 => h.2.1 (by omega), by have := h.2.2; omega⟩
  have := h.1.take hk
  rw [Nat.mul_one, bys_take] at this
  exact this
theorem bup {w w1 w2 : World} (h : Below w.heap.size w w1) (k : Below w1.heap.size w1 w2) : Below w.heap.size w w2 := h.trans (k.mono h.size)
theorem bmk_ {w w1 : World} (h : Below w.heap.size w w1) (o : Obj) : Below w.heap.size w (w1.alloc o) := h.alloc h.size _
end Go.Proofs.YthlflcnpmabmbaaDoor
