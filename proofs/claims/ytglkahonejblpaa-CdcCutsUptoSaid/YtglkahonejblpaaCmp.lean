/-
  Memory in parts that share no block: what changes one part keeps the others. Conditions: none beyond each lemma's own.
-/
import Derived.Test.YtglkahonejblpaaCdBase
namespace Go.Proofs.Ytglkahonejblpaa
open Go.RowKit

structure Cmp where
  S : Nat → Prop
  P : World → Prop
def Cmp.stable (C : Cmp) : Prop := ∀ w w' : World, C.P w → (∀ g, C.S g → w'.heap[g]? = w.heap[g]?) → C.P w'
structure SP {ι : Type} (C : ι → Cmp) (B : Nat) (w : World) : Prop where
  hold : ∀ x, (C x).P w
  st : ∀ x, (C x).stable
  inb : ∀ x g, (C x).S g → B ≤ g ∧ g < w.heap.size
  sep : ∀ x y, x ≠ y → ∀ g, (C x).S g → ¬ (C y).S g
  le : B ≤ w.heap.size
section
variable {ι : Type} {C C' : ι → Cmp} {B : Nat} {w w' : World}
theorem SP.keep (h : SP C B w) (hb : Below w.heap.size w w') : SP C B w' :=
  ⟨fun x => h.st x w w' (h.hold x) (fun g hg => hb.block g (h.inb x g hg).2), h.st, fun x g hg => ⟨(h.inb x g hg).1, Nat.lt_of_lt_of_le (h.inb x g hg).2 hb.size⟩, h.sep, Nat.le_trans h.le hb.size⟩
theorem SP.upd {F : Nat → Prop} (h : SP C B w) (X : ι → Prop) (hF : Fr F w w') (hFX : ∀ g, F g → ∃ x, X x ∧ (C x).S g) (hC : ∀ y, ¬ X y → C' y = C y)
    (hX : ∀ x, X x → (C' x).P w' ∧ (C' x).stable ∧ ∀ g, (C' x).S g → ((∃ x', X x' ∧ (C x').S g) ∨ w.heap.size ≤ g) ∧ g < w'.heap.size)
    (hd : ∀ x y, X x → X y → x ≠ y → ∀ g, (C' x).S g → ¬ (C' y).S g) : SP C' B w' := by
  have hnF : ∀ y, ¬ X y → ∀ g, (C y).S g → ¬ F g := fun y hy g hg hf => by
    obtain ⟨x, hx, hxg⟩ := hFX g hf
    exact h.sep x y (fun e => hy (e ▸ hx)) g hxg hg
  have hone : ∀ x y, X x → ¬ X y → ∀ g, (C' x).S g → ¬ (C y).S g := fun x y hx hy g hg hg' => by
    rcases ((hX x hx).2.2 g hg).1 with ⟨x', hx', hg2⟩ | hge
    · exact h.sep x' y (fun e => hy (e ▸ hx')) g hg2 hg'
    · have := (h.inb y g hg').2; omega
  refine ⟨fun x => ?_, fun x => ?_, fun x g hg => ?_, fun x y hxy g hg hg' => ?_, Nat.le_trans h.le hF.size⟩
  · by_cases hx : X x
    · exact (hX x hx).1
    · rw [hC x hx]; exact h.st x w w' (h.hold x) (fun g hg => hF.block g (h.inb x g hg).2 (hnF x hx g hg))
  · by_cases hx : X x
    · exact (hX x hx).2.1
    · rw [hC x hx]; exact h.st x
  · by_cases hx : X x
    · obtain ⟨h1, h2⟩ := (hX x hx).2.2 g hg
      refine ⟨?_, h2⟩
      rcases h1 with ⟨x', _, hg2⟩ | hge
      · exact (h.inb x' g hg2).1
      · exact Nat.le_trans h.le hge
    · rw [hC x hx] at hg; exact ⟨(h.inb x g hg).1, Nat.lt_of_lt_of_le (h.inb x g hg).2 hF.size⟩
  · by_cases hx : X x <;> by_cases hy : X y
    · exact hd x y hx hy hxy g hg hg'
    · rw [hC y hy] at hg'; exact hone x y hx hy g hg hg'
    · rw [hC x hx] at hg; exact hone y x hy hx g hg' hg
    · rw [hC x hx] at hg; rw [hC y hy] at hg'; exact h.sep x y hxy g hg hg'
theorem SP.to_below {F : Nat → Prop} (h : SP C B w) (X : ι → Prop) (hF : Fr F w w') (hFX : ∀ g, F g → ∃ x, X x ∧ (C x).S g) : Below B w w' :=
  hF.below h.le (fun k hk => by obtain ⟨x, _, hx⟩ := hFX k hk; exact (h.inb x k hx).1)
end
def ownC (B : Nat) (t : TypeId) (size : Nat) (v : Value) (n : Nat) (xs : List Value) : Cmp := ⟨fun k => v.ownBlock = some k, fun w => w.ownsRow B t size v n xs⟩
def trivC : Cmp := ⟨fun _ => False, fun _ => True⟩
def optC {α : Type} (f : α → Cmp) : Option α → Cmp
  | some a => f a
  | none => trivC
theorem ownC_st (B : Nat) (t : TypeId) (size : Nat) (v : Value) (n : Nat) (xs : List Value) : (ownC B t size v n xs).stable := fun _ _ h k => own_same h (fun g hg => k g hg)
theorem trivC_st : trivC.stable := fun _ _ _ _ => trivial
theorem optC_st {α : Type} {f : α → Cmp} (h : ∀ a, (f a).stable) : ∀ o, (optC f o).stable
  | some a => h a
  | none => trivC_st
theorem snoc_get {α : Type} {l : List α} {x : α} {j : Nat} (h : j ≠ l.length) : (l ++ [x])[j]? = l[j]? := by
  by_cases hlt : j < l.length
  · rw [List.getElem?_append_left hlt]
  · rw [List.getElem?_eq_none (by simp; omega), List.getElem?_eq_none (by omega)]
theorem snoc_at {α : Type} (l : List α) (x : α) : (l ++ [x])[l.length]? = some x := by rw [List.getElem?_append_right (Nat.le_refl _), Nat.sub_self]; rfl
end Go.Proofs.Ytglkahonejblpaa
