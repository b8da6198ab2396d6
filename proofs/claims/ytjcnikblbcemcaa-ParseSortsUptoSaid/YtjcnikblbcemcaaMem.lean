/-
  Lemmas on memory, whatever the program: a block that is known whole; a world that is as it was outside a footprint; rows of pairs of integers. No conditions beyond each lemma's own premises.
-/
import Derived.WalkKit
import Derived.Deep.AppendLies
import Derived.Lib.Hide
import Derived.Deep.Draws
namespace Go.Proofs.Ytjcnikblbcemcaa
open Go.RowKit

/-! ### a block known whole -/
def Blk (w : World) (g : Nat) (t : TypeId) (cs : Array Value) : Prop := w.heap[g]? = some (.cells cs t (0, 0))
section
variable {w w' : World} {g : Nat} {t : TypeId} {cs : Array Value}
theorem Blk.lt (h : Blk w g t cs) : g < w.heap.size := by
  rcases Nat.lt_or_ge g w.heap.size with hlt | hge
  · exact hlt
  · unfold Blk at h; rw [Array.getElem?_eq_none hge] at h; cases h
theorem Blk.cell (h : Blk w g t cs) (i : Nat) : w.cell? ⟨g, i, none⟩ = cs[i]? := cell_of_row w g i cs t (0, 0) h
theorem Blk.frozen (h : Blk w g t cs) (i : Nat) : w.frozen? ⟨g, i, none⟩ = false := by
  unfold Blk at h
  simp [World.frozen?, h]
theorem Blk.new (w : World) (t : TypeId) (cs : Array Value) : Blk (w.alloc (.cells cs t)) w.heap.size t cs := heap_alloc_new w _
theorem Blk.drew (h : Blk w g t cs) : Blk w.drew g t cs := h
theorem Blk.drewN (h : Blk w g t cs) (n : Nat) : Blk (w.drewN n) g t cs := h
theorem Blk.alloc (h : Blk w g t cs) (o : Obj) : Blk (w.alloc o) g t cs := (Below.heap_alloc w o g h.lt).trans h
theorem Blk.set_ (h : Blk w g t cs) (i : Nat) (u : Value) : Blk (w.setCell ⟨g, i, none⟩ u) g t (cs.setIfInBounds i u) := by
  unfold Blk at h ⊢
  simp [World.setCell, Array.getElem?_modify, h]
theorem Blk.far (h : Blk w g t cs) {p : Addr} (hp : g ≠ p.block) (u : Value) : Blk (w.setCell p u) g t cs := (Below.heap_setCell w p u g hp).trans h
theorem Blk.same (h : Blk w g t cs) (e : w'.heap[g]? = w.heap[g]?) : Blk w' g t cs := e.trans h
end

/-! ### as it was outside a footprint -/
structure Fr (S : Nat → Prop) (w w' : World) : Prop where
  os : w'.os = w.os
  tape : w'.tape = w.tape
  output : w'.output = w.output
  size : w.heap.size ≤ w'.heap.size
  block : ∀ k, k < w.heap.size → ¬ S k → w'.heap[k]? = w.heap[k]?
section
variable {S T : Nat → Prop} {a w w' : World}
theorem Fr.refl (S : Nat → Prop) (w : World) : Fr S w w := ⟨rfl, rfl, rfl, Nat.le_refl _, fun _ _ _ => rfl⟩
theorem Fr.trans' (h : Fr S a w) (k : Fr T w w') (hT : ∀ i, i < a.heap.size → T i → S i) : Fr S a w' :=
  ⟨k.os.trans h.os, k.tape.trans h.tape, k.output.trans h.output, Nat.le_trans h.size k.size,
   fun i hi hS => (k.block i (Nat.lt_of_lt_of_le hi h.size) (fun t => hS (hT i hi t))).trans (h.block i hi hS)⟩
theorem Fr.trans (h : Fr S a w) (k : Fr S w w') : Fr S a w' := h.trans' k fun _ _ t => t
theorem Fr.mono (h : Fr S a w) (hT : ∀ i, i < a.heap.size → S i → T i) : Fr T a w :=
  ⟨h.os, h.tape, h.output, h.size, fun i hi hn => h.block i hi fun s => hn (hT i hi s)⟩
theorem Fr.drew (h : Fr S a w) : Fr S a w.drew := ⟨h.os, h.tape, h.output, h.size, h.block⟩
theorem Fr.drewN (h : Fr S a w) (n : Nat) : Fr S a (w.drewN n) := ⟨h.os, h.tape, h.output, h.size, h.block⟩
theorem Fr.alloc (h : Fr S a w) (o : Obj) : Fr S a (w.alloc o) :=
  ⟨h.os, h.tape, h.output, Nat.le_trans h.size (by simp), fun i hi hn => (Below.heap_alloc w o i (Nat.lt_of_lt_of_le hi h.size)).trans (h.block i hi hn)⟩
theorem Fr.setCell (h : Fr S a w) {p : Addr} (hp : S p.block ∨ a.heap.size ≤ p.block) (u : Value) : Fr S a (w.setCell p u) :=
  ⟨h.os, h.tape, h.output, by simpa [World.setCell] using h.size, fun i hi hn => (Below.heap_setCell w p u i (by
    rintro rfl
    rcases hp with hp | hp
    · exact hn hp
    · omega)).trans (h.block i hi hn)⟩
theorem Fr.grown (h : Fr S a w) {row : Option Nat} (hg : w.grownBy w' row) (hr : ∀ g, row = some g → S g ∨ a.heap.size ≤ g) : Fr S a w' :=
  h.trans' (T := fun k => some k = row) ⟨hg.os, hg.tape, hg.output, hg.size, fun i hi hn => hg.block i hi hn⟩ fun i hi e => by
    rcases hr i e.symm with h1 | h1
    · exact h1
    · omega
theorem Fr.of_below (h : Below a.heap.size a w) : Fr S a w := ⟨h.os, h.tape, h.output, h.size, fun i hi _ => h.block i hi⟩
theorem Fr.of_below' (h : Fr S a w) (k : Below w.heap.size w w') : Fr S a w' := h.trans (Fr.of_below k)
theorem Fr.below (h : Fr S a w) {B : Nat} (hB : B ≤ a.heap.size) (hS : ∀ k, S k → B ≤ k) : Below B a w :=
  ⟨h.os, h.tape, h.output, h.size, fun i hi => h.block i (by omega) fun s => by have := hS i s; omega⟩
theorem Fr.cell (h : Fr S a w) {p : Addr} (hp : p.block < a.heap.size) (hn : ¬ S p.block) : w.cell? p = a.cell? p := World.cell?_of_block (h.block p.block hp hn)
theorem Fr.frozen (h : Fr S a w) {p : Addr} (hp : p.block < a.heap.size) (hn : ¬ S p.block) : w.frozen? p = a.frozen? p := World.frozen?_of_block (h.block p.block hp hn)
end

/-! ### an owned row, by its block -/
section
variable {w w' : World} {B : Nat} {e : TypeId} {size n : Nat} {v : Value} {xs : List Value}
theorem own_same (h : w.ownsRow B e size v n xs) (hs : ∀ g, v.ownBlock = some g → w'.heap[g]? = w.heap[g]?) : w'.ownsRow B e size v n xs := by
  refine ⟨h.1, ?_⟩
  rcases h.2 with hn | ⟨g, cap, cur, rfl, hb, hgg, rest⟩
  · exact .inl hn
  · exact .inr ⟨g, cap, cur, rfl, hb, (hs g rfl).trans hgg, rest⟩
theorem own_lt (h : w.ownsRow B e size v n xs) {g : Nat} (hg : v.ownBlock = some g) : B ≤ g ∧ g < w.heap.size := h.lt g hg
theorem own_type (h : w.ownsRow B e size v n xs) {g : Nat} (hg : v.ownBlock = some g) {t : TypeId} {cs : Array Value} (hb : Blk w g t cs) : e = t := by
  rcases h.2 with ⟨rfl, _⟩ | ⟨g', cap, cur, rfl, _, hh, _⟩
  · simp [Value.ownBlock] at hg
  · have : g' = g := by simpa [Value.ownBlock] using hg
    subst this
    unfold Blk at hb
    rw [hh] at hb
    injection hb with hb
    injection hb
end

/-! ### rows of pairs of integers -/
abbrev P2 := Int × Int
def flat (l : List P2) : List Value := l.flatMap fun p => [.int .i64 p.1, .int .i64 p.2]
@[simp] theorem flat_nil : flat [] = [] := rfl
theorem flat_cons (p : P2) (l : List P2) : flat (p :: l) = .int .i64 p.1 :: .int .i64 p.2 :: flat l := rfl
theorem flat_append (l r : List P2) : flat (l ++ r) = flat l ++ flat r := by simp [flat]
theorem flat_length (l : List P2) : (flat l).length = l.length * 2 := by
  induction l with
  | nil => rfl
  | cons p l ih => simp only [flat_cons, List.length_cons, ih]; omega
theorem flat_fst (l : List P2) : ∀ (k : Nat) (p : P2), l[k]? = some p → (flat l)[k * 2]? = some (.int .i64 p.1) := by
  induction l with
  | nil => intro k p h; simp at h
  | cons q l ih =>
    intro k p h
    cases k with
    | zero => simp at h; subst h; rfl
    | succ k =>
      simp at h
      rw [flat_cons, show (k + 1) * 2 = k * 2 + 2 from by omega]
      simpa using ih k p h
theorem flat_snd (l : List P2) : ∀ (k : Nat) (p : P2), l[k]? = some p → (flat l)[k * 2 + 1]? = some (.int .i64 p.2) := by
  induction l with
  | nil => intro k p h; simp at h
  | cons q l ih =>
    intro k p h
    cases k with
    | zero => simp at h; subst h; rfl
    | succ k =>
      simp at h
      rw [flat_cons, show (k + 1) * 2 + 1 = k * 2 + 1 + 2 from by omega]
      simpa using ih k p h
theorem flat_set (l : List P2) : ∀ (k : Nat) (p : P2), ((flat l).set (k * 2) (.int .i64 p.1)).set (k * 2 + 1) (.int .i64 p.2) = flat (l.set k p) := by
  induction l with
  | nil => intro k p; simp
  | cons q l ih =>
    intro k p
    cases k with
    | zero => rfl
    | succ k =>
      have := ih k p
      rw [flat_cons, show (k + 1) * 2 + 1 = k * 2 + 1 + 2 from by omega, show (k + 1) * 2 = k * 2 + 2 from by omega]
      simp only [List.set_cons_succ, this, flat_cons]
theorem flat_take (l : List P2) : ∀ k, (flat l).take (k * 2) = flat (l.take k) := by
  induction l with
  | nil => intro k; simp
  | cons q l ih =>
    intro k
    cases k with
    | zero => rfl
    | succ k => rw [flat_cons, show (k + 1) * 2 = k * 2 + 2 from by omega]; simp only [List.take_succ_cons, ih k, flat_cons]
theorem flat_drop (l : List P2) : ∀ k, (flat l).drop (k * 2) = flat (l.drop k) := by
  induction l with
  | nil => intro k; simp
  | cons q l ih =>
    intro k
    cases k with
    | zero => rfl
    | succ k => rw [flat_cons, show (k + 1) * 2 = k * 2 + 2 from by omega]; simp only [List.drop_succ_cons, ih k]
theorem flat_one (l : List P2) : ∀ u ∈ flat l, u.oneCell' = true := by
  intro u hu
  simp only [flat, List.mem_flatMap] at hu
  obtain ⟨p, _, hp⟩ := hu
  simp at hp
  rcases hp with rfl | rfl <;> rfl
theorem Blk.cell_ {w : World} {g : Nat} {t : TypeId} {cs : Array Value} (h : Blk w g t cs) (i : Nat) {u : Value} (hu : cs[i]? = some u) : w.cell? ⟨g, i, none⟩ = some u := (h.cell i).trans hu
theorem Blk.one {w : World} {g : Nat} {t : TypeId} {x : Value} (h : Blk w g t #[x]) : w.cell? ⟨g, 0, none⟩ = some x := h.cell 0
theorem Blk.two {w : World} {g : Nat} {t : TypeId} {x y : Value} (h : Blk w g t #[x, y]) : w.cell? ⟨g, 0, none⟩ = some x ∧ w.cell? ⟨g, 1, none⟩ = some y := ⟨h.cell 0, h.cell 1⟩
theorem own_ne {w : World} {B : Nat} {e : TypeId} {size n : Nat} {v : Value} {xs : List Value} (h : w.ownsRow B e size v n xs) {g : Nat} {t : TypeId} {cs : Array Value} (hb : Blk w g t cs) (hne : e ≠ t) : some g ≠ v.ownBlock :=
  fun he => hne (own_type h he.symm hb)
theorem news_at {w : World} {N : Nat} {cs : Array Value} {t : TypeId} (hN : N = w.heap.size) : ∀ j u, cs.toList[j]? = some u → (w.alloc (.cells cs t)).drew.cell? ((⟨N, 0, none⟩ : Addr).add j) = some u := by
  subst hN
  exact World.news_of_block (w := (w.alloc (.cells cs t)).drew) (heap_alloc_new w _)
theorem own_set {w : World} {B : Nat} {e : TypeId} {size n g cap : Nat} {xs : List Value} (h : w.ownsRow B e size (.slice (some ⟨g, 0, none⟩) n cap) n xs) (j : Nat) (u : Value) :
    (w.setCell ⟨g, j, none⟩ u).ownsRow B e size (.slice (some ⟨g, 0, none⟩) n cap) n (xs.set j u) := (h.stored j u).1
theorem own_far {w : World} {B : Nat} {e : TypeId} {size n : Nat} {v : Value} {xs : List Value} (h : w.ownsRow B e size v n xs) {p : Addr} (hp : some p.block ≠ v.ownBlock) (u : Value) : (w.setCell p u).ownsRow B e size v n xs :=
  own_same h fun k hk => Below.heap_setCell _ _ _ _ fun e => hp (by rw [hk, e])
theorem own_below {w w' : World} {B : Nat} {e : TypeId} {size n : Nat} {v : Value} {xs : List Value} (h : w.ownsRow B e size v n xs) (hb : Below w.heap.size w w') : w'.ownsRow B e size v n xs :=
  own_same h fun k hk => hb.block k (h.lt k hk).2
theorem Blk.below {w w' : World} {g : Nat} {t : TypeId} {cs : Array Value} (h : Blk w g t cs) (hb : Below w.heap.size w w') : Blk w' g t cs := h.same (hb.block g h.lt)
theorem own_fr {w w' : World} {S : Nat → Prop} {B : Nat} {e : TypeId} {size n : Nat} {v : Value} {xs : List Value} (h : w.ownsRow B e size v n xs) (hf : Fr S w w') (hS : ∀ g, v.ownBlock = some g → ¬ S g) : w'.ownsRow B e size v n xs :=
  own_same h fun k hk => hf.block k (h.lt k hk).2 (hS k hk)
theorem Blk.fr {w w' : World} {S : Nat → Prop} {g : Nat} {t : TypeId} {cs : Array Value} (h : Blk w g t cs) (hf : Fr S w w') (hS : ¬ S g) : Blk w' g t cs := h.same (hf.block g h.lt hS)
end Go.Proofs.Ytjcnikblbcemcaa
