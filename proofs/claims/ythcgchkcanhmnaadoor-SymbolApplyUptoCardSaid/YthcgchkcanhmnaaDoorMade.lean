
/-
  Walk of made: a window of the size asked for (1 to 2000, else 300), into which the bytes have come. Conditions: the bytes lie in memory.
-/
import Derived.Test.YthcgchkcanhmnaaDoorOps
namespace Go.Proofs.YthcgchkcanhmnaaDoor
open Go.RowKit

theorem own_le {w : World} {B : Nat} {e : TypeId} {size n c : Nat} {a : Option Addr} {xs : List Value} (h : w.ownsRow B e size (.slice a n c) n xs) : n ≤ c := by
  rcases h.2 with ⟨hv, h0⟩ | ⟨g', cap', cur, hv, _, _, hn, _⟩
  · injection hv with _ h2 h3; omega
  · injection hv with _ _ h3; omega
theorem own_addr {w : World} {B : Nat} {e : TypeId} {size n c : Nat} {a : Option Addr} {xs : List Value} (h : w.ownsRow B e size (.slice a n c) n xs) {ad : Addr} (ha : a = some ad) : (Value.slice a n c).ownBlock = some ad.block := by
  subst ha; rfl
/-- the source is a row of the call's own, in a block that is neither the window's nor its ring's -/
theorem Src.of_own {w : World} {B b n c : Nat} {r : Option Nat} {a : Option Addr} {ys : List UInt8} (h : w.ownsRow B 5 1 (.slice a n c) n (bys ys)) (hb : BT w b 79) (hr : ∀ g, (Value.slice a n c).ownBlock = some g → r ≠ some g) : Src w b r a n c ys :=
  ⟨Rd.of_own h, own_le h, fun ad had => ⟨(own_lt h (own_addr h had)).2, (own_bt h (own_addr h had)).ne hb (by decide), hr _ (own_addr h had)⟩⟩
/-- bytes that come in: they lie in w -/
def In (w : World) (A : Option Addr) (n : Nat) (l : List UInt8) : Prop := Rd w 1 A n (bys l) ∧ (0 < n → ∀ ad, A = some ad → ad.block < w.heap.size) ∧ n ≤ 140737488351232
theorem In.len {w : World} {A : Option Addr} {n : Nat} {l : List UInt8} (h : In w A n l) : l.length = n := by have := h.1.1; rw [bys_length] at this; omega
theorem Rd.keep0 {w w' : World} {size n : Nat} {A : Option Addr} {xs : List Value} (h : Rd w size A n xs) (hk : 0 < n → ∀ ad, A = some ad → w'.heap[ad.block]? = w.heap[ad.block]?) : Rd w' size A n xs :=
  ⟨h.1, fun hn => by
    obtain ⟨ad, e, hc⟩ := h.2 hn
    refine ⟨ad, e, fun j u hu => (World.cell?_of_block ?_).trans (hc j u hu)⟩
    rw [block_add]
    exact hk hn ad e⟩
theorem In.fr {S : Nat → Prop} {w w' : World} {A : Option Addr} {n : Nat} {l : List UInt8} (h : In w A n l) (hf : Fr S w w') (hS : 0 < n → ∀ ad, A = some ad → ¬ S ad.block) : In w' A n l :=
  ⟨h.1.keep0 fun h0 ad had => hf.block _ (h.2.1 h0 ad had) (hS h0 ad had), fun h0 ad had => Nat.lt_of_lt_of_le (h.2.1 h0 ad had) hf.size, h.2.2⟩
theorem In.below {w w' : World} {A : Option Addr} {n : Nat} {l : List UInt8} (h : In w A n l) (hb : Below w.heap.size w w') : In w' A n l :=
  h.fr (S := fun _ => False) ⟨hb.os, hb.tape, hb.output, hb.size, fun k hk _ => hb.block k hk⟩ fun _ _ _ e => e
theorem In.nil (w : World) : In w none 0 [] := ⟨⟨rfl, fun h => absurd h (by omega)⟩, (fun _ _ h => by cases h), by omega⟩

def msize (size : Int) : Nat := if size < 1 ∨ 2000 < size then 300 else size.toNat
theorem msize_bd (size : Int) : 1 ≤ msize size ∧ msize size ≤ 2000 := by unfold msize; split <;> omega
def MadePost (size : Int) (l : List UInt8) (w : World) (e : Ending) (w' : World) : Prop :=
  ∃ r', e = .returned (.pointer (some ⟨w.heap.size, 0, none⟩)) ∧ Win w' w.heap.size w.heap.size r' (msize size) l ∧ Below w.heap.size w w'
end Go.Proofs.YthcgchkcanhmnaaDoor
