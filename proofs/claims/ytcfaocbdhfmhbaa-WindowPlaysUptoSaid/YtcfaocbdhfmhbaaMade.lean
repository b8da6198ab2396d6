
/-
  Walk of made: a window of the size asked for (1 to 2000, else 300), into which the bytes have come. Conditions: the bytes lie in memory.
-/
import Derived.Test.YtcfaocbdhfmhbaaOps
namespace Go.Proofs.Ytcfaocbdhfmhbaa
open Go.RowKit

theorem own_le {w : World} {B : Nat} {e : TypeId} {size n c : Nat} {a : Option Addr} {xs : List Value} (h : w.ownsRow B e size (.slice a n c) n xs) : n ≤ c := by
  rcases h.2 with ⟨hv, h0⟩ | ⟨g', cap', cur, hv, _, _, hn, _⟩
  · injection hv with _ h2 h3; omega
  · injection hv with _ _ h3; omega
theorem own_addr {w : World} {B : Nat} {e : TypeId} {size n c : Nat} {a : Option Addr} {xs : List Value} (h : w.ownsRow B e size (.slice a n c) n xs) {ad : Addr} (ha : a = some ad) : (Value.slice a n c).ownBlock = some ad.block := by
  subst ha; rfl
/-- the source is a row of the call's own, in a block that is neither the window's nor its ring's -/
theorem Src.of_own {w : World} {B b n c : Nat} {r : Option Nat} {a : Option Addr} {ys : List UInt8} (h : w.ownsRow B 5 1 (.slice a n c) n (bys ys)) (hb : BT w b 59) (hr : ∀ g, (Value.slice a n c).ownBlock = some g → r ≠ some g) : Src w b r a n c ys :=
  ⟨Rd.of_own h, own_le h, fun ad had => ⟨(own_lt h (own_addr h had)).2, (own_bt h (own_addr h had)).ne hb (by decide), hr _ (own_addr h had)⟩⟩
/-- bytes that come in: they lie in w -/
def In (w : World) (A : Option Addr) (n : Nat) (l : List UInt8) : Prop := Rd w 1 A n (bys l) ∧ (0 < n → ∀ ad, A = some ad → ad.block < w.heap.size) ∧ n ≤ 140737488351232
theorem In.len {w : World} {A : Option Addr} {n : Nat} {l : List UInt8} (h : In w A n l) : l.length = n := by have := h.1.1; rw [bys_length] at this; omega
theorem Rd.keep0 {w w' : World} {size n : Nat} {A : Option Addr} {xs : List Value} (h : Rd w size A n xs) (hk : 0 < n → ∀ ad, A = some ad → w'.heap[ad.block]? = w.heap[ad.block]?) : Rd w' size A n xs :=
  ⟨h.1, fun hn => by
    obtain ⟨ad, e, hc⟩ := h.2 hn
    refine ⟨ad, e, fun j u hu => (World.cell?_of_block ?_).trans (hc j u hu)⟩
    rw [block_add]
    exact hk hn ad e⟩
theorem In.fr {S : Nat → Prop} {w w' : World} {A : Option Addr} {n : Nat} {l : List UInt8} (h : In w A n l) (hf : Fr S w w') (hS : 0 < n → ∀ ad, A = some ad → ¬ S ad.block) : In w' A n l :=
  ⟨h.1.keep0 fun h0 ad had => hf.block _ (h.2.1 h0 ad had) (hS h0 ad had), fun h0 ad had => Nat.lt_of_lt_of_le (h.2.1 h0 ad had) hf.size, h.2.2⟩
theorem In.below {w w' : World} {A : Option Addr} {n : Nat} {l : List UInt8} (h : In w A n l) (hb : Below w.heap.size w w') : In w' A n l :=
  h.fr (S := fun _ => False) ⟨hb.os, hb.tape, hb.output, hb.size, fun k hk _ => hb.block k hk⟩ fun _ _ _ e => e
theorem In.nil (w : World) : In w none 0 [] := ⟨⟨rfl, fun h => absurd h (by omega)⟩, (fun _ _ h => by cases h), by omega⟩

def msize (size : Int) : Nat := if size < 1 ∨ 2000 < size then 300 else size.toNat
theorem msize_bd (size : Int) : 1 ≤ msize size ∧ msize size ≤ 2000 := by unfold msize; split <;> omega
def MadePost (size : Int) (l : List UInt8) (w : World) (e : Ending) (w' : World) : Prop :=
  ∃ r', e = .returned (.pointer (some ⟨w.heap.size, 0, none⟩)) ∧ Win w' w.heap.size w.heap.size r' (msize size) l ∧ Below w.heap.size w w'
set_option maxHeartbeats 1000000 in
theorem made_any (size : Int) (A : Option Addr) (n c : Nat) (l : List UInt8) (w : World) (h : In w A n l) :
    Calls Try.prog 8 #[.int .i64 size, .slice A n c] w (MadePost size l w) := by
  obtain ⟨i0, hi0, hz0, hz1, hz2⟩ := info_parts infou8
  obtain ⟨s, hs⟩ : ∃ s, msize size = s := ⟨_, rfl⟩
  have hbd := msize_bd size
  rw [hs] at hbd
  have Hs := Lib.hid hs
  clear hs
  rcases (by omega : size < 1 ∨ (1 ≤ size ∧ 2000 < size) ∨ (1 ≤ size ∧ size ≤ 2000)) with h1 | ⟨h1, h2⟩ | ⟨h1, h2⟩
  all_goals
    go_enter Try.func8, Try.ntmps8
    go_upto_if 12 with (fail)
    go_cut [0] (fun s0 wx => s0 = .int .i64 (s : Int) ∧ w = wx)
    case first =>
      go_wp2_with fail
      go_meet
      refine ⟨congrArg (Value.int IntKind.i64) ?_, rfl⟩
      have := Hs.out
      unfold msize at this
      split at this <;> omega
    case rest =>
      obtain ⟨rfl, rfl⟩ := hcut
      go_wp2_with fail
      refine (New_yes s w (by omega) (by omega)).mono ?_
      rintro e w1 ⟨rfl, hW1, hb1, hz⟩
      have Hz := Lib.hid hz
      have HW1 := Lib.hid hW1
      clear hz hW1
      go_wp2_with fail
      refine (Size_any _ _ s none [] w1 HW1.out).mono ?_
      rintro e w1 ⟨rfl, rfl⟩
      have hO := (World.ownsRow_made (base := w.heap.size + 1) (e := 5) (size := 1) w1 #[] 0 (by have := Hz.out; omega) (by unfold maxLen; omega) rfl)
      have HO := Lib.hid hO
      have hI := Lib.hid ((h.below hb1).below ((Below.refl _ _).alloc (Nat.le_refl _) (.cells #[] 5)))
      have hn := h.2.2
      have hl := Lib.hid h.len
      clear hO
      go_wp2_with (at_builtin; refine wpList_append_rd rfl (.tmp 31) (.tmp 32) 22 rfl (w.heap.size + 1) 5 i0 _ 1 1 Try.underlying22 hi0 hz0 hz1 hz2 rfl (by decide) (.slice (some ⟨w1.heap.size, 0, none⟩) 0 0) 0 [] rfl HO.out A n c (bys l) rfl hI.out.1 (bys_one _) (by simp only [maxLen]; omega) (by omega) (by have := Hz.out; simp; omega) ?_; intro a1 c1 w2 hown2 hg2 hat2)
      simp only [Nat.zero_add, List.nil_append] at hown2 hat2
      have hWk : Win w2 w.heap.size w.heap.size none s [] := HW1.out.keep ((hg2.block _ (by simp [Hz.out]; omega) (by simp [Value.ownBlock, Hz.out])).trans (Below.heap_alloc _ _ _ HW1.out.lt.1)) (fun g hg => by cases hg)
      refine (Put_any _ _ s none [] a1 n c1 l w2 hWk (Src.of_own hown2 hWk.bt.1 (fun g hg => by simp)) (by simp; omega)).mono ?_
      rintro e w3 ⟨rfl, r3, hW3, hF3, hA3⟩
      have HW3 := Lib.hid hW3
      have hb2 : Below w.heap.size w w2 := by
        refine Below.grown (hb1.alloc hb1.size _) hg2 (by have := hb1.size; simp; omega) ?_
        intro k hk
        simp [Value.ownBlock, Hz.out] at hk; omega
      have hb3 : Below w.heap.size w w3 := hb2.trans ((hF3.below (B := w.heap.size) hb2.size) (fun k hk => by
        rcases hk with hk | hk
        · omega
        · cases hk))
      have Hb3 := Lib.hid hb3
      clear hW3 hF3 hA3 hb2 hb3
      go_wp2_with fail
      go_ret
      exact ⟨r3, rfl, Hs.out ▸ HW3.out, Hb3.out⟩
end Go.Proofs.Ytcfaocbdhfmhbaa
