/-
  Walks: the program's heap behind its exported methods: Len, Push, Pop, over the heap's struct and row. Conditions: the struct and row as Heap says, fewer than 2^42 pairs.
-/
import Derived.Test.YtjcnikblbcemcaaPop
import Derived.Test.YtjcnikblbcemcaaRef
import Derived.Laws.EntriesVeiled
namespace Go.Proofs.Ytjcnikblbcemcaa
open Go.RowKit

theorem len_any (b n c : Nat) (a : Option Addr) (w : World) (h0 : w.cell? ⟨b, 0, none⟩ = some (.slice a n c)) :
    Calls Try.prog 6 #[.pointer (some ⟨b, 0, none⟩)] w fun e w' => e = .returned (.int .i64 n) ∧ w = w' := by
  go_enter Try.func6, Try.ntmps6
  go_wp2
  go_ret
  exact ⟨rfl, rfl⟩

/-- the heap behind a pointer: its struct at block b, its row at r (none: no row yet), the pairs l, in a heap's order -/
def Heap (w : World) (B b : Nat) (r : Option Nat) (l : List P2) : Prop :=
  ∃ v f, Blk w b 29 #[v, f] ∧ w.ownsRow B 47 2 v l.length (flat l) ∧ v.ownBlock = r ∧ (0 < l.length → f = F11) ∧ Ord l ∧ B ≤ b
theorem Heap.keep {w w' : World} {B b : Nat} {r : Option Nat} {l : List P2} (h : Heap w B b r l) (hb : w'.heap[b]? = w.heap[b]?) (hr : ∀ g, r = some g → w'.heap[g]? = w.heap[g]?) : Heap w' B b r l := by
  obtain ⟨v, f, h1, h2, h3, h4, h5, h6⟩ := h
  exact ⟨v, f, h1.same hb, own_same h2 (fun g hg => hr g (h3 ▸ hg)), h3, h4, h5, h6⟩
theorem Heap.lt {w : World} {B b : Nat} {r : Option Nat} {l : List P2} (h : Heap w B b r l) : b < w.heap.size ∧ ∀ g, r = some g → B ≤ g ∧ g < w.heap.size := by
  obtain ⟨v, f, h1, h2, h3, h4, h5⟩ := h
  exact ⟨h1.lt, fun g hg => own_lt h2 (h3.trans hg)⟩
theorem Heap.len {w : World} {B b : Nat} {r : Option Nat} {l : List P2} (h : Heap w B b r l) : ∃ a c, w.cell? ⟨b, 0, none⟩ = some (.slice a l.length c) := by
  obtain ⟨v, f, h1, h2, _⟩ := h
  obtain ⟨a, c, rfl⟩ := own_slice h2
  exact ⟨a, c, h1.two.1⟩

def PushP (B b : Nat) (r : Option Nat) (l : List P2) (p : P2) (w : World) (e : Ending) (w' : World) : Prop :=
  e = .returned (.tuple #[]) ∧ ∃ r' l', Heap w' B b r' l' ∧ l'.Perm (l ++ [p]) ∧ Fr (fun k => k = b ∨ some k = r) w w' ∧ (∀ g, r' = some g → r = some g ∨ w.heap.size ≤ g)
set_option maxHeartbeats 400000 in
theorem Push_any (B b : Nat) (r : Option Nat) (l : List P2) (x y : Int) (w : World) (h : Heap w B b r l) (hn : l.length < 4398046511104) :
    Calls Try.prog 7 #[.pointer (some ⟨b, 0, none⟩), .int .i64 x, .int .i64 y] w (PushP B b r l (x, y) w) := by
  obtain ⟨v, f, hb, hown, rfl, hf, ho, hBb⟩ := h
  obtain ⟨c0, c1⟩ := hb.two
  have f1 := hb.frozen 1
  have blt := hb.lt
  go_enter Try.func7, Try.ntmps7
  have hs : (w.setCell ⟨b, 1, none⟩ F11).heap.size = w.heap.size := by simp [World.setCell]
  have Hs := Lib.hid hs
  clear hs
  go_wp2_with fail
  refine (hpush_any b l.length B v l (x, y) (w.setCell ⟨b, 1, none⟩ F11) rfl ho (hb.set_ 1 _) (own_far hown (own_ne hown hb (by decide)) _) hn (by rw [Hs.out]; omega)).mono ?_
  rintro e w1 ⟨rfl, g, cap, l', ⟨hl, hb1, hown1⟩, hfr, hg, hpm, ho1⟩
  go_wp2_with fail
  go_end0
  refine ⟨rfl, some g, l', ⟨_, _, hb1, by rw [hl]; exact hown1, rfl, fun _ => rfl, ho1, hBb⟩, hpm, ?_, ?_⟩
  · exact (Fr.setCell (Fr.refl _ w) (.inl (.inl rfl)) _).trans hfr
  · intro k hk
    cases hk
    rcases hg with hg | hg
    · exact .inl hg
    · exact .inr (by rw [Hs.out] at hg; exact hg)

def PopPost2 (B b : Nat) (r : Option Nat) (l : List P2) (w : World) (e : Ending) (w' : World) : Prop :=
  ∃ (x y : Int) (t : Bool) (r' : Option Nat) (l' : List P2), e = .returned (.tuple #[.int .i64 x, .int .i64 y, .bool t]) ∧ Heap w' B b r' l' ∧ Fr (fun k => k = b ∨ some k = r) w w' ∧ (∀ g, r' = some g → r = some g ∨ w.heap.size ≤ g) ∧ Taken l x y t l'
set_option maxHeartbeats 400000 in
theorem Pop_any (B b : Nat) (r : Option Nat) (l : List P2) (w : World) (h : Heap w B b r l) (hn : l.length < 4398046511104) :
    Calls Try.prog 8 #[.pointer (some ⟨b, 0, none⟩)] w (PopPost2 B b r l w) := by
  obtain ⟨v, f, hb, hown, hr, hf, ho, hBb⟩ := h
  by_cases h0 : l.length = 0
  · obtain ⟨a, c, rfl⟩ := own_slice hown
    have hl : l = [] := List.eq_nil_of_length_eq_zero h0
    rw [h0] at hb
    have c0 := hb.two.1
    have blt := hb.lt
    go_enter Try.func8, Try.ntmps8
    go_wp2_with (go_at_call 13; refine (pop_none b c a _ c0 blt).mono ?_; rintro e w1 ⟨rfl, hbel⟩)
    go_quiet (fail)
    go_wp2_with fail
    go_ret3
    refine ⟨0, 0, false, r, l, rfl, ⟨_, f, ((hb.below hbel).alloc _).drewN _, ?_, by rw [← hr, h0], hf, ho, hBb⟩, ?_, fun g hg => .inl hg, .inl ⟨hl, hl, rfl, rfl, rfl⟩⟩
    · rw [h0] at hown; rw [h0]; exact (own_below hown hbel).alloc _
    · exact ((Fr.of_below hbel).alloc _).drewN _
  · obtain ⟨g, cap, rfl, _, _⟩ := hown.form (by omega)
    obtain rfl := hf (by omega)
    obtain ⟨n, hn'⟩ : ∃ n, l.length = n + 1 := ⟨l.length - 1, by omega⟩
    rw [hn'] at hb hown
    have hB : B ≤ w.heap.size := by have := hb.lt; omega
    go_enter Try.func8, Try.ntmps8
    go_wp2_with (go_at_call 13; refine (pop_some b g n cap B l w ⟨hn', hb, hown⟩ ho (by omega) hB).mono ?_; rintro e w1 ⟨rfl, l', ⟨hl1, hb1, hown1⟩, hfr, hpm, ho1⟩)
    go_quiet (fail)
    go_wp2_with fail
    go_ret3
    refine ⟨_, _, true, some g, l', rfl, ⟨_, _, (hb1.alloc _).drewN _, ?_, rfl, fun _ => rfl, ho1, hBb⟩, ?_, ?_, .inr ⟨rfl, ord_Least ho (by omega), hpm⟩⟩
    · rw [hl1]; exact hown1.alloc _
    · refine Fr.drewN (Fr.alloc (hfr.mono fun k _ hk => hk.imp id fun h => ?_) _) _
      rw [← hr, h]; rfl
    · intro k hk; exact .inl (by rw [← hr, ← hk]; rfl)
end Go.Proofs.Ytjcnikblbcemcaa
