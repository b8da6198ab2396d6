/-
  Walks: one step on a heap of the program's and one of the document's that hold the same pairs: the answers agree. Conditions: fewer than 2^42 pairs.
-/
import Derived.Test.YtjcnikblbcemcaaHeap
namespace Go.Proofs.Ytjcnikblbcemcaa
open Go.RowKit

/-- block k holds cells of type t -/
def BT (w : World) (k : Nat) (t : TypeId) : Prop := ∃ cs, Blk w k t cs
theorem BT.ne {w : World} {k j : Nat} {t u : TypeId} (h : BT w k t) (h' : BT w j u) (hne : t ≠ u) : k ≠ j := by
  obtain ⟨cs, h⟩ := h
  obtain ⟨ds, h'⟩ := h'
  rintro rfl
  unfold Blk at h h'
  rw [h] at h'
  injection h' with h'
  injection h' with _ h'
  exact hne h'
theorem own_bt {w : World} {B : Nat} {e : TypeId} {size n : Nat} {v : Value} {xs : List Value} (h : w.ownsRow B e size v n xs) {g : Nat} (hg : v.ownBlock = some g) : BT w g e := by
  rcases h.2 with ⟨rfl, _⟩ | ⟨g', cap, cur, rfl, _, hh, _⟩
  · simp [Value.ownBlock] at hg
  · have : g' = g := by simpa [Value.ownBlock] using hg
    subst this
    exact ⟨_, hh⟩
theorem Heap.bt {w : World} {B b : Nat} {r : Option Nat} {l : List P2} (h : Heap w B b r l) : BT w b 29 ∧ ∀ g, r = some g → BT w g 47 := by
  obtain ⟨v, f, h1, h2, h3, _⟩ := h
  exact ⟨⟨_, h1⟩, fun g hg => own_bt h2 (h3.trans hg)⟩
theorem RHeap.bt {w : World} {B b : Nat} {r : Option Nat} {l : List P2} (h : RHeap w B b r l) : BT w b 33 ∧ ∀ g, r = some g → BT w g 51 := by
  obtain ⟨v, h1, h2, h3, _⟩ := h
  exact ⟨⟨_, h1⟩, fun g hg => own_bt h2 (h3.trans hg)⟩
theorem RHeap.past {w w' : World} {B b b' : Nat} {r r' : Option Nat} {l l' : List P2} (h : RHeap w B b r l) (h' : Heap w B b' r' l') (hf : Fr (fun k => k = b' ∨ some k = r') w w') : RHeap w' B b r l := by
  refine h.keep (hf.block b h.lt.1 ?_) fun g hg => hf.block g (h.lt.2 g hg).2 ?_
  · rintro (e | e)
    · exact h.bt.1.ne h'.bt.1 (by decide) e
    · exact h.bt.1.ne (h'.bt.2 _ e.symm) (by decide) rfl
  · rintro (e | e)
    · exact (h.bt.2 g hg).ne h'.bt.1 (by decide) e
    · exact (h.bt.2 g hg).ne (h'.bt.2 _ e.symm) (by decide) rfl
theorem Heap.past {w w' : World} {B b b' : Nat} {r r' : Option Nat} {l l' : List P2} (h : Heap w B b r l) (h' : RHeap w B b' r' l') (hf : Fr (fun k => k = b' ∨ some k = r') w w') : Heap w' B b r l := by
  refine h.keep (hf.block b h.lt.1 ?_) fun g hg => hf.block g (h.lt.2 g hg).2 ?_
  · rintro (e | e)
    · exact h.bt.1.ne h'.bt.1 (by decide) e
    · exact h.bt.1.ne (h'.bt.2 _ e.symm) (by decide) rfl
  · rintro (e | e)
    · exact (h.bt.2 g hg).ne h'.bt.1 (by decide) e
    · exact (h.bt.2 g hg).ne (h'.bt.2 _ e.symm) (by decide) rfl
theorem Heap.below {w w' : World} {B b : Nat} {r : Option Nat} {l : List P2} (h : Heap w B b r l) (hb : Below w.heap.size w w') : Heap w' B b r l :=
  h.keep (hb.block b h.lt.1) fun g hg => hb.block g (h.lt.2 g hg).2
theorem RHeap.below {w w' : World} {B b : Nat} {r : Option Nat} {l : List P2} (h : RHeap w B b r l) (hb : Below w.heap.size w w') : RHeap w' B b r l :=
  h.keep (hb.block b h.lt.1) fun g hg => hb.block g (h.lt.2 g hg).2

theorem Heap.skips {w : World} {B b k : Nat} {r : Option Nat} {l : List P2} {t : TypeId} {cs : Array Value} (h : Heap w B b r l) (hk : Blk w k t cs) (h1 : t ≠ 29) (h2 : t ≠ 47) : ¬ (k = b ∨ some k = r) := by
  rintro (e | e)
  · exact BT.ne ⟨_, hk⟩ h.bt.1 h1 e
  · exact BT.ne ⟨_, hk⟩ (h.bt.2 _ e.symm) h2 rfl
theorem Blk.four {w : World} {g : Nat} {t : TypeId} {x y z u : Value} (h : Blk w g t #[x, y, z, u]) : w.cell? ⟨g, 0, none⟩ = some x ∧ w.cell? ⟨g, 1, none⟩ = some y ∧ w.cell? ⟨g, 2, none⟩ = some z ∧ w.cell? ⟨g, 3, none⟩ = some u := ⟨h.cell 0, h.cell 1, h.cell 2, h.cell 3⟩
theorem foot_fresh {S : Nat → Prop} {a w w' : World} {r : Option Nat} {b : Nat} (h : Fr S a w) (k : Fr (fun k => k = b ∨ some k = r) w w') (hb : S b ∨ a.heap.size ≤ b) (hr : ∀ g, r = some g → S g ∨ a.heap.size ≤ g) : Fr S a w' :=
  h.trans' k fun i hi e => by
    rcases e with e | e
    · rw [e]; exact hb.resolve_right (by omega)
    · exact (hr i e.symm).resolve_right (by omega)
theorem len_q (b n c : Nat) (a : Option Addr) (w : World) (h0 : w.cell? ⟨b, 0, none⟩ = some (.slice a n c)) :
    Calls Try.prog 6 #[.pointer (some ⟨b, 0, none⟩)] w fun e w' => e = .returned (.int .i64 n) ∧ w' = w := (len_any b n c a w h0).mono fun _ _ h => ⟨h.1, h.2.symm⟩
/-- a heap of the program's and one of the document's that hold the same pairs; n: how many at the most -/
def Pair (w : World) (B bh br n : Nat) (rh rr : Option Nat) : Prop := ∃ l r, Heap w B bh rh l ∧ RHeap w B br rr r ∧ l.Perm r ∧ l.length ≤ n
def Foot (bh br : Nat) (rh rr : Option Nat) (k : Nat) : Prop := k = bh ∨ some k = rh ∨ k = br ∨ some k = rr
def HeapedPost (B bh br n : Nat) (rh rr : Option Nat) (w : World) (e : Ending) (w' : World) : Prop :=
  e = .returned (.bool true) ∧ ∃ rh' rr', Pair w' B bh br n rh' rr' ∧ Fr (Foot bh br rh rr) w w' ∧ (∀ g, rh' = some g → rh = some g ∨ w.heap.size ≤ g) ∧ (∀ g, rr' = some g → rr = some g ∨ w.heap.size ≤ g)

/-- how many pairs there are at the most behind a step of that kind -/
def nx (kind : Int) (n : Nat) : Nat := if kind = 0 then n + 1 else if kind = 1 then n - 1 else n
set_option maxHeartbeats 800000 in
set_option maxRecDepth 100000 in
theorem heaped_any (B bh br n : Nat) (rh rr : Option Nat) (kind price place : Int) (two : Bool) (w : World) (h : Pair w B bh br n rh rr) (hn : n < 4398046511103) :
    Calls Try.prog 5 #[.pointer (some ⟨bh, 0, none⟩), .pointer (some ⟨br, 0, none⟩), .agg #[.int .i64 kind, .bool two, .int .i64 price, .int .i64 place]] w (HeapedPost B bh br (nx kind n) rh rr w) := by
  obtain ⟨l, r, hh, hr, hp, hln⟩ := h
  have hlr := hp.length_eq
  have hal : Below w.heap.size w (w.alloc (.cells #[.int .i64 kind, .bool two, .int .i64 price, .int .i64 place] 35)) := (Below.refl _ _).alloc (Nat.le_refl _) _
  have hh1 := hh.below hal
  have hr1 := hr.below hal
  have blt := hh.lt.1
  have hm : Blk (w.alloc (.cells #[.int .i64 kind, .bool two, .int .i64 price, .int .i64 place] 35)) w.heap.size 35 #[.int .i64 kind, .bool two, .int .i64 price, .int .i64 place] := Blk.new _ _ _
  by_cases k0 : kind = 0
  · subst k0
    go_enter Try.func5, Try.ntmps5
    go_wp2_with (first | (go_at_call 7; refine (Push_any B bh rh l price place _ hh1 (by omega)).mono ?_; rintro e w1 ⟨rfl, rh', l', hh2, hp2, hf2, hfr2⟩; have hr2 := hr1.past hh1 hf2; obtain ⟨m0, m1, m2, m3⟩ := (hm.fr hf2 (hh1.skips hm (by decide) (by decide))).four) | (go_at_call 9; refine (RPush_any B br rr r price place _ hr2 (by omega)).mono ?_; rintro e w3 ⟨rfl, rr', hr3, hf3, hfr3⟩))
    go_ret
    have hs : w.heap.size ≤ (w.alloc (.cells #[.int .i64 0, .bool two, .int .i64 price, .int .i64 place] 35)).heap.size := hal.size
    refine ⟨rfl, rh', rr', ⟨l', _, hh2.past hr2 hf3, hr3, hp2.trans (hp.append_right _), by rw [hp2.length_eq]; simp [nx]; omega⟩, ?_, fun g hg => (hfr2 g hg).imp id (Nat.le_trans hs), fun g hg => (hfr3 g hg).imp id (Nat.le_trans (Nat.le_trans hs hf2.size))⟩
    refine foot_fresh (foot_fresh (Fr.of_below hal) hf2 (.inl (.inl rfl)) fun g hg => .inl (.inr (.inl hg.symm))) hf3 (.inl (.inr (.inr (.inl rfl)))) fun g hg => .inl (.inr (.inr (.inr hg.symm)))
  by_cases k1 : kind = 1
  · subst k1
    go_enter Try.func5, Try.ntmps5
    go_wp2_with (first | (go_at_call 8; refine (Pop_any B bh rh l _ hh1 (by omega)).mono ?_; rintro e w1 ⟨x, y, t, rh', l', rfl, hh2, hf2, hfr2, ht2⟩; have hr2 := hr1.past hh1 hf2) | (go_at_call 10; refine (RPop_any B br rr r _ hr2 (by omega)).mono ?_; rintro e w3 ⟨x', y', t', rr', r', rfl, hr3, hf3, hfr3, ht3⟩; obtain ⟨rfl, rfl, rfl, hp3⟩ := ht2.agree ht3 hp))
    go_ret
    have hs : w.heap.size ≤ (w.alloc (.cells #[.int .i64 1, .bool two, .int .i64 price, .int .i64 place] 35)).heap.size := hal.size
    have hll := ht2.length
    refine ⟨rfl, rh', rr', ⟨l', r', hh2.past hr2 hf3, hr3, hp3, by simp [nx]; omega⟩, ?_, fun g hg => (hfr2 g hg).imp id (Nat.le_trans hs), fun g hg => (hfr3 g hg).imp id (Nat.le_trans (Nat.le_trans hs hf2.size))⟩
    refine foot_fresh (foot_fresh (Fr.of_below hal) hf2 (.inl (.inl rfl)) fun g hg => .inl (.inr (.inl hg.symm))) hf3 (.inl (.inr (.inr (.inl rfl)))) fun g hg => .inl (.inr (.inr (.inr hg.symm)))
  by_cases k2 : kind = 2
  · subst k2
    go_enter Try.func5, Try.ntmps5
    obtain ⟨a, c, hlen⟩ := hh1.len
    obtain ⟨a', c', hlen'⟩ := hr1.len
    go_wp2_with fail
    go_quiet ((go_at_call 6; exact Calls.quiet_of_same (len_q bh l.length c a _ (by exact hlen))))
    go_wp2_with fail
    go_ret
    refine ⟨rfl, rh, rr, ⟨l, r, hh1.keep rfl fun _ _ => rfl, hr1.keep rfl fun _ _ => rfl, hp, by simp [nx]; omega⟩, (Fr.of_below hal).drewN _, fun g hg => .inl hg, fun g hg => .inl hg⟩
  · go_enter Try.func5, Try.ntmps5
    go_wp2_with fail
    go_ret
    refine ⟨rfl, rh, rr, ⟨l, r, hh1, hr1, hp, by simp [nx, k0, k1]; omega⟩, Fr.of_below hal, fun g hg => .inl hg, fun g hg => .inl hg⟩

theorem BT.lt {w : World} {k : Nat} {t : TypeId} (h : BT w k t) : k < w.heap.size := by
  obtain ⟨cs, h⟩ := h
  exact h.lt
/-- two pairs of heaps that share nothing -/
def Two (w : World) (B G R H S n m : Nat) : Prop :=
  ∃ rg rr rh rs, Pair w B G R n rg rr ∧ Pair w B H S m rh rs ∧ (∀ g, rg = some g → rh ≠ some g) ∧ (∀ g, rr = some g → rs ≠ some g)
theorem Pair.past {w w' : World} {B bh br n bh' br' n' : Nat} {rh rr rh' rr' : Option Nat} (h : Pair w B bh br n rh rr) (h' : Pair w B bh' br' n' rh' rr') (e1 : bh ≠ bh') (e2 : br ≠ br')
    (e3 : ∀ g, rh = some g → rh' ≠ some g) (e4 : ∀ g, rr = some g → rr' ≠ some g) (hf : Fr (Foot bh' br' rh' rr') w w') : Pair w' B bh br n rh rr := by
  obtain ⟨l, r, h1, h2, h3, h4⟩ := h
  obtain ⟨l', r', h1', h2', _⟩ := h'
  refine ⟨l, r, h1.keep (hf.block _ h1.lt.1 ?_) fun g hg => hf.block g (h1.lt.2 g hg).2 ?_, h2.keep (hf.block _ h2.lt.1 ?_) fun g hg => hf.block g (h2.lt.2 g hg).2 ?_, h3, h4⟩
  · rintro (e | e | e | e)
    · exact e1 e
    · exact h1.bt.1.ne (h1'.bt.2 _ e.symm) (by decide) rfl
    · exact h1.bt.1.ne h2'.bt.1 (by decide) e
    · exact h1.bt.1.ne (h2'.bt.2 _ e.symm) (by decide) rfl
  · rintro (e | e | e | e)
    · exact (h1.bt.2 g hg).ne h1'.bt.1 (by decide) e
    · exact e3 g hg e.symm
    · exact (h1.bt.2 g hg).ne h2'.bt.1 (by decide) e
    · exact (h1.bt.2 g hg).ne (h2'.bt.2 _ e.symm) (by decide) rfl
  · rintro (e | e | e | e)
    · exact h2.bt.1.ne h1'.bt.1 (by decide) e
    · exact h2.bt.1.ne (h1'.bt.2 _ e.symm) (by decide) rfl
    · exact e2 e
    · exact h2.bt.1.ne (h2'.bt.2 _ e.symm) (by decide) rfl
  · rintro (e | e | e | e)
    · exact (h2.bt.2 g hg).ne h1'.bt.1 (by decide) e
    · exact (h2.bt.2 g hg).ne (h1'.bt.2 _ e.symm) (by decide) rfl
    · exact (h2.bt.2 g hg).ne h2'.bt.1 (by decide) e
    · exact e4 g hg e.symm
theorem Pair.base {w : World} {B bh br n : Nat} {rh rr : Option Nat} (h : Pair w B bh br n rh rr) : ∀ k, Foot bh br rh rr k → B ≤ k ∧ k < w.heap.size := by
  obtain ⟨l, r, h1, h2, _⟩ := h
  have b1 := h1.lt
  have b2 := h2.lt
  have c1 : B ≤ bh := by obtain ⟨_, _, _, _, _, _, _, h⟩ := h1; exact h
  have c2 : B ≤ br := by obtain ⟨_, _, _, _, h⟩ := h2; exact h
  rintro k (e | e | e | e)
  · rw [e]; exact ⟨c1, b1.1⟩
  · exact b1.2 k e.symm
  · rw [e]; exact ⟨c2, b2.1⟩
  · exact b2.2 k e.symm
theorem Pair.mono {w : World} {B bh br n m : Nat} {rh rr : Option Nat} (h : Pair w B bh br n rh rr) (hm : n ≤ m) : Pair w B bh br m rh rr := by
  obtain ⟨l, r, h1, h2, h3, h4⟩ := h
  exact ⟨l, r, h1, h2, h3, Nat.le_trans h4 hm⟩
/-- a step on one of the two: 'Two' holds behind it, and nothing below B has turned -/
theorem Two.fst {w w' : World} {B G R H S n n' m : Nat} {rg rr rh rs rg' rr' : Option Nat} (eG : G ≠ H) (eR : R ≠ S) (h1 : Pair w B G R n rg rr) (h2 : Pair w B H S m rh rs) (h3 : ∀ g, rg = some g → rh ≠ some g) (h4 : ∀ g, rr = some g → rs ≠ some g)
    (k1 : Pair w' B G R n' rg' rr') (hf : Fr (Foot G R rg rr) w w') (f1 : ∀ g, rg' = some g → rg = some g ∨ w.heap.size ≤ g) (f2 : ∀ g, rr' = some g → rr = some g ∨ w.heap.size ≤ g) :
    Two w' B G R H S n' m ∧ ∀ C, C ≤ B → Below C w w' := by
  refine ⟨⟨rg', rr', rh, rs, k1, h2.past h1 (fun e => eG e.symm) (fun e => eR e.symm) (fun g hg e => h3 g e hg) (fun g hg e => h4 g e hg) hf, ?_, ?_⟩, ?_⟩
  · intro g hg e
    rcases f1 g hg with h | h
    · exact h3 g h e
    · have := h2.base g (.inr (.inl e.symm)); omega
  · intro g hg e
    rcases f2 g hg with h | h
    · exact h4 g h e
    · have := h2.base g (.inr (.inr (.inr e.symm))); omega
  · intro C hC
    exact ⟨hf.os, hf.tape, hf.output, hf.size, fun i hi => by
      by_cases hlt : i < w.heap.size
      · exact hf.block i hlt fun s => by have := (h1.base i s).1; omega
      · have h5 : B ≤ G := (h1.base G (.inl rfl)).1
        have h6 := (h1.base G (.inl rfl)).2
        omega⟩
theorem Two.swap {w : World} {B G R H S n m : Nat} (h : Two w B G R H S n m) : Two w B H S G R m n := by
  obtain ⟨rg, rr, rh, rs, h1, h2, h3, h4⟩ := h
  exact ⟨rh, rs, rg, rr, h2, h1, fun g hg e => h3 g e hg, fun g hg e => h4 g e hg⟩
theorem Two.below {w w' : World} {B G R H S n m : Nat} (h : Two w B G R H S n m) (hb : Below w.heap.size w w') : Two w' B G R H S n m := by
  obtain ⟨rg, rr, rh, rs, ⟨l, r, a1, a2, a3⟩, ⟨l', r', b1, b2, b3⟩, h3⟩ := h
  exact ⟨rg, rr, rh, rs, ⟨l, r, a1.below hb, a2.below hb, a3⟩, ⟨l', r', b1.below hb, b2.below hb, b3⟩, h3⟩
/-- the step's contract, the other pair of heaps beside it -/
def StepPost (B G R H S n m : Nat) (w : World) (e : Ending) (w' : World) : Prop := e = .returned (.bool true) ∧ Two w' B G R H S n m ∧ Below B w w' ∧ ∀ k cs, Blk w k 35 cs → Blk w' k 35 cs
theorem heaped_fst (B G R H S n m : Nat) (kind price place : Int) (two : Bool) (w : World) (eG : G ≠ H) (eR : R ≠ S) (h : Two w B G R H S n m) (hn : n < 4398046511103) :
    Calls Try.prog 5 #[.pointer (some ⟨G, 0, none⟩), .pointer (some ⟨R, 0, none⟩), .agg #[.int .i64 kind, .bool two, .int .i64 price, .int .i64 place]] w (StepPost B G R H S (nx kind n) m w) := by
  obtain ⟨rg, rr, rh, rs, h1, h2, h3, h4⟩ := h
  refine (heaped_any B G R n rg rr kind price place two w h1 hn).mono ?_
  rintro e w' ⟨rfl, rg', rr', k1, hf, f1, f2⟩
  have := Two.fst eG eR h1 h2 h3 h4 k1 hf f1 f2
  refine ⟨rfl, this.1, this.2 B (Nat.le_refl _), fun k cs hk => hk.fr hf ?_⟩
  obtain ⟨l, r, a1, a2, _⟩ := h1
  rintro (e | e | e | e)
  · exact BT.ne ⟨_, hk⟩ a1.bt.1 (by decide) e
  · exact BT.ne ⟨_, hk⟩ (a1.bt.2 _ e.symm) (by decide) rfl
  · exact BT.ne ⟨_, hk⟩ a2.bt.1 (by decide) e
  · exact BT.ne ⟨_, hk⟩ (a2.bt.2 _ e.symm) (by decide) rfl
theorem heaped_snd (B G R H S n m : Nat) (kind price place : Int) (two : Bool) (w : World) (eG : G ≠ H) (eR : R ≠ S) (h : Two w B G R H S n m) (hm : m < 4398046511103) :
    Calls Try.prog 5 #[.pointer (some ⟨H, 0, none⟩), .pointer (some ⟨S, 0, none⟩), .agg #[.int .i64 kind, .bool two, .int .i64 price, .int .i64 place]] w (StepPost B G R H S n (nx kind m) w) := by
  refine (heaped_fst B H S G R m n kind price place two w (Ne.symm eG) (Ne.symm eR) h.swap hm).mono ?_
  rintro e w' ⟨rfl, k1, hb, hk⟩
  exact ⟨rfl, k1.swap, hb, hk⟩
theorem Two.lens {w : World} {B G R H S n m : Nat} (h : Two w B G R H S n m) : ∃ (l k : Nat) (a c : Option Addr) (d e : Nat), l ≤ n ∧ k ≤ m ∧ w.cell? ⟨G, 0, none⟩ = some (.slice a l d) ∧ w.cell? ⟨H, 0, none⟩ = some (.slice c k e) := by
  obtain ⟨rg, rr, rh, rs, ⟨l, r, a1, _, _, a4⟩, ⟨l', r', b1, _, _, b4⟩, _⟩ := h
  obtain ⟨a, c, h1⟩ := a1.len
  obtain ⟨a', c', h2⟩ := b1.len
  exact ⟨l.length, l'.length, a, a', c, c', a4, b4, h1, h2⟩
theorem Two.start (w : World) : Two ((((w.alloc (.cells #[.slice none 0 0, .nilFunc] 29)).alloc (.cells #[.slice none 0 0, .nilFunc] 29)).alloc (.cells #[.slice none 0 0] 33)).alloc (.cells #[.slice none 0 0] 33))
    w.heap.size w.heap.size (w.heap.size + 2) (w.heap.size + 1) (w.heap.size + 3) 0 0 := by
  refine ⟨none, none, none, none, ⟨[], [], ⟨_, _, (((Blk.new w 29 _).alloc _).alloc _).alloc _, World.ownsRow_nil _ _ _ _, rfl, fun h => absurd h (by simp), fun j _ h => absurd h (by simp), Nat.le_refl _⟩, ⟨_, ?_, World.ownsRow_nil _ _ _ _, rfl, by omega⟩, List.Perm.refl _, Nat.le_refl _⟩,
    ⟨[], [], ⟨.slice none 0 0, .nilFunc, ?_, World.ownsRow_nil _ _ _ _, rfl, fun h => absurd h (by simp), fun j _ h => absurd h (by simp), by omega⟩, ⟨_, ?_, World.ownsRow_nil _ _ _ _, rfl, by omega⟩, List.Perm.refl _, Nat.le_refl _⟩, (fun _ h => by cases h), (fun _ h => by cases h)⟩
  · have h := Blk.new ((w.alloc (.cells #[.slice none 0 0, .nilFunc] 29)).alloc (.cells #[.slice none 0 0, .nilFunc] 29)) 33 #[.slice none 0 0]
    simp only [World.size_alloc] at h
    exact h.alloc _
  · have h := Blk.new (w.alloc (.cells #[.slice none 0 0, .nilFunc] 29)) 29 #[.slice none 0 0, .nilFunc]
    simp only [World.size_alloc] at h
    exact (h.alloc _).alloc _
  · have h := Blk.new (((w.alloc (.cells #[.slice none 0 0, .nilFunc] 29)).alloc (.cells #[.slice none 0 0, .nilFunc] 29)).alloc (.cells #[.slice none 0 0] 33)) 33 #[.slice none 0 0]
    simp only [World.size_alloc] at h
    exact h
end Go.Proofs.Ytjcnikblbcemcaa
