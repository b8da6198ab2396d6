/-
  Laws on the way to the claim (OrA OrD OrE). Conditions: those that each theorem states.
-/
import Derived.Test.YtcjehjdehdoaeaaGreatDoorOm19
import Derived.Test.YtcjehjdehdoaeaaGreatDoorOm03
set_option linter.unusedVariables false
set_option linter.unusedSimpArgs false
set_option maxRecDepth 1000000
set_option maxHeartbeats 16000000
namespace Go.Proofs.YtcjehjdehdoaeaaGreatDoor
open Go.RowKit
structure Lst where
 t : Tb
 all : List UInt8
 lc : Nat
 lp : Nat
 pb : Nat
 out : List UInt8
def Lst.clr (s : Lst) : Lst := ⟨Tb.new s.t.lc s.t.lp s.t.pb, [], s.lc, s.lp, s.pb, s.out⟩
def Lst.prop (c : Ck) (s : Lst) : Lst := ⟨s.t, s.all, c.lc, c.lp, c.pb, s.out⟩
def Lst.rst (s : Lst) : Lst := ⟨Tb.new s.lc s.lp s.pb, s.all, s.lc, s.lp, s.pb, s.out⟩
def Lst.more (s : Lst) (t : Tb) (b : List UInt8) : Lst := ⟨t, s.all ++ b, s.lc, s.lp, s.pb, s.out ++ b⟩
def lst1 (c : Ck) (s : Lst) : Lst := if c.k = 1 ∨ c.k = 6 then s.clr else s
def lst2 (c : Ck) (s : Lst) : Lst := if 5 ≤ c.k then s.prop c else s
def lst3 (c : Ck) (s : Lst) : Lst := if 4 ≤ c.k then s.rst else s
def chunkR (size : Nat) (c : Ck) (part : List UInt8) (s : Lst) : Option Lst :=
 if c.k < 3 then some (s.more s.t part)
 else match takeQ s.t size s.all part c.n with
  | none => none
  | some (t, o) => some (s.more t o)
def chunkF (size : Nat) (c : Ck) (part : List UInt8) (s : Lst) : Option Lst := chunkR size c part (lst3 c (lst2 c (lst1 c s)))
structure RowR where
 n : Nat
 e : Nat
 out : List UInt8
def rowGo (l : List UInt8) (packed size : Int) (dict : Nat) : Nat → RwS → Lst → RowR
 | 0, s, _ => ⟨s.at_, 2, []⟩
 | f + 1, s, st =>
  if s.ord = 3 then ⟨s.at_, 0, st.out⟩
  else if (nextF l packed size s).e ≠ 0 then ⟨(nextF l packed size s).pl, (nextF l packed size s).e, []⟩
  else match chunkF dict (nextF l packed size s).c ((l.drop (nextF l packed size s).fr).take (nextF l packed size s).c.p) st with
   | none => ⟨(nextF l packed size s).pl, 2, []⟩
   | some st' => rowGo l packed size dict f (nextF l packed size s).s st'
def Lst.start : Lst := ⟨Tb.new 0 0 0, [], 0, 0, 0, []⟩
def RwS.start : RwS := ⟨0, 0, 0⟩
def rowF (l : List UInt8) (dict : Nat) (packed size : Int) : RowR := rowGo l packed size dict (l.length + 1) .start .start
theorem getD_take (l : List UInt8) {i j : Nat} (h : i < j) : (l.take j).getD i 0 = l.getD i 0 := by simp [List.getD, List.getElem?_take, h]
theorem hi2_take (l : List UInt8) {i j : Nat} (h : i + 1 < j) : hi2 (l.take j) i = hi2 l i := by unfold hi2; rw [getD_take l (by omega), getD_take l h]
theorem ckF_cut (l : List UInt8) (j : Nat) (hj : 1 ≤ j) (he : (ckF l).e = 0) : ((ckF l).n ≤ j → ckF (l.take j) = ckF l) ∧ (j < (ckF l).n → (ckF (l.take j)).e = 1) := by
 by_cases hjl : l.length ≤ j
 · rw [List.take_of_length_le hjl];exact ⟨fun _ => rfl, fun h => by have := ckF_len l he; omega⟩
 cases l with
 | nil => simp [ckF] at he
 | cons f t =>
  obtain ⟨i, rfl⟩ : ∃ i, j = i + 1 := ⟨j - 1, by omega⟩
  have hc : (f :: t).length = t.length + 1 := rfl;have hl : ((f :: t).take (i + 1)).length = i + 1 := by rw [List.length_take]; omega
  have e1 : (f :: t).take (i + 1) = f :: t.take i := rfl;have g0 : ∀ k, k < i + 1 → (f :: t.take i).getD k 0 = (f :: t).getD k 0 := fun k hk => by rw [← e1]; exact getD_take _ hk
  have h1 : 2 < i + 1 → hi2 (f :: t.take i) 1 = hi2 (f :: t) 1 := fun h => by rw [← e1]; exact hi2_take _ h
  have h3 : 4 < i + 1 → hi2 (f :: t.take i) 3 = hi2 (f :: t) 3 := fun h => by rw [← e1]; exact hi2_take _ h
  have hl2 : (f :: t.take i).length = i + 1 := by rw [← e1]; exact hl
  rw [e1];generalize hA : f :: t.take i = A at *;generalize hL : f :: t = L at *;have hA2 : ckF A = if f.toNat = 0 then ⟨.zero, 1, 0⟩ else if f.toNat ≤ 2 then (if A.length ≤ 2 then ⟨.zero, 0, 1⟩ else ⟨⟨f.toNat, hi2 A 1 + 1, hi2 A 1 + 1, 0, 0, 0⟩, 3, 0⟩) else if f.toNat < 128 then ⟨.zero, 0, 2⟩ else if A.length ≤ 4 then ⟨.zero, 0, 1⟩ else
   if 5 ≤ 3 + (f.toNat - 128) / 32 then ckProps ⟨3 + (f.toNat - 128) / 32, f.toNat % 32 * 65536 + hi2 A 1 + 1, hi2 A 3 + 1, 0, 0, 0⟩ A else ⟨⟨3 + (f.toNat - 128) / 32, f.toNat % 32 * 65536 + hi2 A 1 + 1, hi2 A 3 + 1, 0, 0, 0⟩, 5, 0⟩ := by rw [← hA]; rfl
  have hL2 : ckF L = if f.toNat = 0 then ⟨.zero, 1, 0⟩ else if f.toNat ≤ 2 then (if L.length ≤ 2 then ⟨.zero, 0, 1⟩ else ⟨⟨f.toNat, hi2 L 1 + 1, hi2 L 1 + 1, 0, 0, 0⟩, 3, 0⟩) else if f.toNat < 128 then ⟨.zero, 0, 2⟩ else if L.length ≤ 4 then ⟨.zero, 0, 1⟩ else
   if 5 ≤ 3 + (f.toNat - 128) / 32 then ckProps ⟨3 + (f.toNat - 128) / 32, f.toNat % 32 * 65536 + hi2 L 1 + 1, hi2 L 3 + 1, 0, 0, 0⟩ L else ⟨⟨3 + (f.toNat - 128) / 32, f.toNat % 32 * 65536 + hi2 L 1 + 1, hi2 L 3 + 1, 0, 0, 0⟩, 5, 0⟩ := by rw [← hL]; rfl
  rw [hL2] at he;rw [hA2, hL2];clear hA2 hL2;by_cases c0 : f.toNat = 0
  · simp [c0]
  rw [if_neg c0] at he ⊢;rw [if_neg c0];by_cases c1 : f.toNat ≤ 2
  · rw [if_pos c1] at he ⊢;rw [if_pos c1];by_cases c2 : L.length ≤ 2
    · rw [if_pos c2] at he; simp at he
    rw [if_neg c2];by_cases c3 : A.length ≤ 2
    · rw [if_pos c3];exact ⟨fun h => by simp only [] at h; omega, fun _ => rfl⟩
    · rw [if_neg c3, h1 (by omega)]
      exact ⟨fun _ => rfl, fun h => by simp only [] at h; omega⟩
  rw [if_neg c1] at he ⊢;rw [if_neg c1];by_cases c2 : f.toNat < 128
  · rw [if_pos c2] at he; simp at he
  rw [if_neg c2] at he ⊢;rw [if_neg c2];by_cases c3 : L.length ≤ 4
  · rw [if_pos c3] at he; simp at he
  rw [if_neg c3] at he ⊢;by_cases c4 : A.length ≤ 4
  · rw [if_pos c4];refine ⟨fun h => ?_, fun _ => rfl⟩
    exfalso;by_cases c5 : 5 ≤ 3 + (f.toNat - 128) / 32
    · rw [if_pos c5] at he h;unfold ckProps at he h;by_cases c6 : L.length ≤ 5
      · rw [if_pos c6] at he; simp at he
      rw [if_neg c6] at he h;by_cases c7 : okN (L.getD 5 0).toNat
      · rw [if_pos c7] at h; simp only [] at h; omega
      · rw [if_neg c7] at he; simp at he
    · rw [if_neg c5] at h;simp only [] at h;omega
  · rw [if_neg c4, h1 (by omega), h3 (by omega)]
    by_cases c5 : 5 ≤ 3 + (f.toNat - 128) / 32
    · rw [if_pos c5] at he ⊢;rw [if_pos c5];unfold ckProps at he ⊢;by_cases c6 : L.length ≤ 5
      · rw [if_pos c6] at he; simp at he
      rw [if_neg c6] at he ⊢;by_cases c7 : okN (L.getD 5 0).toNat
      · rw [if_pos c7] at he ⊢;by_cases c8 : A.length ≤ 5
        · rw [if_pos c8];exact ⟨fun h => by simp only [] at h; omega, fun _ => rfl⟩
        · rw [if_neg c8, g0 5 (by omega), if_pos c7]
          exact ⟨fun _ => rfl, fun h => by simp only [] at h; omega⟩
      · rw [if_neg c7] at he; simp at he
    · rw [if_neg c5, if_neg c5];exact ⟨fun _ => rfl, fun h => by simp only [] at h; omega⟩
theorem ckF_err (l : List UInt8) : (ckF l).e ≤ 2 := by
 unfold ckF;cases l with
 | nil => simp
 | cons f t =>
  simp only [ckProps]
  (repeat' split) <;> simp
theorem nextF_err (l : List UInt8) (packed size : Int) (s : RwS) : (nextF l packed size s).e ≤ 2 := by
 have := ckF_err (l.drop s.at_);unfold nextF nextC NxR.no
 (repeat' split) <;> simp <;> omega
theorem nextF_ok (l : List UInt8) (packed size : Int) (s : RwS) (hs : s.at_ ≤ l.length) (he : (nextF l packed size s).e = 0) :
 s.at_ < (nextF l packed size s).fr ∧ (nextF l packed size s).s.at_ = (nextF l packed size s).fr + (nextF l packed size s).c.p ∧ (nextF l packed size s).s.at_ ≤ l.length ∧ (nextF l packed size s).c = (ckF (l.drop s.at_)).c ∧
  (nextF l packed size s).fr = s.at_ + (ckF (l.drop s.at_)).n ∧ (ckF (l.drop s.at_)).e = 0 := by
 have hk := ckF_len (l.drop s.at_);rw [List.length_drop] at hk;unfold nextF nextC NxR.no at he ⊢;by_cases c0 : beyondB packed ((s.at_ + 1 : Nat) : Int) = true
 · rw [if_pos c0] at he; simp at he
 rw [if_neg c0] at *;by_cases c1 : s.at_ = l.length
 · rw [if_pos c1] at he; simp at he
 rw [if_neg c1] at *;by_cases c2 : kindI (l.getD s.at_ 0) < 0
 · rw [if_pos c2] at he; simp at he
 rw [if_neg c2] at *;by_cases c3 : moveN s.ord (kindI (l.getD s.at_ 0)).toNat = 4
 · rw [if_pos c3] at he; simp at he
 rw [if_neg c3] at *;by_cases c4 : kindI (l.getD s.at_ 0) = 0 ∧ endsB packed size s = false
 · rw [if_pos c4] at he; simp at he
 rw [if_neg c4] at *;by_cases c5 : (ckF (l.drop s.at_)).e ≠ 0
 · rw [if_pos c5] at he; simp only [] at he; exact absurd he c5
 rw [if_neg c5] at *;split at he
 · simp at he
 rename_i c6;rw [if_neg c6] at *;split at he
 · simp at he
 rename_i c7;rw [if_neg c7];simp only [] at *;have c5' : (ckF (l.drop s.at_)).e = 0 := by omega
 have := hk c5';refine ⟨by omega, trivial, by omega, trivial, trivial, c5'⟩
theorem nextF_take (l : List UInt8) (packed size : Int) (s : RwS) (hs : s.at_ ≤ l.length) (he : (nextF l packed size s).e = 0) (j : Nat) (hj : s.at_ ≤ j) :
 ((nextF l packed size s).s.at_ ≤ j → nextF (l.take j) packed size s = nextF l packed size s) ∧ (j < (nextF l packed size s).s.at_ → (nextF (l.take j) packed size s).e = 1) := by
 by_cases hjl : l.length ≤ j
 · rw [List.take_of_length_le hjl];exact ⟨fun _ => rfl, fun h => by have := nextF_ok l packed size s hs he; omega⟩
 have hlen : (l.take j).length = j := by rw [List.length_take]; omega
 obtain ⟨k1, k2, k3, k4, k5, k6⟩ := nextF_ok l packed size s hs he;have hd : (l.take j).drop s.at_ = (l.drop s.at_).take (j - s.at_) := by rw [List.drop_take]
 rw [k2, k5, k4] at *;unfold nextF nextC NxR.no at he ⊢;rw [hlen, hd];by_cases c0 : beyondB packed ((s.at_ + 1 : Nat) : Int) = true
 · rw [if_pos c0] at he; simp at he
 rw [if_neg c0] at *;rw [if_neg c0];by_cases c1 : s.at_ = l.length
 · rw [if_pos c1] at he; simp at he
 rw [if_neg c1] at *;by_cases c1j : s.at_ = j
 · rw [if_pos c1j];have := ckF_len _ k6;exact ⟨fun h => by omega, fun _ => rfl⟩
 rw [if_neg c1j];have hg : (l.take j).getD s.at_ 0 = l.getD s.at_ 0 := getD_take l (by omega)
 rw [hg];by_cases c2 : kindI (l.getD s.at_ 0) < 0
 · rw [if_pos c2] at he; simp at he
 rw [if_neg c2] at *;rw [if_neg c2];by_cases c3 : moveN s.ord (kindI (l.getD s.at_ 0)).toNat = 4
 · rw [if_pos c3] at he; simp at he
 rw [if_neg c3] at *;rw [if_neg c3];by_cases c4 : kindI (l.getD s.at_ 0) = 0 ∧ endsB packed size s = false
 · rw [if_pos c4] at he; simp at he
 rw [if_neg c4] at *;rw [if_neg c4];have c5 : ¬ (ckF (l.drop s.at_)).e ≠ 0 := by omega
 rw [if_neg c5] at *;obtain ⟨t1, t2⟩ := ckF_cut (l.drop s.at_) (j - s.at_) (by omega) k6
 by_cases c6 : (ckF (l.drop s.at_)).n ≤ j - s.at_
 · rw [t1 c6, if_neg c5];split at he
   · simp at he
   rename_i c7;rw [if_neg c7] at *;rw [if_neg c7];split at he
   · simp at he
   rename_i c8;rw [if_neg c8];by_cases c9 : j - (s.at_ + (ckF (l.drop s.at_)).n) < (ckF (l.drop s.at_)).c.p
   · rw [if_pos c9];exact ⟨fun h => by omega, fun _ => rfl⟩
   · rw [if_neg c9];exact ⟨fun _ => rfl, fun h => by omega⟩
 · have := t2 (by omega)
   rw [if_pos (by rw [this]; decide)]
   exact ⟨fun h => by omega, fun _ => this⟩
theorem rowGo_err (l : List UInt8) (packed size : Int) (dict : Nat) : ∀ (f : Nat) (s : RwS) (st : Lst), (rowGo l packed size dict f s st).e ≤ 2 ∧ ((rowGo l packed size dict f s st).e ≠ 0 → (rowGo l packed size dict f s st).out = []) := by
 intro f;induction f with
 | zero => intro s st; exact ⟨Nat.le_refl _, fun _ => rfl⟩
 | succ f ih =>
  intro s st;unfold rowGo;have := nextF_err l packed size s;split
  · exact ⟨by simp, fun h => absurd rfl h⟩
  split
  · exact ⟨this, fun _ => rfl⟩
  split
  · exact ⟨Nat.le_refl _, fun _ => rfl⟩
  · exact ih _ _
theorem rowGo_at (l : List UInt8) (packed size : Int) (dict : Nat) : ∀ (f : Nat) (s : RwS) (st : Lst), s.at_ ≤ l.length → s.at_ ≤ (rowGo l packed size dict f s st).n ∧ (rowGo l packed size dict f s st).n ≤ l.length := by
 intro f;induction f with
 | zero => intro s st h; exact ⟨Nat.le_refl _, h⟩
 | succ f ih =>
  intro s st h;unfold rowGo;split
  · exact ⟨Nat.le_refl _, h⟩
  split
  · rename_i h1;unfold nextF nextC NxR.no at h1 ⊢;have hk := ckF_len (l.drop s.at_);rw [List.length_drop] at hk
    (repeat' split) <;> simp <;> (try omega)
    all_goals
     have := hk (by simp_all)
     omega
  rename_i h1;have h1 : (nextF l packed size s).e = 0 := by omega
  obtain ⟨k1, k2, k3, k4, k5, k6⟩ := nextF_ok l packed size s h h1;split
  · unfold nextF nextC NxR.no;have hk := ckF_len (l.drop s.at_) k6;rw [List.length_drop] at hk
    (repeat' split) <;> simp <;> (try omega)
  · have := ih (nextF l packed size s).s ‹_› k3;omega
theorem rowGo_take (l : List UInt8) (packed size : Int) (dict : Nat) : ∀ (f : Nat) (s : RwS) (st : Lst) (f' j : Nat), s.at_ ≤ l.length → s.at_ ≤ j → f ≤ f' ∨ j < f' + s.at_ → (rowGo l packed size dict f s st).e = 0 →
 ((rowGo l packed size dict f s st).n ≤ j → rowGo (l.take j) packed size dict f' s st = rowGo l packed size dict f s st) ∧ (j < (rowGo l packed size dict f s st).n → (rowGo (l.take j) packed size dict f' s st).e = 1) := by
 intro f;induction f with
 | zero => intro s st f' j _ _ _ h; simp [rowGo] at h
 | succ f ih =>
  intro s st f' j hs hj hf he;obtain ⟨g, rfl⟩ : ∃ g, f' = g + 1 := ⟨f' - 1, by omega⟩
  unfold rowGo at he ⊢;by_cases c0 : s.ord = 3
  · rw [if_pos c0, if_pos c0];exact ⟨fun _ => rfl, fun h => by simp only [] at h; omega⟩
  rw [if_neg c0] at *;rw [if_neg c0];by_cases c1 : (nextF l packed size s).e ≠ 0
  · rw [if_pos c1] at he; exact absurd he c1
  rw [if_neg c1] at *;have c1' : (nextF l packed size s).e = 0 := by omega
  obtain ⟨k1, k2, k3, k4, k5, k6⟩ := nextF_ok l packed size s hs c1';obtain ⟨t1, t2⟩ := nextF_take l packed size s hs c1' j hj;cases hc : chunkF dict (nextF l packed size s).c ((l.drop (nextF l packed size s).fr).take (nextF l packed size s).c.p) st with
  | none => rw [hc] at he; simp at he
  | some st' =>
   rw [hc] at he;simp only [hc] at he ⊢;have hat := rowGo_at l packed size dict f (nextF l packed size s).s st' k3;by_cases c2 : (nextF l packed size s).s.at_ ≤ j
   · rw [t1 c2, if_neg c1];have hp : ((l.take j).drop (nextF l packed size s).fr).take (nextF l packed size s).c.p = (l.drop (nextF l packed size s).fr).take (nextF l packed size s).c.p := by
      rw [List.drop_take, List.take_take, Nat.min_eq_left (by omega)]
     rw [hp, hc];exact ih (nextF l packed size s).s st' g j k3 c2 (by omega) he
   · have h2 := t2 (by omega)
     rw [if_pos (by rw [h2]; decide)]
     exact ⟨fun h => by omega, fun _ => h2⟩
theorem rowF_err (l : List UInt8) (dict : Nat) (packed size : Int) : (rowF l dict packed size).e ≤ 2 ∧ ((rowF l dict packed size).e ≠ 0 → (rowF l dict packed size).out = []) := rowGo_err _ _ _ _ _ _ _
theorem rowF_len (l : List UInt8) (dict : Nat) (packed size : Int) : (rowF l dict packed size).n ≤ l.length := (rowGo_at l packed size dict _ .start .start (Nat.zero_le _)).2
theorem rowF_take (l : List UInt8) (dict : Nat) (packed size : Int) (j : Nat) (he : (rowF l dict packed size).e = 0) :
 ((rowF l dict packed size).n ≤ j → rowF (l.take j) dict packed size = rowF l dict packed size) ∧ (j < (rowF l dict packed size).n → (rowF (l.take j) dict packed size).e = 1) := by
 by_cases hjl : l.length ≤ j
 · rw [List.take_of_length_le hjl];exact ⟨fun _ => rfl, fun h => by have := rowF_len l dict packed size; omega⟩
 have := rowGo_take l packed size dict (l.length + 1) .start .start (j + 1) j (Nat.zero_le _) (Nat.zero_le _) (.inr (by show j < j + 1 + 0; omega)) he
 have hl : (l.take j).length = j := by rw [List.length_take]; omega
 unfold rowF at *;rw [hl];exact this
structure VR where
 v : Nat
 n : Nat
 e : Nat
def viGo : List UInt8 → Nat → Nat → VR
 | [], _, _ => ⟨0, 0, 1⟩
 | c :: t, i, v =>
  if c.toNat < 128 then (if c.toNat = 0 ∧ 0 < i then ⟨0, 0, 2⟩ else ⟨v + c.toNat * 2 ^ (7 * i), i + 1, 0⟩)
  else if i = 8 then ⟨0, 0, 2⟩ else viGo t (i + 1) (v + c.toNat % 128 * 2 ^ (7 * i))
def viF (l : List UInt8) : VR := viGo l 0 0
theorem vor_add (k a b : Nat) (hb : b < 2 ^ k) : a * 2 ^ k ||| b = a * 2 ^ k + b := by
 rw [← Nat.shiftLeft_eq, Nat.shiftLeft_add_eq_or_of_lt hb]
theorem vu64_or (a b : Nat) (ha : a < 18446744073709551616) (hb : b < 18446744073709551616) : bits .or .u64 (a : Int) (b : Int) = ((a ||| b : Nat) : Int) := by
 show IntKind.u64.wrap ((BitVec.ofInt 64 (a : Int) ||| BitVec.ofInt 64 (b : Int)).toNat : Int) = _
 have h : (BitVec.ofInt 64 (a : Int) ||| BitVec.ofInt 64 (b : Int)).toNat = a ||| b := by
  rw [BitVec.toNat_or, BitVec.toNat_ofInt, BitVec.toNat_ofInt]
  congr 1 <;> omega
 rw [h];have : a ||| b < 2 ^ 64 := Nat.or_lt_two_pow ha hb
 show IntKind.u64.wrap _ = _;rw [IntKind.wrap_u64];omega
theorem vi_or {v c i : Nat} (hv : v < 2 ^ (7 * i)) (hc : c < 128) (hi : i ≤ 8) : v + c * 2 ^ (7 * i) < 2 ^ (7 * (i + 1)) ∧ bits .or .u64 (v : Int) (IntKind.u64.wrap ((c : Int) * 2 ^ (7 * i))) = ((v + c * 2 ^ (7 * i) : Nat) : Int) := by
 have hp : 2 ^ (7 * (i + 1)) = 128 * 2 ^ (7 * i) := by rw [show 7 * (i + 1) = 7 * i + 7 by omega, Nat.pow_add]; omega
 have hq : 2 ^ (7 * i) ≤ 2 ^ 56 := Nat.pow_le_pow_right (by decide) (by omega)
 obtain ⟨p, hpp⟩ : ∃ p, 2 ^ (7 * i) = p := ⟨_, rfl⟩;have hpi : (2 : Int) ^ (7 * i) = (p : Int) := by rw [← hpp]; simp
 rw [hpi, IntKind.wrap_u64];have hm : c * p ≤ 127 * p := Nat.mul_le_mul_right _ (by omega)
 have hcp : (c : Int) * (p : Int) = ((c * p : Nat) : Int) := by simp
 rw [hcp];have h56 : (2 : Nat) ^ 56 = 72057594037927936 := by decide
 rw [hpp] at hv hp hq;rw [h56] at hq;have e2 : ((c * p : Nat) : Int) % 18446744073709551616 = ((c * p : Nat) : Int) := Int.emod_eq_of_lt (by omega) (by omega)
 refine ⟨by rw [hpp, hp]; omega, ?_⟩
 rw [e2, vu64_or v (c * p) (by omega) (by omega), hpp]
 congr 1
 rw [← hpp] at hv ⊢;rw [Nat.or_comm, vor_add _ _ _ hv];omega
theorem vi_low (z : Nat) (h : z < 256) (h2 : ¬ z < 128) : bits .andNot .u8 (z : Int) 128 = ((z % 128 : Nat) : Int) := by
 have : ∀ k : Fin 256, 128 ≤ k.val → bits .andNot .u8 (k.val : Int) 128 = ((k.val % 128 : Nat) : Int) := by decide +kernel
 exact this ⟨z, h⟩ (by show 128 ≤ z; omega)
theorem vGet_any (A : Option Addr) (n c : Nat) (l : List UInt8) (w : World) (hI : In w A n l) :
 Calls Tryz.prog 91 #[.slice A n c] w fun e w' => e = .returned (.tuple #[.int .u64 (viF l).v, .int .i64 (viF l).n, .int .i64 (viF l).e]) ∧ w' = w := by
 have hn := hI.2.2;have HI := Lib.hid hI;have HL := Lib.hid hI.len;obtain ⟨r, hr⟩ : ∃ r, viF l = r := ⟨_, rfl⟩;rw [hr];have H0 := Lib.hid (show viGo (l.drop 0) 0 0 = r from hr)
 clear hI hr;go_enter Tryz.func91, Tryz.ntmps91;go_wp2_with fail
 go_loopw [5, 10] (fun s5 s10 wr => ∃ (i v : Nat), s5 = .int .u64 (v : Int) ∧ s10 = .int .i64 (i : Int) ∧ i ≤ n ∧ i ≤ 8 ∧ Hid (v < 2 ^ (7 * i)) ∧ Hid (viGo (l.drop i) i v = r) ∧ wr = w) (fun _ s10 _ => n - (intOf s10).toNat)
 case atStart => exact ⟨0, 0, rfl, rfl, Nat.zero_le _, by omega, Lib.hid (by decide), H0, rfl⟩
 case round =>
  clear H0;obtain ⟨i, v, rfl, rfl, hi, hi8, HV, HR, rfl⟩ := hrel;by_cases hlt : i < n
  · have hlt' : (i : Int) < (n : Int) := by omega
    obtain ⟨ab, ao, rfl, hcell⟩ := HI.out.1.cells_at (by omega)
    obtain ⟨z, hz⟩ : ∃ z, l[i]? = some z := ⟨_, List.getElem?_eq_getElem (by have := HL.out; omega)⟩
    have c0 := hcell i z hz;have hz255 : z.toNat ≤ 255 := by have := z.toNat_lt; omega
    have HR2 := Lib.hid (by
     have h1 := HR.out;have hil : i < l.length := by have := HL.out; omega
     rw [List.drop_eq_getElem_cons hil] at h1;have hzz : l[i] = z := by rw [List.getElem?_eq_getElem hil] at hz; injection hz
     rw [hzz, viGo] at h1;exact h1)
    obtain ⟨k, hk⟩ : ∃ k, z.toNat = k := ⟨_, rfl⟩;rw [hk] at c0 hz255 HR2;clear hcell hz hk HR;by_cases h128 : k < 128
    · have h128' : (k : Int) < 128 := by omega
      by_cases h0 : k = 0 ∧ 0 < i
      · have HR3 := Lib.hid (by have := HR2.out; rw [if_pos h128, if_pos h0] at this; exact this)
        obtain ⟨rfl, hi0⟩ := h0;have hi0' : (0 : Int) < (i : Int) := by omega
        clear HR2;go_wp2_with fail
        go_ret3
        exact ⟨by rw [← HR3.out]; rfl, rfl⟩
      · have HR3 := Lib.hid (by have := HR2.out; rw [if_pos h128, if_neg h0] at this; exact this)
        have HO := Lib.hid (vi_or HV.out (show k < 128 from h128) hi8).2
        obtain ⟨o, ho⟩ : ∃ o, v + k * 2 ^ (7 * i) = o := ⟨_, rfl⟩;rw [ho] at HO HR3;clear HR2 ho;by_cases hk0 : k = 0
        · subst hk0;have HO2 := Lib.hid (show bits .or .u64 (v : Int) 0 = (o : Int) by
           have := HO.out;rw [show ((0 : Nat) : Int) * 2 ^ (7 * i) = 0 by simp] at this
           exact this)
          have hd1 : decide ((0 : Int) < (i : Int)) = false := decide_eq_false (by omega)
          have hd2 : decide (0 < i) = false := decide_eq_false (by omega)
          clear h0;go_wp2_with fail
          go_ret3
          exact ⟨by rw [← HR3.out, ← HO2.out]; rfl, rfl⟩
        · have hk1 : ((k : Int) == 0) = false := beq_eq_false_iff_ne.2 (by omega)
          have hk2 : (k == 0) = false := beq_eq_false_iff_ne.2 hk0;clear h0 hk0;go_wp2_with fail
          go_ret3
          exact ⟨by rw [← HR3.out, ← HO.out]; rfl, rfl⟩
    · have h128' : ¬ (k : Int) < 128 := by omega
      by_cases h8 : i = 8
      · have HR3 := Lib.hid (by have := HR2.out; rw [if_neg h128, if_pos h8] at this; exact this)
        subst h8;clear HR2;go_wp2_with fail
        go_ret3
        exact ⟨by rw [← HR3.out]; rfl, rfl⟩
      · have HR3 := Lib.hid (by have := HR2.out; rw [if_neg h128, if_neg h8] at this; exact this)
        have h81 : ((i : Int) == 8) = false := beq_eq_false_iff_ne.2 (by omega)
        have h82 : (i == 8) = false := beq_eq_false_iff_ne.2 h8;have hvl := vi_low k (by omega) h128
        obtain ⟨m, hm⟩ : ∃ m, k % 128 = m := ⟨_, rfl⟩;have hm7 : m < 128 := by omega
        have hi7 : i + 1 ≤ 8 := by omega
        rw [hm] at hvl HR3;have HO := Lib.hid (vi_or HV.out hm7 hi8);have HHV := Lib.hid HO.out.1;clear HR2 hm h8;go_wp2_with fail
        go_roundw
        case rel => exact ⟨i + 1, v + m * 2 ^ (7 * i), by rw [← HO.out.2], by go_num, by omega, by omega, HHV, by rw [← List.drop_drop] at *; exact HR3, trivial⟩
        case measure => simp [intOf]; omega
  · obtain rfl : i = n := by omega
    have hlt' : ¬ (i : Int) < (i : Int) := by omega
    have HR3 := Lib.hid (by have := HR.out; rw [List.drop_eq_nil_of_le (by have := HL.out; omega), viGo] at this; exact this)
    clear HR;go_wp2_with fail
    go_ret3
    exact ⟨by rw [← HR3.out]; rfl, rfl⟩
theorem xor32 (a b : Nat) (ha : a < 4294967296) (hb : b < 4294967296) : bits .xor .u32 (a : Int) (b : Int) = ((a ^^^ b : Nat) : Int) ∧ a ^^^ b < 4294967296 := by
 have hlt : a ^^^ b < 2 ^ 32 := Nat.xor_lt_two_pow ha hb;refine ⟨?_, hlt⟩;show IntKind.u32.wrap ((BitVec.ofInt 32 (a : Int) ^^^ BitVec.ofInt 32 (b : Int)).toNat : Int) = _;have h : (BitVec.ofInt 32 (a : Int) ^^^ BitVec.ofInt 32 (b : Int)).toNat = a ^^^ b := by
  rw [BitVec.toNat_xor, BitVec.toNat_ofInt, BitVec.toNat_ofInt]
  congr 1 <;> omega
 rw [h, IntKind.wrap_u32];omega
theorem and15_32 (a : Nat) (ha : a < 4294967296) : bits .and .u32 (a : Int) 15 = ((a % 16 : Nat) : Int) := by
 show IntKind.u32.wrap ((BitVec.ofInt 32 (a : Int) &&& BitVec.ofInt 32 15).toNat : Int) = _;have h2 : (BitVec.ofInt 32 (a : Int) &&& BitVec.ofInt 32 15).toNat = a % 16 := by
  rw [BitVec.toNat_and, show (BitVec.ofInt 32 15).toNat = 2 ^ 4 - 1 from rfl, Nat.and_two_pow_sub_one_eq_mod, BitVec.toNat_ofInt]
  omega
 rw [h2, IntKind.wrap_u32];omega
def t32 : List Nat := [0x00000000, 0x1DB71064, 0x3B6E20C8, 0x26D930AC, 0x76DC4190, 0x6B6B51F4, 0x4DB26158, 0x5005713C, 0xEDB88320, 0xF00F9344, 0xD6D6A3E8, 0xCB61B38C, 0x9B64C2B0, 0x86D3D2D4, 0xA00AE278, 0xBDBDF21C]
def half32 (s : Nat) : Nat := t32.getD (s % 16) 0 ^^^ (s / 16)
def byte32 (s : Nat) (c : UInt8) : Nat := half32 (half32 (s ^^^ c.toNat))
def put32 (s : Nat) (l : List UInt8) : Nat := l.foldl byte32 s
def crc32 (l : List UInt8) : Nat := 4294967295 - put32 4294967295 l
theorem t32_lt (i : Nat) : t32.getD i 0 < 4294967296 := by
 by_cases h : i < 16
 · exact (by decide +kernel : ∀ j : Fin 16, t32.getD j.val 0 < 4294967296) ⟨i, h⟩
 · rw [List.getD, List.getElem?_eq_none (by show 16 ≤ i; omega)]; decide
theorem half32_lt {s : Nat} (h : s < 4294967296) : half32 s < 4294967296 := (xor32 _ _ (t32_lt _) (by omega)).2
theorem byte32_lt {s : Nat} (h : s < 4294967296) (c : UInt8) : byte32 s c < 4294967296 := half32_lt (half32_lt (xor32 _ _ h (by have := c.toNat_lt; omega)).2)
theorem put32_lt {s : Nat} (h : s < 4294967296) (l : List UInt8) : put32 s l < 4294967296 := by
 induction l generalizing s with
 | nil => exact h
 | cons c t ih => exact ih (byte32_lt h c)
theorem put32_snoc (s : Nat) (l : List UInt8) (c : UInt8) : put32 s (l ++ [c]) = byte32 (put32 s l) c := by simp [put32]
def LaidC (w : World) : Prop := 9 < w.heap.size ∧ ∀ i : Nat, i < 16 → w.cell? ⟨9, i, none⟩ = some (.int .u32 (t32.getD i 0 : Nat))
theorem LaidC.below {w w' : World} (h : LaidC w) (hb : Below w.heap.size w w') : LaidC w' := ⟨Nat.lt_of_lt_of_le h.1 hb.size, fun i hi => (hb.cell (p := ⟨9, i, none⟩) h.1).trans (h.2 i hi)⟩
theorem put32_any (s : Nat) (A : Option Addr) (n c : Nat) (l : List UInt8) (w : World) (hI : In w A n l) (hl : LaidC w) (hs : s < 4294967296) :
 Calls Tryz.prog 111 #[.pointer (some ⟨9, 0, none⟩), .int .u32 s, .slice A n c] w fun e w' => e = .returned (.int .u32 (put32 s l)) ∧ w' = w := by
 have hn := hI.2.2;have HI := Lib.hid hI;have HL := Lib.hid hI.len;have HT := Lib.hid hl.2;clear hI hl;go_enter Tryz.func111, Tryz.ntmps111;go_wp2_with fail
 go_loopw [1, 11] (fun s1 s11 wr => ∃ (i v : Nat), s1 = .int .u32 (v : Int) ∧ s11 = .int .i64 (i : Int) ∧ i ≤ n ∧ v < 4294967296 ∧ Hid (put32 s (l.take i) = v) ∧ wr = w) (fun _ s11 _ => n - (intOf s11).toNat)
 case atStart => exact ⟨0, s, rfl, rfl, Nat.zero_le _, hs, Lib.hid rfl, rfl⟩
 case round =>
  obtain ⟨i, v, rfl, rfl, hi, hv, HR, rfl⟩ := hrel;by_cases hlt : i < n
  · have hlt' : (i : Int) < (n : Int) := by omega
    obtain ⟨ab, ao, rfl, hcell⟩ := HI.out.1.cells_at (by omega)
    obtain ⟨z, hz⟩ : ∃ z, l[i]? = some z := ⟨_, List.getElem?_eq_getElem (by have := HL.out; omega)⟩
    have c0 := hcell i z hz;have hz255 : z.toNat ≤ 255 := by have := z.toNat_lt; omega
    have HB := Lib.hid (show put32 s (l.take (i + 1)) = half32 (half32 (v ^^^ z.toNat)) by
     rw [List.take_add_one, hz, Option.toList, put32_snoc, HR.out]; rfl)
    obtain ⟨k, hk⟩ : ∃ k, z.toNat = k := ⟨_, rfl⟩;rw [hk] at c0 hz255 HB;obtain ⟨x1, y1⟩ := xor32 v k hv (by omega)
    obtain ⟨a, ha⟩ : ∃ a, v ^^^ k = a := ⟨_, rfl⟩;rw [ha] at x1 y1 HB;have z1 := and15_32 a y1;have hm1 : a % 16 < 16 := by omega
    have cA := HT.out (a % 16) hm1;have hT1 := t32_lt (a % 16);obtain ⟨x2, y2⟩ := xor32 (t32.getD (a % 16) 0) (a / 16) hT1 (by omega)
    have HB2 := Lib.hid (show put32 s (l.take (i + 1)) = half32 (t32.getD (a % 16) 0 ^^^ (a / 16)) from HB.out)
    obtain ⟨q1, hq1⟩ : ∃ q, t32.getD (a % 16) 0 = q := ⟨_, rfl⟩;obtain ⟨p1, hp1⟩ : ∃ q, a % 16 = q := ⟨_, rfl⟩;rw [hq1] at x2 y2 HB2 cA;rw [hp1] at z1 hm1 cA;obtain ⟨b, hb⟩ : ∃ b, q1 ^^^ (a / 16) = b := ⟨_, rfl⟩;rw [hb] at x2 y2 HB2;have z2 := and15_32 b y2;have hm2 : b % 16 < 16 := by omega
    have cB := HT.out (b % 16) hm2;have hT2 := t32_lt (b % 16);obtain ⟨x3, y3⟩ := xor32 (t32.getD (b % 16) 0) (b / 16) hT2 (by omega)
    have HB3 := Lib.hid (show put32 s (l.take (i + 1)) = t32.getD (b % 16) 0 ^^^ (b / 16) from HB2.out)
    obtain ⟨q2, hq2⟩ : ∃ q, t32.getD (b % 16) 0 = q := ⟨_, rfl⟩;obtain ⟨p2, hp2⟩ : ∃ q, b % 16 = q := ⟨_, rfl⟩;rw [hq2] at x3 y3 HB3 cB;rw [hp2] at z2 hm2 cB;obtain ⟨d, hd⟩ : ∃ b', q2 ^^^ (b / 16) = b' := ⟨_, rfl⟩;rw [hd] at x3 y3 HB3;rw [show ((a / 16 : Nat) : Int) = (a : Int) / 16 by omega] at x2
    rw [show ((b / 16 : Nat) : Int) = (b : Int) / 16 by omega] at x3
    clear hcell hz hk HB HB2 ha hq1 hp1 hb hq2 hp2 hd hT1 hT2;go_wp2_with fail
    go_roundw
    case rel => exact ⟨i + 1, d, rfl, by go_num, by omega, y3, HB3, trivial⟩
    case measure => simp [intOf]; omega
  · obtain rfl : i = n := by omega
    have hlt' : ¬ (i : Int) < (i : Int) := by omega
    have HR3 := Lib.hid (by have := HR.out; rw [List.take_of_length_le (by have := HL.out; omega)] at this; exact this)
    clear HR;go_wp2_with fail;go_ret;exact ⟨by rw [HR3.out]; rfl, rfl⟩
theorem xor_ones (a : Nat) (ha : a < 4294967296) : 4294967295 ^^^ a = 4294967295 - a := by
 have h : (BitVec.allOnes 32 ^^^ BitVec.ofNat 32 a).toNat = (~~~ BitVec.ofNat 32 a).toNat := by rw [BitVec.allOnes_xor]
 rw [BitVec.toNat_xor, BitVec.toNat_not, BitVec.toNat_allOnes, BitVec.toNat_ofNat, Nat.mod_eq_of_lt (by omega)] at h
 exact h
theorem not32 (a : Nat) (ha : a < 4294967296) : bits .xor .u32 IntKind.u32.max (a : Int) = ((4294967295 - a : Nat) : Int) := by
 rw [← xor_ones a ha];exact (xor32 4294967295 a (by decide) ha).1
theorem more32_any (s : Nat) (A : Option Addr) (n c : Nat) (l : List UInt8) (w : World) (hI : In w A n l) (hl : LaidC w) (hs : s < 4294967296) :
 Calls Tryz.prog 84 #[.pointer (some ⟨9, 0, none⟩), .int .u32 s, .slice A n c] w fun e w' => e = .returned (.int .u32 ((4294967295 - put32 (4294967295 - s) l : Nat) : Int)) ∧ w' = w := by
 have HP := Lib.hid (put32_any (4294967295 - s) A n c l w hI hl (by omega))
 have h1 := not32 s hs;have hp := put32_lt (show 4294967295 - s < 4294967296 by omega) l
 obtain ⟨t, ht⟩ : ∃ t, 4294967295 - s = t := ⟨_, rfl⟩;rw [ht] at HP h1 hp ⊢;have h2 := not32 _ hp;obtain ⟨p, hpp⟩ : ∃ q, put32 t l = q := ⟨_, rfl⟩;rw [hpp] at HP h2 hp ⊢;clear ht hpp hI hl;go_enter Tryz.func84, Tryz.ntmps84;go_wp2_with fail;refine HP.out.mono ?_;rintro e w1 ⟨rfl, rfl⟩;go_wp2_with fail;go_ret;exact ⟨rfl, rfl⟩
theorem crc32_lt (l : List UInt8) : crc32 l < 4294967296 := by unfold crc32; omega
theorem More32_any (A : Option Addr) (n c : Nat) (l : List UInt8) (w : World) (hI : In w A n l) (hl : LaidC w) :
 Calls Tryz.prog 285 #[.int .u32 0, .slice A n c] w fun e w' => e = .returned (.int .u32 (crc32 l)) ∧ w' = w := by
 have HP := Lib.hid (show Calls Tryz.prog 84 #[.pointer (some ⟨9, 0, none⟩), .int .u32 0, .slice A n c] w fun e w' => e = .returned (.int .u32 (crc32 l)) ∧ w' = w from more32_any 0 A n c l w hI hl (by decide))
 obtain ⟨p, hpp⟩ : ∃ q, crc32 l = q := ⟨_, rfl⟩;rw [hpp] at HP ⊢;clear hpp hI hl;go_enter Tryz.func285, Tryz.ntmps285;go_wp2_with fail;refine HP.out.mono ?_;rintro e w1 ⟨rfl, rfl⟩;go_wp2_with fail;go_ret;exact ⟨rfl, rfl⟩
theorem Sum32_any (g c0 : Nat) (A : Option Addr) (n c : Nat) (l : List UInt8) (w : World) (hg : w.cell? ⟨g, 0, none⟩ = some (.slice A n c)) (hI : In w A n l) (hl : LaidC w) :
 Calls Tryz.prog 43 #[.slice (some ⟨g, 0, none⟩) 1 c0] w fun e w' => e = .returned (.int .u32 (crc32 l)) ∧ w' = w := by
 have HP := Lib.hid (show Calls Tryz.prog 84 #[.pointer (some ⟨9, 0, none⟩), .int .u32 0, .slice A n c] w fun e w' => e = .returned (.int .u32 (crc32 l)) ∧ w' = w from more32_any 0 A n c l w hI hl (by decide))
 obtain ⟨p, hpp⟩ : ∃ q, crc32 l = q := ⟨_, rfl⟩;rw [hpp] at HP ⊢;clear hpp hI hl;have HS : Calls Tryz.prog 65 #[.pointer (some ⟨9, 0, none⟩), .slice (some ⟨g, 0, none⟩) 1 c0] w fun e w' => e = .returned (.int .u32 (p : Int)) ∧ w' = w := by
  go_enter Tryz.func65, Tryz.ntmps65;go_wp2_with fail;refine wp_loop_rounds 2 ?_;rw [rounds_succ];go_wp2_with fail;refine HP.out.mono ?_;rintro e w1 ⟨rfl, rfl⟩;go_wp2_with fail;rw [rounds_succ];go_wp2_with fail;go_ret;exact ⟨rfl, rfl⟩
 have HS := Lib.hid HS;clear HP hg;go_enter Tryz.func43, Tryz.ntmps43;go_wp2_with fail;refine HS.out.mono ?_;rintro e w1 ⟨rfl, rfl⟩;go_wp2_with fail;go_ret;exact ⟨rfl, rfl⟩
end Go.Proofs.YtcjehjdehdoaeaaGreatDoor
