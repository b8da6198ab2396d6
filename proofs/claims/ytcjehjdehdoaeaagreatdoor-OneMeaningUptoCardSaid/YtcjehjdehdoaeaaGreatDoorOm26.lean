/-
  Laws on the way to the claim (OrB OrC). Conditions: those that each theorem states.
-/
import Derived.Test.YtcjehjdehdoaeaaGreatDoorOm20
import Derived.Test.YtcjehjdehdoaeaaGreatDoorOm25
set_option linter.unusedVariables false
set_option linter.unusedSimpArgs false
set_option maxRecDepth 1000000
set_option maxHeartbeats 16000000
namespace Go.Proofs.YtcjehjdehdoaeaaGreatDoor
open Go.RowKit
structure Sums where
 c32 : List UInt8 → Nat
 sum : Nat → List UInt8 → List UInt8
 dl : Nat → List UInt8 → List UInt8
structure FR where
 id : Nat
 ps : List UInt8
 n : Nat
 e : Nat
def fiF (b : List UInt8) : FR :=
 if (viF b).e ≠ 0 then ⟨0, [], 0, (viF b).e⟩
 else if (viF (b.drop (viF b).n)).e ≠ 0 then ⟨0, [], 0, (viF (b.drop (viF b).n)).e⟩
 else if b.length - ((viF b).n + (viF (b.drop (viF b).n)).n) < (viF (b.drop (viF b).n)).v then ⟨0, [], 0, 1⟩
 else ⟨(viF b).v, (b.drop ((viF b).n + (viF (b.drop (viF b).n)).n)).take (viF (b.drop (viF b).n)).v, (viF b).n + (viF (b.drop (viF b).n)).n + (viF (b.drop (viF b).n)).v, 0⟩
structure Pl where
 dist : Nat
 dict : Nat
def planF (p : Pl) (f : Nat × List UInt8) : Option Pl :=
 if p.dict = 0 ∧ f.2.length = 1 then
  if f.1 = 3 then (if p.dist = 0 then some ⟨(f.2.getD 0 0).toNat + 1, 0⟩ else none)
  else if f.1 = 33 then (if (f.2.getD 0 0).toNat ≤ 40 then some ⟨p.dist, dictN (f.2.getD 0 0).toNat⟩ else none)
  else none
 else none
def plansF : List (Nat × List UInt8) → Pl → Option Pl
 | [], p => some p
 | f :: t, p => match planF p f with
  | none => none
  | some q => plansF t q
def readF (l : List (Nat × List UInt8)) : Option Pl :=
 match plansF l ⟨0, 0⟩ with
 | none => none
 | some p => if p.dict = 0 then none else some p
structure HR where
 e : Nat
 packed : Int
 size : Int
 fl : List (Nat × List UInt8)
 p : Pl
def HR.no (e : Nat) : HR := ⟨e, 0, 0, [], ⟨0, 0⟩⟩
def filsF : Nat → List UInt8 → Option (List (Nat × List UInt8) × List UInt8)
 | 0, r => some ([], r)
 | k + 1, r =>
  if (fiF r).e ≠ 0 then none
  else match filsF k (r.drop (fiF r).n) with
   | none => none
   | some (l, t) => some (((fiF r).id, (fiF r).ps) :: l, t)
def hdEnd (packed size : Int) (fl : List (Nat × List UInt8)) (r : List UInt8) : HR :=
 if r.all (fun z => z == 0) = false then .no 4
 else match readF fl with
  | none => .no 4
  | some p => ⟨0, packed, size, fl, p⟩
def hdFils (flags : Nat) (packed size : Int) (r : List UInt8) : HR :=
 match filsF (flags % 8 + 1) r with
 | none => .no 2
 | some (fl, t) => hdEnd packed size fl t
def hdSize (flags : Nat) (packed : Int) (r : List UInt8) : HR :=
 if 128 ≤ flags then (if (viF r).e ≠ 0 then .no 2 else hdFils flags packed (viF r).v (r.drop (viF r).n)) else hdFils flags packed (-1) r
def hdPacked (flags : Nat) (r : List UInt8) : HR :=
 if 64 ≤ flags % 128 then (if (viF r).e ≠ 0 then .no 2 else if (viF r).v = 0 then .no 2 else hdSize flags (viF r).v (r.drop (viF r).n)) else hdSize flags (-1) r
def headF (S : Sums) (b : List UInt8) : HR :=
 if (lowGo b (b.length - 4) 4).toNat % 4294967296 ≠ S.c32 (b.take (b.length - 4)) then .no 3
 else if (b.getD 1 0).toNat / 4 % 16 ≠ 0 then .no 4
 else hdPacked (b.getD 1 0).toNat ((b.take (b.length - 4)).drop 2)
structure BR where
 data : List UInt8
 unp : Nat
 n : Nat
 e : Nat
def BR.no (n e : Nat) : BR := ⟨[], 0, n, e⟩
def blockS (S : Sums) (b : List UInt8) (kind : Nat) (data : List UInt8) (at_ pt : Nat) : BR :=
 if b.length - pt < ckSize kind then .no pt 1
 else if sameE (S.sum kind data) ((b.drop pt).take (ckSize kind)) ≠ 0 then .no pt (sameE (S.sum kind data) ((b.drop pt).take (ckSize kind)))
 else ⟨data, at_ + ckSize kind, pt + ckSize kind, 0⟩
def zerosF (b : List UInt8) (at_ n : Nat) : Nat := if b.length - at_ < n then 1 else if ((b.drop at_).take n).all (fun z => z == 0) then 0 else 2
def blockT (S : Sums) (b : List UInt8) (kind : Nat) (data : List UInt8) (at_ : Nat) : BR :=
 if zerosF b at_ (padI at_) ≠ 0 then .no at_ (zerosF b at_ (padI at_))
 else blockS S b kind data at_ (at_ + padI at_)
def dataF (S : Sums) (b : List UInt8) (p : Pl) (packed size : Int) : RowR :=
 if (rowF b p.dict packed size).e ≠ 0 ∨ p.dist = 0 then rowF b p.dict packed size
 else ⟨(rowF b p.dict packed size).n, 0, S.dl p.dist (rowF b p.dict packed size).out⟩
def blockD (S : Sums) (b : List UInt8) (kind : Nat) (n : Nat) (h : HR) : BR :=
 if (dataF S (b.drop n) h.p h.packed h.size).e ≠ 0 then .no (n + (dataF S (b.drop n) h.p h.packed h.size).n) (dataF S (b.drop n) h.p h.packed h.size).e
 else blockT S b kind (dataF S (b.drop n) h.p h.packed h.size).out (n + (dataF S (b.drop n) h.p h.packed h.size).n)
def hdLen (b : List UInt8) : Nat := 4 * ((b.getD 0 0).toNat + 1)
def blockF (S : Sums) (b : List UInt8) (kind : Nat) (mem : Int) : BR :=
 if b.length < hdLen b then .no 0 1
 else if (headF S (b.take (hdLen b))).e ≠ 0 then .no 0 (headF S (b.take (hdLen b))).e
 else if mem < ((headF S (b.take (hdLen b))).p.dict : Int) then .no 0 5
 else blockD S b kind (hdLen b) (headF S (b.take (hdLen b)))
def magic : List UInt8 := [253, 55, 122, 88, 90, 0]
structure KR where
 e : Nat
 kind : Nat
 size : Nat
def frontF (S : Sums) (b : List UInt8) : KR :=
 if b.take 6 ≠ magic then ⟨2, 0, 0⟩
 else if (b.drop 8).take 4 ≠ leN 4 (S.c32 ((b.drop 6).take 2)) then ⟨3, 0, 0⟩
 else if (b.getD 6 0).toNat ≠ 0 ∨ ¬ kindOk (b.getD 7 0).toNat then ⟨4, 0, 0⟩
 else ⟨0, (b.getD 7 0).toNat, 0⟩
def backF (S : Sums) (b : List UInt8) : KR :=
 if (b.drop 10).take 2 ≠ [89, 90] then ⟨2, 0, 0⟩
 else if b.take 4 ≠ leN 4 (S.c32 ((b.drop 4).take 6)) then ⟨3, 0, 0⟩
 else if (b.getD 8 0).toNat ≠ 0 ∨ ¬ kindOk (b.getD 9 0).toNat then ⟨2, 0, 0⟩
 else ⟨0, (b.getD 9 0).toNat, 4 * ((lowGo b 4 4).toNat + 1)⟩
structure Fs where
 at_ : Nat
 data : List UInt8
 recs : List (Nat × Nat)
 e : Nat
def blocksGo (S : Sums) (f : List UInt8) (kind : Nat) (mem : Int) : Nat → Nat → List UInt8 → List (Nat × Nat) → Fs
 | 0, at_, d, l => ⟨at_, d, l, 2⟩
 | k + 1, at_, d, l =>
  if at_ = f.length then ⟨at_, d, l, 1⟩
  else if (f.getD at_ 0).toNat = 0 then ⟨at_, d, l, 0⟩
  else if (blockF S (f.drop at_) kind mem).e ≠ 0 then ⟨at_, d, l, (blockF S (f.drop at_) kind mem).e⟩
  else blocksGo S f kind mem k (at_ + (blockF S (f.drop at_) kind mem).n) (d ++ (blockF S (f.drop at_) kind mem).data) (l ++ [((blockF S (f.drop at_) kind mem).unp, (blockF S (f.drop at_) kind mem).data.length)])
structure Nx where
 at_ : Nat
 e : Nat
def numF (f : List UInt8) (at_ want : Nat) : Nx :=
 if (viF (f.drop at_)).e ≠ 0 then ⟨at_, (viF (f.drop at_)).e⟩ else if (viF (f.drop at_)).v ≠ want then ⟨at_, 2⟩ else ⟨at_ + (viF (f.drop at_)).n, 0⟩
def recsF (f : List UInt8) : List (Nat × Nat) → Nat → Nx
 | [], at_ => ⟨at_, 0⟩
 | p :: t, at_ =>
  if (numF f at_ p.1).e ≠ 0 then numF f at_ p.1
  else if (numF f (numF f at_ p.1).at_ p.2).e ≠ 0 then numF f (numF f at_ p.1).at_ p.2
  else recsF f t (numF f (numF f at_ p.1).at_ p.2).at_
def footF (S : Sums) (f : List UInt8) (kind at_ size : Nat) : Nat :=
 if f.length - at_ < 12 then 1
 else if (backF S ((f.drop at_).take 12)).e ≠ 0 then (backF S ((f.drop at_).take 12)).e
 else if (backF S ((f.drop at_).take 12)).kind ≠ kind ∨ (backF S ((f.drop at_).take 12)).size ≠ size then 2
 else if at_ + 12 < f.length then 2 else 0
def sumF (S : Sums) (f : List UInt8) (kind from_ at_ : Nat) : Nat :=
 if f.length - at_ < 4 then 1
 else if (lowGo f at_ 4).toNat % 4294967296 ≠ S.c32 ((f.drop from_).take (at_ - from_)) then 3
 else footF S f kind (at_ + 4) (at_ + 4 - from_)
def padF (S : Sums) (f : List UInt8) (kind from_ at_ : Nat) : Nat :=
 if zerosF f at_ (padI (at_ - from_)) ≠ 0 then zerosF f at_ (padI (at_ - from_)) else sumF S f kind from_ (at_ + padI (at_ - from_))
def indexF (S : Sums) (f : List UInt8) (kind at_ : Nat) (l : List (Nat × Nat)) : Nat :=
 if (numF f (at_ + 1) l.length).e ≠ 0 then (numF f (at_ + 1) l.length).e
 else if (recsF f l (numF f (at_ + 1) l.length).at_).e ≠ 0 then (recsF f l (numF f (at_ + 1) l.length).at_).e
 else padF S f kind at_ (recsF f l (numF f (at_ + 1) l.length).at_).at_
structure DR where
 e : Nat
 data : List UInt8
def decB (S : Sums) (f : List UInt8) (kind : Nat) (r : Fs) : DR :=
 if r.e ≠ 0 then ⟨r.e, []⟩
 else if indexF S f kind r.at_ r.recs ≠ 0 then ⟨indexF S f kind r.at_ r.recs, []⟩
 else ⟨0, r.data⟩
def decF (S : Sums) (f : List UInt8) (mem : Int) : DR :=
 if f.length < 12 then ⟨1, []⟩
 else if (frontF S (f.take 12)).e ≠ 0 then ⟨(frontF S (f.take 12)).e, []⟩
 else decB S f (frontF S (f.take 12)).kind (blocksGo S f (frontF S (f.take 12)).kind mem (f.length + 1) 12 [] [])
theorem viGo_err : ∀ (l : List UInt8) (i v : Nat), (viGo l i v).e ≤ 2 := by
 intro l;induction l with
 | nil => intro i v; simp [viGo]
 | cons c t ih =>
  intro i v;unfold viGo
  (repeat' split) <;> first | exact ih _ _ | simp
theorem viGo_take : ∀ (l : List UInt8) (i v j : Nat), (viGo l i v).e = 0 → i < (viGo l i v).n ∧ (viGo l i v).n ≤ i + l.length ∧ ((viGo l i v).n ≤ i + j → viGo (l.take j) i v = viGo l i v) ∧ (i + j < (viGo l i v).n → (viGo (l.take j) i v).e = 1) := by
 intro l;induction l with
 | nil => intro i v j h; simp [viGo] at h
 | cons c t ih =>
  intro i v j h;have key : i < (viGo (c :: t) i v).n ∧ (viGo (c :: t) i v).n ≤ i + (c :: t).length := by
   unfold viGo at h ⊢;have hc : (c :: t).length = t.length + 1 := rfl;by_cases c0 : c.toNat < 128
   · rw [if_pos c0] at *;by_cases c1 : c.toNat = 0 ∧ 0 < i
     · rw [if_pos c1] at h; simp at h
     · rw [if_neg c1, hc]; simp only []; omega
   · rw [if_neg c0] at *;by_cases c1 : i = 8
     · rw [if_pos c1] at h; simp at h
     · rw [if_neg c1] at *;have := ih (i + 1) _ 0 h;omega
  refine ⟨key.1, key.2, ?_⟩;cases j with
  | zero => exact ⟨fun h2 => by omega, fun _ => rfl⟩
  | succ j =>
   rw [List.take_succ_cons];unfold viGo at h ⊢;by_cases c0 : c.toNat < 128
   · rw [if_pos c0] at *;rw [if_pos c0];by_cases c1 : c.toNat = 0 ∧ 0 < i
     · rw [if_pos c1] at h; simp at h
     · rw [if_neg c1];exact ⟨fun _ => rfl, fun h2 => by simp only [] at h2; omega⟩
   · rw [if_neg c0] at *;rw [if_neg c0];by_cases c1 : i = 8
     · rw [if_pos c1] at h; simp at h
     · rw [if_neg c1] at *;rw [if_neg c1];have := ih (i + 1) _ j h;exact ⟨fun h2 => this.2.2.1 (by omega), fun h2 => this.2.2.2 (by omega)⟩
theorem viF_err (l : List UInt8) : (viF l).e ≤ 2 := viGo_err l 0 0
theorem viF_take (l : List UInt8) (j : Nat) (h : (viF l).e = 0) : 0 < (viF l).n ∧ (viF l).n ≤ l.length ∧ ((viF l).n ≤ j → viF (l.take j) = viF l) ∧ (j < (viF l).n → (viF (l.take j)).e = 1) := by
 have := viGo_take l 0 0 j h;simpa [viF] using this
theorem drop_take' (f : List UInt8) (j k : Nat) : (f.take j).drop k = (f.drop k).take (j - k) := by rw [List.drop_take]
theorem numF_err (f : List UInt8) (a v : Nat) : (numF f a v).e ≤ 2 := by
 have := viF_err (f.drop a);unfold numF
 (repeat' split) <;> simp_all
theorem numF_take (f : List UInt8) (a v j : Nat) (h : (numF f a v).e = 0) (ha : a ≤ f.length) (hj : a ≤ j) :
 a < (numF f a v).at_ ∧ (numF f a v).at_ ≤ f.length ∧ ((numF f a v).at_ ≤ j → numF (f.take j) a v = numF f a v) ∧ (j < (numF f a v).at_ → (numF (f.take j) a v).e = 1) := by
 unfold numF at h ⊢;by_cases c0 : (viF (f.drop a)).e ≠ 0
 · rw [if_pos c0] at h; exact absurd h c0
 rw [if_neg c0] at *;by_cases c1 : (viF (f.drop a)).v ≠ v
 · rw [if_pos c1] at h; simp at h
 rw [if_neg c1] at *;have ht := viF_take (f.drop a) (j - a) (by omega)
 rw [List.length_drop] at ht;rw [drop_take'];simp only [] at h ⊢;refine ⟨by omega, by omega, fun h2 => ?_, fun h2 => ?_⟩
 · rw [ht.2.2.1 (by omega), if_neg c0, if_neg c1]
 · have := ht.2.2.2 (by omega)
   rw [if_pos (by rw [this]; decide)]
   exact this
theorem recsF_err (f : List UInt8) : ∀ (l : List (Nat × Nat)) (a : Nat), (recsF f l a).e ≤ 2 := by
 intro l;induction l with
 | nil => intro a; simp [recsF]
 | cons p t ih =>
  intro a;unfold recsF;have h1 := numF_err f a p.1;have h2 := numF_err f (numF f a p.1).at_ p.2
  (repeat' split) <;> first | assumption | exact ih _
theorem recsF_take (f : List UInt8) (j : Nat) : ∀ (l : List (Nat × Nat)) (a : Nat), (recsF f l a).e = 0 → a ≤ f.length → a ≤ j →
 a ≤ (recsF f l a).at_ ∧ (recsF f l a).at_ ≤ f.length ∧ ((recsF f l a).at_ ≤ j → recsF (f.take j) l a = recsF f l a) ∧ (j < (recsF f l a).at_ → (recsF (f.take j) l a).e = 1) := by
 intro l;induction l with
 | nil => intro a _ h1 h2; exact ⟨Nat.le_refl _, h1, fun _ => rfl, fun h => by simp only [recsF] at h; omega⟩
 | cons p t ih =>
  intro a h h1 h2;unfold recsF at h ⊢;by_cases c0 : (numF f a p.1).e ≠ 0
  · rw [if_pos c0] at h; exact absurd h c0
  rw [if_neg c0] at *;by_cases c1 : (numF f (numF f a p.1).at_ p.2).e ≠ 0
  · rw [if_pos c1] at h; exact absurd h c1
  rw [if_neg c1] at *;have n1 := numF_take f a p.1 j (by omega) h1 h2
  by_cases d0 : (numF f a p.1).at_ ≤ j
  · have n2 := numF_take f (numF f a p.1).at_ p.2 j (by omega) n1.2.1 d0
    rw [n1.2.2.1 d0, if_neg c0];by_cases d1 : (numF f (numF f a p.1).at_ p.2).at_ ≤ j
    · have n3 := ih (numF f (numF f a p.1).at_ p.2).at_ h n2.2.1 d1;rw [n2.2.2.1 d1, if_neg c1];exact ⟨by omega, n3.2.1, n3.2.2.1, n3.2.2.2⟩
    · have n3 := ih (numF f (numF f a p.1).at_ p.2).at_ h n2.2.1;have e1 := n2.2.2.2 (by omega)
      rw [if_pos (by rw [e1]; decide)]
      have n4 : (numF f (numF f a p.1).at_ p.2).at_ ≤ (recsF f t (numF f (numF f a p.1).at_ p.2).at_).at_ ∧ (recsF f t (numF f (numF f a p.1).at_ p.2).at_).at_ ≤ f.length := rec_at f t _ h n2.2.1;exact ⟨by omega, n4.2, fun h3 => by omega, fun _ => e1⟩
  · have e1 := n1.2.2.2 (by omega)
    rw [if_pos (by rw [e1]; decide)]
    have n2 := numF_take f (numF f a p.1).at_ p.2 (numF f a p.1).at_ (by omega) n1.2.1 (Nat.le_refl _)
    have n4 := rec_at f t _ h n2.2.1;exact ⟨by omega, n4.2, fun h3 => by omega, fun _ => e1⟩
where
 rec_at (f : List UInt8) : ∀ (l : List (Nat × Nat)) (a : Nat), (recsF f l a).e = 0 → a ≤ f.length → a ≤ (recsF f l a).at_ ∧ (recsF f l a).at_ ≤ f.length := by
  intro l;induction l with
  | nil => intro a _ h1; exact ⟨Nat.le_refl _, h1⟩
  | cons p t ih =>
   intro a h h1;unfold recsF at h ⊢;by_cases c0 : (numF f a p.1).e ≠ 0
   · rw [if_pos c0] at h; exact absurd h c0
   rw [if_neg c0] at *;by_cases c1 : (numF f (numF f a p.1).at_ p.2).e ≠ 0
   · rw [if_pos c1] at h; exact absurd h c1
   rw [if_neg c1] at *;have n1 := numF_take f a p.1 a (by omega) h1 (Nat.le_refl _)
   have n2 := numF_take f (numF f a p.1).at_ p.2 (numF f a p.1).at_ (by omega) n1.2.1 (Nat.le_refl _)
   have n3 := ih _ h n2.2.1;omega
theorem zerosF_err (b : List UInt8) (a n : Nat) : zerosF b a n ≤ 2 := by
 unfold zerosF
 (repeat' split) <;> simp
theorem zerosF_take (b : List UInt8) (a n j : Nat) (h : zerosF b a n = 0) (ha : a ≤ b.length) (hj : a ≤ j) :
 a + n ≤ b.length ∧ (a + n ≤ j → zerosF (b.take j) a n = 0) ∧ (j < a + n → zerosF (b.take j) a n = 1) := by
 unfold zerosF at h ⊢;by_cases c0 : b.length - a < n
 · rw [if_pos c0] at h; simp at h
 rw [if_neg c0] at h;have hl : (b.take j).length = min j b.length := List.length_take;refine ⟨by omega, fun h2 => ?_, fun h2 => ?_⟩
 · rw [if_neg (by rw [hl]; omega), drop_take', List.take_take, Nat.min_eq_left (by omega)]
   exact h
 · rw [if_pos (by rw [hl]; omega)]
theorem sameE_le (a b : List UInt8) : sameE a b ≤ 3 := by
 unfold sameE
 (repeat' split) <;> simp
theorem blockS_take (S : Sums) (b : List UInt8) (kind : Nat) (data : List UInt8) (a pt j : Nat) (h : (blockS S b kind data a pt).e = 0) (hp : pt ≤ b.length) (hj : pt ≤ j) :
 pt ≤ (blockS S b kind data a pt).n ∧ (blockS S b kind data a pt).n ≤ b.length ∧ ((blockS S b kind data a pt).n ≤ j → blockS S (b.take j) kind data a pt = blockS S b kind data a pt) ∧ (j < (blockS S b kind data a pt).n → (blockS S (b.take j) kind data a pt).e = 1) := by
 unfold blockS BR.no at h ⊢;by_cases c0 : b.length - pt < ckSize kind
 · rw [if_pos c0] at h; simp at h
 rw [if_neg c0] at *;by_cases c1 : sameE (S.sum kind data) ((b.drop pt).take (ckSize kind)) ≠ 0
 · rw [if_pos c1] at h; exact absurd h c1
 rw [if_neg c1] at *;have hl : (b.take j).length = min j b.length := List.length_take;simp only [] at h ⊢;refine ⟨by omega, by omega, fun h2 => ?_, fun h2 => ?_⟩
 · rw [if_neg (by rw [hl]; omega), drop_take', List.take_take, Nat.min_eq_left (by omega), if_neg c1]
 · rw [if_pos (by rw [hl]; omega)]
theorem blockT_take (S : Sums) (b : List UInt8) (kind : Nat) (data : List UInt8) (a j : Nat) (h : (blockT S b kind data a).e = 0) (hp : a ≤ b.length) (hj : a ≤ j) :
 a ≤ (blockT S b kind data a).n ∧ (blockT S b kind data a).n ≤ b.length ∧ ((blockT S b kind data a).n ≤ j → blockT S (b.take j) kind data a = blockT S b kind data a) ∧ (j < (blockT S b kind data a).n → (blockT S (b.take j) kind data a).e = 1) := by
 unfold blockT at h ⊢;by_cases c0 : zerosF b a (padI a) ≠ 0
 · rw [if_pos c0] at h; exact absurd h c0
 rw [if_neg c0] at *;obtain ⟨z0, z1, z2⟩ := zerosF_take b a (padI a) j (by omega) hp hj
 have s0 := blockS_take S b kind data a (a + padI a) (a + padI a) h z0 (Nat.le_refl _);by_cases c1 : a + padI a ≤ j
 · have s1 := blockS_take S b kind data a (a + padI a) j h z0 c1;rw [z1 c1, if_neg (by decide)]
   exact ⟨by omega, s1.2.1, s1.2.2.1, s1.2.2.2⟩
 · rw [z2 (by omega), if_pos (by decide)]
   exact ⟨by omega, s0.2.1, fun h2 => by omega, fun _ => rfl⟩
theorem dataF_err (S : Sums) (b : List UInt8) (p : Pl) (packed size : Int) : (dataF S b p packed size).e ≤ 2 := by
 have := rowF_err b p.dict packed size;unfold dataF;split
 · exact this.1
 · simp
theorem dataF_take (S : Sums) (b : List UInt8) (p : Pl) (packed size : Int) (j : Nat) (h : (dataF S b p packed size).e = 0) :
 (dataF S b p packed size).n ≤ b.length ∧ ((dataF S b p packed size).n ≤ j → dataF S (b.take j) p packed size = dataF S b p packed size) ∧ (j < (dataF S b p packed size).n → (dataF S (b.take j) p packed size).e = 1) := by
 have he : (rowF b p.dict packed size).e = 0 := by
  unfold dataF at h;split at h
  · exact h
  · rename_i h2; omega
 have hn : (dataF S b p packed size).n = (rowF b p.dict packed size).n := by unfold dataF; split <;> rfl
 obtain ⟨t1, t2⟩ := rowF_take b p.dict packed size j he;refine ⟨by rw [hn]; exact rowF_len _ _ _ _, fun h2 => ?_, fun h2 => ?_⟩
 · unfold dataF;rw [t1 (by omega)]
 · have := t2 (by omega)
   unfold dataF;rw [if_pos (.inl (by rw [this]; decide))]
   exact this
theorem blockD_take (S : Sums) (b : List UInt8) (kind n : Nat) (hd : HR) (j : Nat) (h : (blockD S b kind n hd).e = 0) (hn : n ≤ b.length) (hj : n ≤ j) :
 n ≤ (blockD S b kind n hd).n ∧ (blockD S b kind n hd).n ≤ b.length ∧ ((blockD S b kind n hd).n ≤ j → blockD S (b.take j) kind n hd = blockD S b kind n hd) ∧ (j < (blockD S b kind n hd).n → (blockD S (b.take j) kind n hd).e = 1) := by
 unfold blockD at h ⊢;by_cases c0 : (dataF S (b.drop n) hd.p hd.packed hd.size).e ≠ 0
 · rw [if_pos c0] at h; exact absurd h c0
 rw [if_neg c0] at *;obtain ⟨d0, d1, d2⟩ := dataF_take S (b.drop n) hd.p hd.packed hd.size (j - n) (by omega)
 rw [List.length_drop] at d0;rw [drop_take'];have s0 := blockT_take S b kind (dataF S (b.drop n) hd.p hd.packed hd.size).out (n + (dataF S (b.drop n) hd.p hd.packed hd.size).n) (n + (dataF S (b.drop n) hd.p hd.packed hd.size).n) h (by omega) (Nat.le_refl _)
 by_cases c1 : n + (dataF S (b.drop n) hd.p hd.packed hd.size).n ≤ j
 · have s1 := blockT_take S b kind (dataF S (b.drop n) hd.p hd.packed hd.size).out (n + (dataF S (b.drop n) hd.p hd.packed hd.size).n) j h (by omega) c1
   rw [d1 (by omega), if_neg c0]
   exact ⟨by omega, s1.2.1, s1.2.2.1, s1.2.2.2⟩
 · have := d2 (by omega)
   rw [if_pos (by rw [this]; decide)]
   exact ⟨by omega, s0.2.1, fun h2 => by omega, fun _ => this⟩
theorem blockF_take (S : Sums) (b : List UInt8) (kind : Nat) (mem : Int) (j : Nat) (h : (blockF S b kind mem).e = 0) (hj : 1 ≤ j) :
 0 < (blockF S b kind mem).n ∧ (blockF S b kind mem).n ≤ b.length ∧ ((blockF S b kind mem).n ≤ j → blockF S (b.take j) kind mem = blockF S b kind mem) ∧ (j < (blockF S b kind mem).n → (blockF S (b.take j) kind mem).e = 1) := by
 have hl : (b.take j).length = min j b.length := List.length_take;have hh : hdLen (b.take j) = hdLen b := by unfold hdLen; rw [getD_take b (by omega)]
 have h4 : 0 < hdLen b := by unfold hdLen; omega
 unfold blockF at h ⊢;rw [hh];by_cases c0 : b.length < hdLen b
 · rw [if_pos c0] at h; simp [BR.no] at h
 rw [if_neg c0] at *;by_cases c1 : (headF S (b.take (hdLen b))).e ≠ 0
 · rw [if_pos c1] at h; exact absurd h c1
 rw [if_neg c1] at *;by_cases c2 : mem < ((headF S (b.take (hdLen b))).p.dict : Int)
 · rw [if_pos c2] at h; simp [BR.no] at h
 rw [if_neg c2] at *;have s0 := blockD_take S b kind (hdLen b) (headF S (b.take (hdLen b))) (hdLen b) h (by omega) (Nat.le_refl _)
 by_cases c3 : hdLen b ≤ j
 · have s1 := blockD_take S b kind (hdLen b) (headF S (b.take (hdLen b))) j h (by omega) c3
   rw [if_neg (by rw [hl]; omega), List.take_take, Nat.min_eq_left c3, if_neg c1, if_neg c2]
   exact ⟨by omega, s1.2.1, s1.2.2.1, s1.2.2.2⟩
 · rw [if_pos (by rw [hl]; omega)]
   exact ⟨by omega, s0.2.1, fun h2 => by omega, fun _ => rfl⟩
theorem blocksGo_at (S : Sums) (f : List UInt8) (kind : Nat) (mem : Int) : ∀ (k a : Nat) (d : List UInt8) (l : List (Nat × Nat)), (blocksGo S f kind mem k a d l).e = 0 → a ≤ f.length → a ≤ (blocksGo S f kind mem k a d l).at_ ∧ (blocksGo S f kind mem k a d l).at_ < f.length := by
 intro k;induction k with
 | zero => intro a d l h; simp [blocksGo] at h
 | succ k ih =>
  intro a d l h ha;unfold blocksGo at h ⊢;by_cases c0 : a = f.length
  · rw [if_pos c0] at h; simp at h
  rw [if_neg c0] at *;by_cases c1 : (f.getD a 0).toNat = 0
  · rw [if_pos c1]; exact ⟨Nat.le_refl _, by simp only []; omega⟩
  rw [if_neg c1] at *;by_cases c2 : (blockF S (f.drop a) kind mem).e ≠ 0
  · rw [if_pos c2] at h; exact absurd h c2
  rw [if_neg c2] at *;have b0 := blockF_take S (f.drop a) kind mem 1 (by omega) (Nat.le_refl _)
  rw [List.length_drop] at b0;have := ih _ _ _ h (by omega)
  omega
theorem blocksGo_take (S : Sums) (f : List UInt8) (kind : Nat) (mem : Int) : ∀ (k a : Nat) (d : List UInt8) (l : List (Nat × Nat)) (k' j : Nat), (blocksGo S f kind mem k a d l).e = 0 → a ≤ f.length → a ≤ j → k ≤ k' ∨ j < k' + a →
 ((blocksGo S f kind mem k a d l).at_ < j → blocksGo S (f.take j) kind mem k' a d l = blocksGo S f kind mem k a d l) ∧ (j ≤ (blocksGo S f kind mem k a d l).at_ → (blocksGo S (f.take j) kind mem k' a d l).e = 1) := by
 intro k;induction k with
 | zero => intro a d l k' j h; simp [blocksGo] at h
 | succ k ih =>
  intro a d l k' j h ha hj hk;have hat := blocksGo_at S f kind mem (k + 1) a d l h ha;obtain ⟨g, rfl⟩ : ∃ g, k' = g + 1 := ⟨k' - 1, by omega⟩
  have hl : (f.take j).length = min j f.length := List.length_take;unfold blocksGo at h hat ⊢;rw [hl];by_cases c0 : a = f.length
  · rw [if_pos c0] at h; simp at h
  rw [if_neg c0] at *;by_cases c1 : (f.getD a 0).toNat = 0
  · rw [if_pos c1] at *;simp only [] at hat ⊢;by_cases c2 : a < j
    · rw [if_neg (by omega), getD_take f c2, if_pos c1]
      exact ⟨fun _ => rfl, fun h2 => by omega⟩
    · rw [if_pos (by omega)]
      exact ⟨fun h2 => by omega, fun _ => rfl⟩
  rw [if_neg c1] at *;by_cases c2 : (blockF S (f.drop a) kind mem).e ≠ 0
  · rw [if_pos c2] at h; exact absurd h c2
  rw [if_neg c2] at *;by_cases c3 : a = j
  · rw [if_pos (by omega)]
    exact ⟨fun h2 => by omega, fun _ => rfl⟩
  have b1 := blockF_take S (f.drop a) kind mem (j - a) (by omega) (by omega)
  rw [List.length_drop] at b1;rw [if_neg (by omega), getD_take f (by omega), if_neg c1, drop_take']
  have hat2 := blocksGo_at S f kind mem k _ _ _ h (by omega)
  by_cases c4 : (blockF S (f.drop a) kind mem).n ≤ j - a
  · rw [b1.2.2.1 c4, if_neg c2];exact ih _ _ _ g j h (by omega) (by omega) (by omega)
  · have e1 := b1.2.2.2 (by omega)
    rw [if_pos (by rw [e1]; decide)]
    exact ⟨fun h2 => by omega, fun _ => e1⟩
theorem footF_take (S : Sums) (f : List UInt8) (kind a size j : Nat) (h : footF S f kind a size = 0) (ha : a ≤ f.length) (hj : j < f.length) : footF S (f.take j) kind a size = 1 := by
 have hl : (f.take j).length = min j f.length := List.length_take;unfold footF at h ⊢;by_cases c0 : f.length - a < 12
 · rw [if_pos c0] at h; simp at h
 rw [if_neg c0] at h;by_cases c1 : (backF S ((f.drop a).take 12)).e ≠ 0
 · rw [if_pos c1] at h; exact absurd h c1
 rw [if_neg c1] at h;by_cases c2 : (backF S ((f.drop a).take 12)).kind ≠ kind ∨ (backF S ((f.drop a).take 12)).size ≠ size
 · rw [if_pos c2] at h; simp at h
 rw [if_neg c2] at h;by_cases c3 : a + 12 < f.length
 · rw [if_pos c3] at h; simp at h
 rw [if_pos (by rw [hl]; omega)]
theorem lowGo_take (f : List UInt8) (j a : Nat) : ∀ k : Nat, a + k ≤ j → lowGo (f.take j) a k = lowGo f a k := by
 intro k;induction k with
 | zero => intro _; rfl
 | succ k ih => intro h; rw [lowGo, lowGo, ih (by omega), getD_take f (by omega)]
theorem sumF_take (S : Sums) (f : List UInt8) (kind fr a j : Nat) (h : sumF S f kind fr a = 0) (ha : a ≤ f.length) (hj : j < f.length) (haj : a ≤ j) (hfr : fr ≤ a) : sumF S (f.take j) kind fr a = 1 := by
 have hl : (f.take j).length = min j f.length := List.length_take;unfold sumF at h ⊢;by_cases c0 : f.length - a < 4
 · rw [if_pos c0] at h; simp at h
 rw [if_neg c0] at h;by_cases c1 : (lowGo f a 4).toNat % 4294967296 ≠ S.c32 ((f.drop fr).take (a - fr))
 · rw [if_pos c1] at h; simp at h
 rw [if_neg c1] at h;by_cases c2 : j - a < 4
 · rw [if_pos (by rw [hl]; omega)]
 · rw [if_neg (by rw [hl]; omega), lowGo_take f j a 4 (by omega), drop_take', List.take_take, Nat.min_eq_left (by omega), if_neg c1]
   exact footF_take S f kind _ _ j h (by omega) hj
theorem padF_take (S : Sums) (f : List UInt8) (kind fr a j : Nat) (h : padF S f kind fr a = 0) (ha : a ≤ f.length) (hj : j < f.length) (haj : a ≤ j) (hfr : fr ≤ a) : padF S (f.take j) kind fr a = 1 := by
 unfold padF at h ⊢;by_cases c0 : zerosF f a (padI (a - fr)) ≠ 0
 · rw [if_pos c0] at h; exact absurd h c0
 rw [if_neg c0] at h;obtain ⟨z0, z1, z2⟩ := zerosF_take f a (padI (a - fr)) j (by omega) ha haj
 by_cases c1 : a + padI (a - fr) ≤ j
 · rw [z1 c1, if_neg (by decide)]
   exact sumF_take S f kind fr _ j h z0 hj c1 (by omega)
 · rw [z2 (by omega), if_pos (by decide)]
theorem indexF_take (S : Sums) (f : List UInt8) (kind a : Nat) (l : List (Nat × Nat)) (j : Nat) (h : indexF S f kind a l = 0) (ha : a < f.length) (hj : j < f.length) (haj : a < j) : indexF S (f.take j) kind a l = 1 := by
 unfold indexF at h ⊢;by_cases c0 : (numF f (a + 1) l.length).e ≠ 0
 · rw [if_pos c0] at h; exact absurd h c0
 rw [if_neg c0] at h;by_cases c1 : (recsF f l (numF f (a + 1) l.length).at_).e ≠ 0
 · rw [if_pos c1] at h; exact absurd h c1
 rw [if_neg c1] at h;have n1 := numF_take f (a + 1) l.length j (by omega) (by omega) (by omega)
 by_cases c2 : (numF f (a + 1) l.length).at_ ≤ j
 · rw [n1.2.2.1 c2, if_neg c0];have n2 := recsF_take f j l (numF f (a + 1) l.length).at_ (by omega) n1.2.1 c2
   by_cases c3 : (recsF f l (numF f (a + 1) l.length).at_).at_ ≤ j
   · rw [n2.2.2.1 c3, if_neg c1];exact padF_take S f kind a _ j h n2.2.1 hj c3 (by omega)
   · have e1 := n2.2.2.2 (by omega)
     rw [if_pos (by rw [e1]; decide), e1]
 · have e1 := n1.2.2.2 (by omega)
   rw [if_pos (by rw [e1]; decide), e1]
theorem decF_take (S : Sums) (f : List UInt8) (mem : Int) (j : Nat) (h : (decF S f mem).e = 0) (hj : j < f.length) : (decF S (f.take j) mem).e = 1 ∧ (decF S (f.take j) mem).data = [] := by
 have hl : (f.take j).length = j := by rw [List.length_take]; omega
 unfold decF at h ⊢;rw [hl];by_cases c0 : f.length < 12
 · rw [if_pos c0] at h; simp at h
 rw [if_neg c0] at h;by_cases c1 : (frontF S (f.take 12)).e ≠ 0
 · rw [if_pos c1] at h; exact absurd h c1
 rw [if_neg c1] at h;by_cases c2 : j < 12
 · rw [if_pos c2]; exact ⟨rfl, rfl⟩
 rw [if_neg c2, List.take_take, Nat.min_eq_left (by omega), if_neg c1]
 generalize (frontF S (f.take 12)).kind = kind at *;unfold decB at h ⊢;by_cases c3 : (blocksGo S f kind mem (f.length + 1) 12 [] []).e ≠ 0
 · rw [if_pos c3] at h; exact absurd h c3
 rw [if_neg c3] at h;by_cases c4 : indexF S f kind (blocksGo S f kind mem (f.length + 1) 12 [] []).at_ (blocksGo S f kind mem (f.length + 1) 12 [] []).recs ≠ 0
 · rw [if_pos c4] at h; exact absurd h c4
 have b0 := blocksGo_at S f kind mem (f.length + 1) 12 [] [] (by omega) (by omega)
 have b1 := blocksGo_take S f kind mem (f.length + 1) 12 [] [] (j + 1) j (by omega) (by omega) (by omega) (.inr (by omega))
 by_cases c5 : (blocksGo S f kind mem (f.length + 1) 12 [] []).at_ < j
 · rw [b1.1 c5, if_neg c3, indexF_take S f kind _ _ j (by omega) b0.2 hj c5, if_pos (by decide)]
   exact ⟨rfl, rfl⟩
 · have e1 := b1.2 (by omega)
   rw [if_pos (by rw [e1]; decide), e1]
   exact ⟨rfl, rfl⟩
theorem blockF_mem (S : Sums) (b : List UInt8) (kind : Nat) (m1 m2 : Int) (h : m1 ≤ m2) : (blockF S b kind m1).e = 5 ∨ blockF S b kind m1 = blockF S b kind m2 := by
 unfold blockF;by_cases c0 : b.length < hdLen b
 · right; rw [if_pos c0, if_pos c0]
 rw [if_neg c0, if_neg c0];by_cases c1 : (headF S (b.take (hdLen b))).e ≠ 0
 · right; rw [if_pos c1, if_pos c1]
 rw [if_neg c1, if_neg c1];by_cases c2 : m1 < ((headF S (b.take (hdLen b))).p.dict : Int)
 · left; rw [if_pos c2]; rfl
 · right; rw [if_neg c2, if_neg (by omega)]
theorem blocksGo_mem (S : Sums) (f : List UInt8) (kind : Nat) (m1 m2 : Int) (h : m1 ≤ m2) : ∀ (k a : Nat) (d : List UInt8) (l : List (Nat × Nat)), (blocksGo S f kind m1 k a d l).e = 5 ∨ blocksGo S f kind m1 k a d l = blocksGo S f kind m2 k a d l := by
 intro k;induction k with
 | zero => intro a d l; right; rfl
 | succ k ih =>
  intro a d l;unfold blocksGo;by_cases c0 : a = f.length
  · right; rw [if_pos c0, if_pos c0]
  rw [if_neg c0, if_neg c0];by_cases c1 : (f.getD a 0).toNat = 0
  · right; rw [if_pos c1, if_pos c1]
  rw [if_neg c1, if_neg c1];rcases blockF_mem S (f.drop a) kind m1 m2 h with e | e
  · left; rw [if_pos (by rw [e]; decide)]; exact e
  · rw [e];by_cases c2 : (blockF S (f.drop a) kind m2).e ≠ 0
    · right; rw [if_pos c2, if_pos c2]
    · rw [if_neg c2, if_neg c2]; exact ih _ _ _
theorem decF_mem (S : Sums) (f : List UInt8) (m1 m2 : Int) (h : m1 ≤ m2) : (decF S f m1).e = 5 ∨ decF S f m1 = decF S f m2 := by
 unfold decF;by_cases c0 : f.length < 12
 · right; rw [if_pos c0, if_pos c0]
 rw [if_neg c0, if_neg c0];by_cases c1 : (frontF S (f.take 12)).e ≠ 0
 · right; rw [if_pos c1, if_pos c1]
 rw [if_neg c1, if_neg c1];rcases blocksGo_mem S f (frontF S (f.take 12)).kind m1 m2 h (f.length + 1) 12 [] [] with e | e
 · left; unfold decB; rw [if_pos (by rw [e]; decide)]; exact e
 · right; rw [e]
theorem headF_err (S : Sums) (b : List UInt8) : (headF S b).e ≤ 4 := by
 have hE : ∀ p s fl r, (hdEnd p s fl r).e ≤ 4 := fun p s fl r => by unfold hdEnd HR.no; (repeat' split) <;> simp
 have hF : ∀ g p s r, (hdFils g p s r).e ≤ 4 := fun g p s r => by unfold hdFils; split; simp [HR.no]; exact hE _ _ _ _
 have hS : ∀ g p r, (hdSize g p r).e ≤ 4 := fun g p r => by unfold hdSize; (repeat' split) <;> first | exact hF _ _ _ _ | simp [HR.no]
 have hP : ∀ g r, (hdPacked g r).e ≤ 4 := fun g r => by unfold hdPacked; (repeat' split) <;> first | exact hS _ _ _ | simp [HR.no]
 unfold headF
 (repeat' split) <;> first | exact hP _ _ | simp [HR.no]
theorem blockF_err (S : Sums) (b : List UInt8) (kind : Nat) (mem : Int) : (blockF S b kind mem).e ≤ 5 := by
 have h1 := headF_err S (b.take (hdLen b));have h2 : ∀ d a pt, (blockS S b kind d a pt).e ≤ 5 := fun d a pt => by
  have := sameE_le (S.sum kind d) ((b.drop pt).take (ckSize kind));unfold blockS BR.no
  (repeat' split) <;> simp <;> omega
 have h3 : ∀ d a, (blockT S b kind d a).e ≤ 5 := fun d a => by
  have := zerosF_err b a (padI a);unfold blockT;split
  · simp [BR.no]; omega
  · exact h2 _ _ _
 have h4 : ∀ n h, (blockD S b kind n h).e ≤ 5 := fun n h => by
  have := dataF_err S (b.drop n) h.p h.packed h.size;unfold blockD;split
  · simp [BR.no]; omega
  · exact h3 _ _
 unfold blockF
 (repeat' split) <;> first | exact h4 _ _ | (simp [BR.no]; done) | (simp [BR.no]; omega)
theorem blocksGo_err (S : Sums) (f : List UInt8) (kind : Nat) (mem : Int) : ∀ (k a : Nat) (d : List UInt8) (l : List (Nat × Nat)), (blocksGo S f kind mem k a d l).e ≤ 5 := by
 intro k;induction k with
 | zero => intro a d l; simp [blocksGo]
 | succ k ih =>
  intro a d l;unfold blocksGo;have := blockF_err S (f.drop a) kind mem
  (repeat' split) <;> first | exact ih _ _ _ | (simp; done) | exact this
theorem indexF_err (S : Sums) (f : List UInt8) (kind a : Nat) (l : List (Nat × Nat)) : indexF S f kind a l ≤ 5 := by
 have hb : ∀ b, (backF S b).e ≤ 5 := fun b => by unfold backF; (repeat' split) <;> simp
 have h1 : ∀ a s, footF S f kind a s ≤ 5 := fun a s => by
  have := hb ((f.drop a).take 12);unfold footF
  (repeat' split) <;> omega
 have h2 : ∀ fr a, sumF S f kind fr a ≤ 5 := fun fr a => by
  unfold sumF
  (repeat' split) <;> first | exact h1 _ _ | omega
 have h3 : ∀ fr a, padF S f kind fr a ≤ 5 := fun fr a => by
  have := zerosF_err f a (padI (a - fr));unfold padF
  (repeat' split) <;> first | exact h2 _ _ | omega
 have h4 := numF_err f (a + 1) l.length;have h5 := recsF_err f l (numF f (a + 1) l.length).at_;unfold indexF
 (repeat' split) <;> first | exact h3 _ _ | omega
theorem decF_err (S : Sums) (f : List UInt8) (mem : Int) : (decF S f mem).e ≤ 5 ∧ ((decF S f mem).e ≠ 0 → (decF S f mem).data = []) := by
 have hb : (frontF S (f.take 12)).e ≤ 5 := by unfold frontF; (repeat' split) <;> simp
 have h1 := blocksGo_err S f (frontF S (f.take 12)).kind mem (f.length + 1) 12 [] [];have h2 := indexF_err S f (frontF S (f.take 12)).kind (blocksGo S f (frontF S (f.take 12)).kind mem (f.length + 1) 12 [] []).at_ (blocksGo S f (frontF S (f.take 12)).kind mem (f.length + 1) 12 [] []).recs;unfold decF decB;split
 · exact ⟨by simp, fun _ => rfl⟩
 split
 · exact ⟨hb, fun _ => rfl⟩
 split
 · exact ⟨h1, fun _ => rfl⟩
 split
 · exact ⟨h2, fun _ => rfl⟩
 · exact ⟨by simp, fun h => absurd rfl h⟩
end Go.Proofs.YtcjehjdehdoaeaaGreatDoor
