/-
  The iterator of the pieces' ends: each round's body is told the next end. Conditions: legal cuts; the data lie in memory, and no round changes them.
-/
import Derived.Test.YtglkahonejblpaaEat
import Derived.RangeFuncBox
import Derived.RangeFuncLeaves
import Derived.RangeFuncCalls
import Derived.RangeFuncNested
import Derived.RangeFuncBound
import Derived.Shelf.Abstract
import Derived.Shelf.RegionOpen
import Derived.OwnWalkIn
import Derived.TacticsInMore
import Derived.LoopNIn
import Derived.LoopIn
namespace Go.Proofs.Ytglkahonejblpaa
open Go.RowKit Go.Shelf
attribute [local go_sem] Oper.semAt_some

/-- how many bytes the next piece has, out of bytes at whose head it begins -/
def pieceLen (least most bits : Int) (l : List UInt8) : Nat := (eatGo least most bits 0 0 0 l).1
def cutsF (least most bits : Int) : Nat → Nat → List UInt8 → List Nat
  | 0, _, _ => []
  | f + 1, i, l => if l = [] then [] else (i + pieceLen least most bits l) :: cutsF least most bits f (i + pieceLen least most bits l) (l.drop (pieceLen least most bits l))
def cutsAt (least most bits : Int) (i : Nat) (l : List UInt8) : List Nat := cutsF least most bits l.length i l
def cutsL (least most bits : Int) (l : List UInt8) : List Nat := cutsAt least most bits 0 l
theorem eatGo_bd (least most bits : Int) (l : List UInt8) : ∀ (i : Nat) (sum : Int) (n : Nat), i ≤ (eatGo least most bits i sum n l).1 ∧ (eatGo least most bits i sum n l).1 ≤ i + l.length ∧ (l ≠ [] → i < (eatGo least most bits i sum n l).1) ∧
    ((eatGo least most bits i sum n l).1 < i + l.length → (eatGo least most bits i sum n l).2.2.1 = 0 ∧ (eatGo least most bits i sum n l).2.2.2 = 0) := by
  induction l with
  | nil => intro i sum n; simp [eatGo]
  | cons z r ih =>
    intro i sum n
    rw [eatGo]
    split
    · simp
    · obtain ⟨h1, h2, h3, h4⟩ := ih (i + 1) (roll1 sum z) (n + 1)
      refine ⟨by omega, by simp only [List.length_cons]; omega, fun _ => by omega, fun h => h4 (by simp only [List.length_cons] at h; omega)⟩
theorem piece_bd (least most bits : Int) (l : List UInt8) (h : l ≠ []) : 0 < pieceLen least most bits l ∧ pieceLen least most bits l ≤ l.length := by
  obtain ⟨_, h2, h3, _⟩ := eatGo_bd least most bits l 0 0 0
  exact ⟨h3 h, by rw [Nat.zero_add] at h2; exact h2⟩
theorem eatGo_n (least most bits : Int) (l : List UInt8) : ∀ (i : Nat) (sum : Int) (n : Nat), (eatGo least most bits i sum n l).2.2.2 ≤ n + l.length := by
  induction l with
  | nil => intro i sum n; simp [eatGo]
  | cons z r ih =>
    intro i sum n
    rw [eatGo]
    split
    · simp
    · have := ih (i + 1) (roll1 sum z) (n + 1)
      simp only [List.length_cons]; omega
theorem cutsF_fuel (least most bits : Int) : ∀ (f : Nat) (i : Nat) (l : List UInt8), l.length ≤ f → cutsF least most bits f i l = cutsF least most bits l.length i l := by
  intro f
  induction f using Nat.strongRecOn with
  | _ f ih =>
    intro i l hl
    cases f with
    | zero =>
      have : l = [] := List.length_eq_zero_iff.1 (by omega)
      subst this
      rfl
    | succ f =>
      cases l with
      | nil => simp [cutsF]
      | cons z r =>
        have hp := piece_bd least most bits (z :: r) (by simp)
        have hd : ((z :: r).drop (pieceLen least most bits (z :: r))).length ≤ r.length := by rw [List.length_drop, List.length_cons]; omega
        simp only [List.length_cons] at hl
        rw [cutsF, List.length_cons, cutsF, if_neg (by simp), if_neg (by simp), ih f (by omega) _ _ (by omega)]
        by_cases hrf : r.length = f
        · rw [hrf, ih f (by omega) _ _ (by omega)]
        · rw [ih r.length (by omega) _ _ hd]
theorem cutsAt_nil (least most bits : Int) (i : Nat) : cutsAt least most bits i [] = [] := rfl
theorem cutsAt_cons (least most bits : Int) (i : Nat) (l : List UInt8) (h : l ≠ []) : cutsAt least most bits i l = (i + pieceLen least most bits l) :: cutsAt least most bits (i + pieceLen least most bits l) (l.drop (pieceLen least most bits l)) := by
  unfold cutsAt
  have hp := piece_bd least most bits l h
  have hl : 0 < l.length := by omega
  obtain ⟨f, hf⟩ : ∃ f, l.length = f + 1 := ⟨l.length - 1, by omega⟩
  rw [hf, cutsF, if_neg h, cutsF_fuel least most bits f _ _ (by rw [List.length_drop]; omega)]
/-- what a round of the loop keeps: these blocks -/
def KeepAt (K : Nat → Prop) (W W' : World) : Prop := W.heap.size ≤ W'.heap.size ∧ ∀ g, K g → W'.heap[g]? = W.heap[g]?
structure EnRel (least most bits : Int) (cb db S : Nat) (A : Option Addr) (m c : Nat) (l : List UInt8) (J : List Nat → World → Prop) (i : Nat) (pre : List Nat) (sum : Int) (n : Nat) (wr : World) : Prop where
  j : J pre wr
  roll : Blk wr S 69 (rollC least most bits sum n)
  zero : i < m → sum = 0 ∧ n = 0
  bc : Blk wr cb 23 #[.int .i64 least, .int .i64 most, .int .i64 bits]
  bd : Blk wr db 32 #[.slice A m c]
  ins : In wr A m l
  len : pre.length ≤ i
  rest : cutsL least most bits l = pre ++ cutsAt least most bits i (l.drop i)
set_option maxRecDepth 100000 in
set_option maxHeartbeats 4000000 in
theorem ends1_in (n : Nat) (hn : 1 ≤ n) (lp cb db : Nat) (least most bits : Int) (hok : CutsOk least most bits) (A : Option Addr) (m c : Nat) (l : List UInt8) (J : List Nat → World → Prop) (W0 : World)
    (hC : Blk W0 cb 23 #[.int .i64 least, .int .i64 most, .int .i64 bits]) (hD : Blk W0 db 32 #[.slice A m c]) (hI : In W0 A m l) (hmc : m ≤ c) (h0 : J [] W0)
    (hJf : ∀ pre W W', J pre W → Fr (fun k => k = W0.heap.size) W W' → J pre W')
    (hY : ∀ pre (x : Nat) W, J pre W → x ≤ m → pre.length < m → W0.heap.size < W.heap.size → YieldAt Fence.wide (n - 1) Try.prog lp #[.int .i64 (x : Int)] W fun e W' => e = .returned (.bool true) ∧ J (pre ++ [x]) W' ∧ KeepAt (fun g => g = W0.heap.size ∨ g = cb ∨ g = db ∨ (0 < m ∧ ∃ ad, A = some ad ∧ g = ad.block)) W W') :
    CallsIn Fence.wide n Try.prog 37 #[.func (.yield lp) #[] #[], .pointer (some ⟨cb, 0, none⟩), .pointer (some ⟨db, 0, none⟩)] W0 fun e W' => (∃ v, e = .returned v) ∧ J (cutsL least most bits l) W' := by
  have hm := hI.2.2
  have Hlen := Lib.hid hI.len
  obtain ⟨c0, c1, c2⟩ : W0.cell? ⟨cb, 0, none⟩ = some (.int .i64 least) ∧ W0.cell? ⟨cb, 1, none⟩ = some (.int .i64 most) ∧ W0.cell? ⟨cb, 2, none⟩ = some (.int .i64 bits) := ⟨hC.cell 0, hC.cell 1, hC.cell 2⟩
  obtain ⟨S, hS⟩ : ∃ S, W0.heap.size = S := ⟨_, rfl⟩
  obtain ⟨W1, hW1⟩ : ∃ W1, W0.alloc (.cells (rollC least most bits 0 0) 69) = W1 := ⟨_, rfl⟩
  have hb1 : Below W0.heap.size W0 W1 := by rw [← hW1]; exact (Below.refl _ _).alloc (Nat.le_refl _) _
  have hcbS : cb < S := by rw [← hS]; exact hC.lt
  have hdbS : db < S := by rw [← hS]; exact hD.lt
  have hAS : Hid (0 < m → ∀ ad, A = some ad → ad.block < S) := fun h0 ad had => by rw [← hS]; exact hI.2.1 h0 ad had
  have H : Hid (EnRel least most bits cb db S A m c l J 0 [] 0 0 W1) := ⟨hJf _ _ _ h0 (Fr.of_below hb1), by rw [← hW1, ← hS]; exact Blk.new _ _ _, fun _ => ⟨rfl, rfl⟩, hC.below hb1, hD.below hb1, hI.below hb1, Nat.zero_le _, by rw [List.nil_append, List.drop_zero]; rfl⟩
  rw [hS] at hJf hY
  have HJf := Lib.hid hJf
  have HY := Lib.hid hY
  have Hok := Lib.hid hok
  clear hJf hY hC hD hI h0 hb1 hok
  unfold rollC at hW1
  refine callsIn_of_wp Try.func37 rfl trivial ?_ rfl
  simp only [Try.ntmps37, List.size_toArray, List.length_cons, List.length_nil, Nat.reduceAdd, Nat.reduceSub, Array.replicate_succ, Array.replicate_zero, List.push_toArray, List.append_toArray, List.nil_append, List.cons_append]
  gi_wp2
  gi_loopw [5] (fun s5 wr => ∃ (i : Nat) (pre : List Nat) (sum : Int) (k : Nat), s5 = .int .i64 (i : Int) ∧ i ≤ m ∧ k ≤ m ∧ Hid (EnRel least most bits cb db S A m c l J i pre sum k wr)) (fun s5 _ => m - (intOf s5).toNat)
  case atStart => exact ⟨0, [], 0, 0, rfl, Nat.zero_le _, Nat.zero_le _, by rw [← hW1] at H; exact H⟩
  case round =>
    clear H
    obtain ⟨i, pre, sum, k, rfl, hi, hk, H⟩ := hrel
    have d0 := H.out.bd.cell 0
    have d0 : wr.cell? ⟨db, 0, none⟩ = some (.slice A m c) := d0
    by_cases hlt : i < m
    · have hlt' : (i : Int) < (m : Int) := by omega
      obtain ⟨rfl, rfl⟩ := H.out.zero hlt
      have hci : ¬ c = i := by omega
      obtain ⟨x, hx⟩ : ∃ x, l.drop i = x := ⟨_, rfl⟩
      have hxl : x.length = m - i := by rw [← hx, List.length_drop, Hlen.out]
      have hxn : x ≠ [] := fun e => by rw [e] at hxl; simp at hxl; omega
      have hcut := H.out.ins.cut hi hmc
      rw [if_neg hci, hx] at hcut
      have HCut := Lib.hid hcut
      obtain ⟨r, hr⟩ : ∃ r, eatGo least most bits 0 0 0 x = r := ⟨_, rfl⟩
      obtain ⟨e1, e2, e3, e4⟩ := eatGo_bd least most bits x 0 0 0
      have e5 := eatGo_n least most bits x 0 0 0
      rw [hr] at e1 e2 e3 e4 e5
      have hpl : pieceLen least most bits x = r.1 := by unfold pieceLen; rw [hr]
      have hcl := eat_any least most bits 0 0 S (A.map (fun y => y.add i)) (m - i) (c - i) x wr H.out.roll HCut.out (fun h0 ad had => by
        cases A with
        | none => cases had
        | some a =>
          simp only [Option.map_some, Option.some.injEq] at had
          subst had
          rw [block_add]
          have := hAS.out (by omega) a rfl
          omega) Hok.out (by omega)
      rw [hr] at hcl
      obtain ⟨p, ed, sm, kk⟩ := r
      simp only [] at hcl e1 e2 e3 e4 e5 hpl
      have Hcl := Lib.hid hcl
      have Hrest : Hid (cutsL least most bits l = (pre ++ [i + p]) ++ cutsAt least most bits (i + p) (l.drop (i + p))) := by
        have h1 := H.out.rest
        rw [hx, cutsAt_cons _ _ _ _ _ hxn, hpl, ← hx, List.drop_drop] at h1
        rw [List.append_assoc]
        exact h1
      have hp1 : 0 < p ∧ i + p ≤ m := ⟨e3 hxn, by omega⟩
      have Hz : Hid (i + p < m → sm = 0 ∧ kk = 0) := fun h => e4 (by omega)
      have hkk : kk ≤ m := by omega
      clear hcut hr e1 e2 e3 e4 e5 hpl hcl hx hxl hxn
      gi_wp2
      refine ⟨trivial, ?_⟩
      refine (callsIn_wide.2 Hcl.out).mono ?_
      rintro e w3 ⟨rfl, hB3, hF3⟩
      have HB3 := Lib.hid hB3
      have HF3 := Lib.hid hF3
      have HJ3 := Lib.hid (HJf.out pre wr w3 H.out.j hF3)
      obtain ⟨fn, tmps, assign, body, hy, hR⟩ := HY.out pre (i + p) w3 HJ3.out hp1.2 (Nat.lt_of_le_of_lt H.out.len hlt) hB3.lt
      have hcast : (((i + p : Nat)) : Int) = (i : Int) + (p : Int) := by omega
      rw [hcast] at hy
      clear hB3 hF3 hcast
      gi_wp2
      refine hR.mono ?_
      rintro e W4 ⟨rfl, hJ4, hk4⟩
      have HE4 : Hid (EnRel least most bits cb db S A m c l J (i + p) (pre ++ [i + p]) sm kk W4) := by
        have k1 := H.out.bc.fr HF3.out (by omega)
        have k2 := H.out.bd.fr HF3.out (by omega)
        have k3 := H.out.ins.fr HF3.out (fun h0 ad had => by have := hAS.out h0 ad had; omega)
        refine ⟨hJ4, HB3.out.same (hk4.2 _ (.inl rfl)), Hz.out, k1.same (hk4.2 _ (.inr (.inl rfl))), k2.same (hk4.2 _ (.inr (.inr (.inl rfl)))), ⟨k3.1.keep0 (fun h0 ad had => hk4.2 _ (.inr (.inr (.inr ⟨h0, ad, had, rfl⟩)))), fun h0 ad had => Nat.lt_of_lt_of_le (k3.2.1 h0 ad had) hk4.1, k3.2.2⟩, by rw [List.length_append]; have := H.out.len; simp only [List.length_singleton]; omega, Hrest.out⟩
      clear hJ4 hk4
      gi_wp2
      go_roundw
      case rel => exact ⟨i + p, pre ++ [i + p], sm, kk, by go_num, hp1.2, hkk, HE4⟩
      case measure => simp [intOf]; omega
    · obtain rfl : i = m := by omega
      have hfin : J (cutsL least most bits l) wr := by
        have h1 := H.out.rest
        rw [List.drop_of_length_le (by rw [Hlen.out]; exact Nat.le_refl _), cutsAt_nil, List.append_nil] at h1
        rw [h1]
        exact H.out.j
      gi_wp2
      go_end0
      exact ⟨⟨_, rfl⟩, hfin⟩
end Go.Proofs.Ytglkahonejblpaa
