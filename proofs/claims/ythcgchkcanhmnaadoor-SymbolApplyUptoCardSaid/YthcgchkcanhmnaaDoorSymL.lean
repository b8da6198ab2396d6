
/-
  Plain law on rows of literals: they make their bytes; a match behind them makes them again; and the law's size. No conditions beyond each lemma's own.
-/
import Derived.Test.YthcgchkcanhmnaaDoorSymG
namespace Go.Proofs.YthcgchkcanhmnaaDoor
open Go.RowKit

def dsz (n : Int) : Nat := if n < 1 ∨ 1000 < n then 40 else n.toNat
theorem dsz_bd (n : Int) : 1 ≤ dsz n ∧ dsz n ≤ 1000 := by unfold dsz; split <;> omega
theorem sz_any (n : Int) (w : World) : Calls Tryd.prog 23 #[.int .i64 n] w fun e w' => e = .returned (.int .i64 (dsz n : Int)) ∧ w = w' := by
  rcases (by omega : n < 1 ∨ (1 ≤ n ∧ 1000 < n) ∨ (1 ≤ n ∧ n ≤ 1000)) with h | ⟨h1, h2⟩ | ⟨h1, h2⟩
  · rw [show dsz n = 40 from if_pos (.inl h)]
    go_enter Tryd.func23, Tryd.ntmps23
    go_wp2
    go_ret
    exact ⟨rfl, rfl⟩
  · rw [show dsz n = 40 from if_pos (.inr h2)]
    go_enter Tryd.func23, Tryd.ntmps23
    go_wp2
    go_ret
    exact ⟨rfl, rfl⟩
  · have e : (dsz n : Int) = n := by unfold dsz; rw [if_neg (by omega)]; omega
    rw [e]
    clear e
    go_enter Tryd.func23, Tryd.ntmps23
    go_wp2
    go_ret
    exact ⟨rfl, rfl⟩
theorem next_lit {s : St} (h : s.right) (c : UInt8) : nextE s (lit c) = 0 := by unfold nextE; rw [if_pos h]; rfl
theorem ap_lit (size : Nat) (all : List UInt8) {s : St} (h : s.right) (c : UInt8) : apE size all s (lit c) = 0 ∧ apB size all s (lit c) = [c] ∧ (apS size all s (lit c)).right := by
  have e0 : apE size all s (lit c) = 0 := by unfold apE; rw [if_pos (next_lit h c)]; rfl
  refine ⟨e0, ?_, ?_⟩
  · unfold apB; rw [if_pos e0]; rfl
  · unfold apS; rw [if_pos e0]; exact nextS_right (next_lit h c)
theorem exGo_cons (size i : Nat) (s : St) (all : List UInt8) (y : Sy) (r : List Sy) : exGo size i s all (y :: r) = if apE size all s y = 0 then exGo size (i + 1) (apS size all s y) (all ++ apB size all s y) r else ([], i, apE size all s y) := rfl
theorem exGo_lits (size : Nat) (l : List UInt8) : ∀ (i : Nat) (s : St) (all : List UInt8), s.right → ∃ s', s'.right ∧ ∀ r, exGo size i s all (litS l ++ r) = exGo size (i + l.length) s' (all ++ l) r := by
  induction l with
  | nil => exact fun i s all h => ⟨s, h, fun r => by simp [litS]⟩
  | cons c l ih =>
    intro i s all h
    obtain ⟨h1, h2, h3⟩ := ap_lit size all h c
    obtain ⟨s', hs, hr⟩ := ih (i + 1) _ (all ++ [c]) h3
    refine ⟨s', hs, fun r => ?_⟩
    show exGo size i s all (lit c :: (litS l ++ r)) = _
    rw [exGo_cons, if_pos h1, h2, hr r]
    simp [Nat.add_comm, Nat.add_left_comm]
theorem lits_go (size : Nat) (l : List UInt8) : exGo size 0 St.start [] (litS l) = (l, l.length, 0) := by
  obtain ⟨s', _, hr⟩ := exGo_lits size l 0 St.start [] start_right
  have := hr []
  rw [List.append_nil] at this
  rw [this]
  simp [exGo]
theorem lits_match (size n : Nat) (l : List UInt8) (h0 : 0 < l.length) (h1 : l.length ≤ size) (h2 : 2 ≤ n) (h3 : n ≤ 273) (h4 : size ≤ 1000) :
    exGo size 0 St.start [] (litS l ++ [⟨2, 0, (n : Int), (l.length : Int)⟩]) = (ext l.length n l, l.length + 1, 0) := by
  obtain ⟨s', hs, hr⟩ := exGo_lits size l 0 St.start [] start_right
  rw [hr]
  have hF : formedN 2 (n : Int) (l.length : Int) = 0 := by
    unfold formedN
    rw [if_neg (by decide), if_neg (by decide), if_pos rfl, if_pos ⟨by unfold isL; omega, by unfold isD; omega⟩]
  have hN : nextE s' ⟨2, 0, (n : Int), (l.length : Int)⟩ = 0 := by unfold nextE; rw [if_pos hs]; exact hF
  have hd : distOf s' ⟨2, 0, (n : Int), (l.length : Int)⟩ = (l.length : Int) := if_pos rfl
  have hl : lenOf ⟨2, 0, (n : Int), (l.length : Int)⟩ = (n : Int) := if_pos (.inl rfl)
  have hE : apE size l s' ⟨2, 0, (n : Int), (l.length : Int)⟩ = 0 := by
    unfold apE
    rw [if_pos hN, if_neg (show ¬ ((2 : Int) = 1) by decide), hd, if_pos ⟨by omega, by unfold full; omega⟩]
  have hB : apB size l s' ⟨2, 0, (n : Int), (l.length : Int)⟩ = (ext l.length n l).drop l.length := by
    unfold apB
    rw [if_pos hE, if_neg (show ¬ ((2 : Int) = 1) by decide), hd, hl]; simp
  rw [show ([] : List UInt8) ++ l = l from rfl]
  rw [exGo_cons, if_pos hE, hB]
  show (_, _, _) = _
  rw [← ext_all, Nat.zero_add]
/-- the bytes come again and again -/
theorem ext_mod (l : List UInt8) (n : Nat) (h0 : 0 < l.length) : ∀ j, j < l.length + n → (ext l.length n l)[j]? = l[j % l.length]? := by
  intro j
  induction j using Nat.strongRecOn with
  | _ j ih =>
    intro hj
    by_cases h : j < l.length
    · rw [ext_get_old _ _ _ h, Nat.mod_eq_of_lt h]
    · have := ext_get l.length n l h0 (Nat.le_refl _) (j - l.length) (by omega)
      rw [show l.length + (j - l.length) = j by omega] at this
      rw [this, ih (j - l.length) (by omega) (by omega), Nat.mod_eq_sub_mod (a := j) (b := l.length) (by omega)]
end Go.Proofs.YthcgchkcanhmnaaDoor
