/-
  Laws on the way to the claim (OrX). Conditions: those that each theorem states.
-/
import Derived.Test.YtcjehjdehdoaeaaGreatDoorOm26
set_option linter.unusedVariables false
set_option linter.unusedSimpArgs false
set_option maxRecDepth 1000000
set_option maxHeartbeats 16000000
namespace Go.Proofs.YtcjehjdehdoaeaaGreatDoor
open Go.RowKit
theorem Lz.fr {x : RsX} {t : Tb} {w w' : World} (h : Lz x t w) {S : Nat → Prop} (hf : Fr S w w') (h1 : ∀ g, BT w g 348 → ¬ S g) (h2 : ∀ g, BT w g 254 → ¬ S g) (h3 : ∀ g, BT w g 334 → ¬ S g) (h4 : ∀ g, BT w g 3 → ¬ S g) (h5 : ∀ g, BT w g 247 → ¬ S g) (h6 : ∀ g, x.r = some g → ¬ S g) : Lz x t w' :=
 ⟨h.d.fr hf (h1 _ ⟨_, h.d⟩), h.t.fr hf (h2 _ ⟨_, h.t.b⟩) h3 h4, h.v.fr hf (h5 _ h.v.bt.1) h6, h.o⟩
theorem ext_len (d n : Nat) (l : List UInt8) : (win.ext d n l).length = l.length + n := by
 induction n with
 | zero => simp [win.ext]
 | succ n ih => rw [win.ext]; simp [ih]; omega
theorem apB_len (size : Nat) (all : List UInt8) (s : St) (y : Sy) (he : win.apE size all s y = 0) (h1 : ¬ szF y < 1) : ((win.apB size all s y).length : Int) ≤ szF y := by
 unfold szF at h1 ⊢;by_cases hn : nextE St.start y = 0
 · rw [if_pos hn] at h1 ⊢;unfold win.apB;rw [if_pos he];by_cases k1 : y.k = 1
   · rw [if_pos k1, if_neg (by omega)]; simp
   · rw [if_neg k1, List.length_drop, ext_len];have e : (if y.k = 2 ∨ y.k = 3 then y.l else 1) = win.lenOf y := rfl
     rw [e] at h1 ⊢;omega
 · rw [if_neg hn] at h1; omega
theorem allGo_len (l : List UInt8) (size : Nat) (old : List UInt8) (n : Nat) : ∀ (k : Nat) (q : Q) (out : List UInt8) (q' : Q) (o : List UInt8), out.length ≤ n → allGo l size old n k q out = some (q', o) → o.length = n := by
 intro k;induction k with
 | zero => intro q out q' o _ h; simp [allGo] at h
 | succ k ih =>
  intro q out q' o ho h;unfold allGo at h;by_cases c0 : out.length < n
  · rw [if_pos c0] at h;by_cases c1 : badY (symbolQ (bareX l size (old ++ out)) q).2 (symbolQ (bareX l size (old ++ out)) q).1 ((n : Int) - (out.length : Int)) = true
    · rw [if_pos c1] at h; simp at h
    · rw [if_neg c1] at h;by_cases c2 : win.apE size (old ++ out) (symbolQ (bareX l size (old ++ out)) q).2.t.s (symbolQ (bareX l size (old ++ out)) q).1 = 0
      · rw [if_pos c2] at h;refine ih _ _ _ _ ?_ h;unfold badY at c1;simp at c1;have := apB_len size (old ++ out) (symbolQ (bareX l size (old ++ out)) q).2.t.s (symbolQ (bareX l size (old ++ out)) q).1 c2 (by omega)
        rw [List.length_append];omega
      · rw [if_neg c2] at h; simp at h
  · rw [if_neg c0] at h;simp at h;rw [← h.2];omega
theorem takeQ_len (t : Tb) (size : Nat) (old b : List UInt8) (n : Nat) {t' : Tb} {o : List UInt8} (h : takeQ t size old b n = some (t', o)) : o.length = n := by
 unfold takeQ at h;cases ha : allQ t size old b n with
 | none => rw [ha] at h; simp at h
 | some p =>
  rw [ha] at h;obtain ⟨q, out⟩ := p;simp only [] at h;split at h
  · simp at h;unfold allQ at ha;split at ha
    · have := allGo_len _ _ _ _ _ _ _ _ _ (by simp) ha
      rw [← h.2]; exact this
    · simp at ha
  · simp at h
end Go.Proofs.YtcjehjdehdoaeaaGreatDoor
