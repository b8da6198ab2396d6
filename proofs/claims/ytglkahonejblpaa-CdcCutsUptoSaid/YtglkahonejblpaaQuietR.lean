/-
  A region that draws its order, whose operations only read, in a round of a range over a function: one walk in the order of the text. Conditions: each premise's own.
-/
import Derived.Test.YtglkahonejblpaaRangeL
import Derived.Sort.QuietThIn
import Derived.Sort.QuietIn
namespace Go.Proofs.Ytglkahonejblpaa
open Go.RowKit Go.Shelf

section
variable {P : Program} {n r : Nat} {ops : Array Oper} {md : Region.Mode}
theorem op_round {o : Oper} (hd : ∀ c, o.op ≠ .defer c) {a : Act} {w : World} {K : Act → World → Prop} {Q : Exit → Act → World → Prop} (h : o.wpIn Fence.wide n P a w K Q) : o.wpIn (Fence.wide.inRound r) n P a w K Q := by
  refine ⟨h.1, ?_⟩
  have h2 := h.2
  rw [Oper.semAt_eq _ _ _ hd] at h2 ⊢
  exact h2
theorem any_round (hd : ∀ (i : Nat) (o : Oper), ops[i]? = some o → ∀ c, o.op ≠ .defer c) {Q : Exit → Act → World → Prop} : ∀ (f : Nat) (ls : Array Bool) (a : Act) (w : World), wpAnyIn Fence.wide n P md ops Q f ls a w → wpAnyIn (Fence.wide.inRound r) n P md ops Q f ls a w := by
  intro f
  induction f with
  | zero => intro ls a w h; exact h
  | succ f ih =>
    intro ls a w h
    refine ⟨h.1, fun i hi => ?_⟩
    have h3 := h.2 i hi
    have h4 := wpOpIn_mono (fun a' w' hh => ih _ a' w' hh) h3
    unfold wpOpIn at h4 ⊢
    cases ho : ops[i]? with
    | none => rw [ho] at h4; exact h4
    | some o =>
      rw [ho] at h4
      simp only at h4 ⊢
      by_cases hw : Region.wanted o (yielded ops a.tmps) = true
      · rw [if_pos hw] at h4 ⊢
        exact op_round (hd i o ho) h4
      · rw [if_neg hw] at h4 ⊢
        exact h4
end
theorem quiet_round {P : Program} {n r id : Nat} {l : List Oper} {Q : Exit → Act → World → Prop} {a : Act} {w : World} (hm : P.follows .mixedOrders = true) (hB : Region.lexB .any l.toArray = true) (hd : l.all (fun o => match o.op with | .defer _ => false | _ => true) = true)
    (h : wpQuietIn Fence.wide n P l.toArray (fun w' => ∃ k, w' = w.drewN k) (fun a' => ∀ w', (∃ k, w' = w.drewN k) → Q .normal a' w') l a) : (Code.region id l.toArray true).wpIn (Fence.wide.inRound r) n P Q a w := by
  have hB' := hB
  simp only [Region.lexB, Bool.and_eq_true] at hB'
  have h5 := wpAnyQIn_lex (F := Fence.wide) (n := n) (md := .any) (ops := l.toArray) hB'.1 l 0 (Array.replicate l.length false) a (fun j => by simp) (by simpa using hB'.2) h
  have h6 := wpAnyIn_of_quiet (F := Fence.wide) (n := n) (Q' := Q) (C := fun w' => ∃ k, w' = w.drewN k) rfl (fun _ w' hw' hh => hh w' hw') _ _ _ { w with drawn := w.drawn + 1 } ⟨1, rfl⟩ h5
  refine wpIn_region_any hm (any_round (fun i o ho c e => ?_) _ _ _ _ (by simpa using h6))
  have h7 := List.all_eq_true.1 hd o (by
    rw [List.getElem?_toArray] at ho
    exact List.mem_of_getElem? ho)
  rw [e] at h7
  cases h7
end Go.Proofs.Ytglkahonejblpaa
