/-
  The built-in copy into a row of the call's own, from a slice that reads as a list: what the row holds behind it. No conditions beyond each lemma's own premises.
-/
import Derived.Test.YtcfaocbdhfmhbaaMem
import Derived.Laws.CopyRow
import Derived.Laws.IdiomCopy
namespace Go.Proofs.Ytcfaocbdhfmhbaa
open Go.RowKit

section
variable {P : Program} {w : World}
theorem run_copy_rd (t ty e : TypeId) (ht : P.underlying t = some (.slice e)) (hsz : (P.info? e).map (·.size) = some 1)
    (B g off dLen dCap n cap : Nat) (xs : List Value) (hown : w.ownsRow B e 1 (.slice (some ⟨g, 0, none⟩) n cap) n xs) (hoff : off + dLen = n)
    (A : Option Addr) (m c : Nat) (news : List Value) (hr : Rd w 1 A m news) (h1 : ∀ u ∈ news, u.oneCell' = true) (k : Nat) (hk : k = min m dLen) :
    ∃ w', (Builtin.copy_ #[t, t] ty #[.slice (some ⟨g, off, none⟩) dLen dCap, .slice A m c]).run P w = .ok (goInt k) w' ∧
      w'.ownsRow B e 1 (.slice (some ⟨g, 0, none⟩) n cap) n (xs.take off ++ news.take k ++ xs.drop (off + k)) ∧ w.grownBy w' (some g) := by
  have hxl : xs.length = n := by have := hown.1; omega
  have hnl : news.length = m := by have := hr.1; omega
  have hkm : k ≤ m := by omega
  have hkd : k ≤ dLen := by omega
  rcases Nat.eq_zero_or_pos k with h0 | h0
  · subst h0
    refine ⟨w, run_copy_none w t t ty e _ _ _ _ _ _ ht hsz hk.symm, ?_, World.grownBy.refl w _⟩
    simpa using hown
  · obtain ⟨ad, rfl, hc⟩ := hr.2 (by omega)
    have hown0 := hown
    rcases hown.2 with ⟨hv, _⟩ | ⟨g', cap', cur, hv, hB, hg, hn, hcm, hcs, htk⟩
    · cases hv
    · injection hv with e1 _ e3
      injection e1 with e1
      injection e1 with e1
      subst e1; subst e3
      have hcl : (news.take k).length = k := by rw [List.length_take]; omega
      have hrun := run_copy_row (P := P) w t t ty e g off dLen dCap ad m c cur e (news.take k) ht hsz hg (by rw [hcl]; exact hk) (fun j v hj => hc j v (by
        rw [List.getElem?_take] at hj
        split at hj
        · exact hj
        · cases hj)) (by rw [hcl, hcs]; omega) (fun v hv => h1 v (List.mem_of_mem_take hv))
      rw [hcl] at hrun
      refine ⟨_, hrun, ⟨?_, .inr ⟨g, cap, _, rfl, hB, setRow_heap w g _ _ e _ hg, hn, hcm, ?_, ?_⟩⟩, ⟨rfl, rfl, rfl, by simp [World.setRow], fun j _ hj => setRow_other w g j _ (fun e => hj (by rw [e]))⟩⟩
      · simp only [List.length_append, List.length_take, List.length_drop, hxl, hcl]; omega
      · simp only [List.size_toArray, List.length_append, List.length_take, List.length_drop, hcl, Array.length_toList]; omega
      · have hcur : cur.toList.length = cap := by simp [hcs]
        have hxs : xs = cur.toList.take n := by rw [← htk, Nat.mul_one]
        rw [Nat.mul_one, hxs]
        simp only [List.toList_toArray]
        apply List.ext_getElem?
        intro j
        have l1 : (cur.toList.take off).length = off := by rw [List.length_take]; omega
        have l2 : ((cur.toList.take n).take off).length = off := by rw [List.length_take, List.length_take]; omega
        rw [List.getElem?_take]
        by_cases hj : j < n
        · rw [if_pos hj]
          simp only [List.append_assoc, List.getElem?_append, l1, l2, hcl]
          by_cases h2 : j < off
          · rw [if_pos h2, if_pos h2, List.getElem?_take_of_lt h2, List.getElem?_take_of_lt h2, List.getElem?_take_of_lt hj]
          · rw [if_neg h2, if_neg h2]
            by_cases h3 : j - off < k
            · rw [if_pos h3, if_pos h3]
            · rw [if_neg h3, if_neg h3, List.getElem?_drop, List.getElem?_drop, List.getElem?_take_of_lt (by omega)]
        · rw [if_neg hj, List.getElem?_eq_none]
          simp only [List.length_append, List.length_take, List.length_drop]; omega
theorem step_copy_rd {ops : Array Oper} {o : Oper} {a : Act} {K : Act → World → Prop} {Q : Exit → Act → World → Prop} {E : Prop} (hgd : o.guard = none) (s x : Operand) (t : TypeId)
    (ho : o.op = .call { callee := .builtin .copy, args := #[s, x], argTypes := #[t, t] }) (e : TypeId) (ht : P.underlying t = some (.slice e)) (hsz : (P.info? e).map (·.size) = some 1)
    (B g off dLen dCap n cap : Nat) (hs : a.eval s = .slice (some ⟨g, off, none⟩) dLen dCap) (xs : List Value) (hown : w.ownsRow B e 1 (.slice (some ⟨g, 0, none⟩) n cap) n xs) (hoff : off + dLen = n)
    (A : Option Addr) (m c : Nat) (hx : a.eval x = .slice A m c) (news : List Value) (hr : Rd w 1 A m news) (h1 : ∀ u ∈ news, u.oneCell' = true) (k : Nat) (hk : k = min m dLen)
    (h : ∀ w', w'.ownsRow B e 1 (.slice (some ⟨g, 0, none⟩) n cap) n (xs.take off ++ news.take k ++ xs.drop (off + k)) → w.grownBy w' (some g) → K (a.put o.dst (goInt k)) w') :
    if Region.wanted o (yielded ops a.tmps) = true then Oper.wp P o a w K Q else E := by
  have hw : Region.wanted o (yielded ops a.tmps) = true := by simp [Region.wanted, hgd]
  rw [if_pos hw]
  obtain ⟨w', hrun, h2, h3⟩ := run_copy_rd (P := P) t o.type e ht hsz B g off dLen dCap n cap xs hown hoff A m c news hr h1 k hk
  unfold Oper.wp execOp
  simp only [ho, resolve, invoke, builtin, Sem.run_bind, Sem.run_pure, Result.andThen_ok, List.map_toArray, List.map_cons, List.map_nil, hs, hx, hrun]
  exact h w' h2 h3
end
end Go.Proofs.Ytcfaocbdhfmhbaa
