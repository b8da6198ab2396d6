/-
  A range over a function, whose body may leave by one jump; a quiet region in its round. Conditions: each premise's own.
-/
import Derived.Test.YthlflcnpmabmbaaDoorCdBase
import Derived.RangeFuncBox
import Derived.RangeFuncLeaves
import Derived.RangeFuncCalls
import Derived.RangeFuncNested
import Derived.RangeFuncBound
import Derived.Shelf.Abstract
import Derived.Shelf.RegionOpen
import Derived.OwnWalkIn
import Derived.TacticsInMore
import Derived.LoopNIn
import Derived.LoopIn
import Derived.Sort.QuietThIn
import Derived.Sort.QuietIn
namespace Go.Proofs.YthlflcnpmabmbaaDoor
open Go.RowKit Go.Shelf

/-- what a round of the loop keeps: these blocks -/
def KeepAt (K : Nat → Prop) (W W' : World) : Prop := W.heap.size ≤ W'.heap.size ∧ ∀ g, K g → W'.heap[g]? = W.heap[g]?
theorem Fr.put_ {S : Nat → Prop} {a w : World} (h : Fr S a w) {l : Nat} (hl : S l) (o : Obj) : Fr S a (w.putObj l o) :=
  h.trans ⟨rfl, rfl, rfl, by simp [World.putObj], fun i _ hi => World.putObj_heap_other (fun e => hi (by rw [e]; exact hl))⟩
/-- a round's end: it goes on, or it leaves by the jump c -/
def RoundPostL (D : Nat) (c : Code) (R Rx : World → Prop) (W : World) : Exit → Act → World → Prop
  | .normal, _, W' => W'.heap[D]? = W.heap[D]? ∧ W'.heap[D + 1]? = W.heap[D + 1]? ∧ R W'
  | .ret, _, W' => c = .ret ∧ W'.heap[D]? = W.heap[D]? ∧ W'.heap[D + 1]? = W.heap[D + 1]? ∧ Rx W'
  | .exit id, _, W' => c = .exit id ∧ W'.heap[D]? = W.heap[D]? ∧ W'.heap[D + 1]? = W.heap[D + 1]? ∧ Rx W'
  | _, _, _ => False
theorem range_lv {P : Program} {g : Operand} {ps : Array Tmp} {assign body : Code} {Q : Exit → Act → World → Prop} {a : Act} {w : World} {n : Nat} (h1 : 1 ≤ n) {gf : Nat} {lb : Array Value} (hg : a.eval g = .func (.func gf) #[] lb)
    (eg : ∀ args w, (callFunc gf args).run P w = .ok (.enter gf args) w) (hps : ps.size = 1) (c : Code) (I : Nat → World → Prop) (Ix : World → Prop) (V : Nat → Value → World → Prop) (own : Nat → Prop) (K : Nat → Prop) (N : Nat) (D : Nat) (hD : w.heap.size = D)
    (hK : ∀ g, K g → g ≠ D ∧ g ≠ D + 1) (hO : ∀ g, own g → g ≠ D ∧ g ≠ D + 1)
    (hI1 : ∀ k W W', I k W → Fr (fun g => g = D ∨ g = D + 1) W W' → I k W') (hI2 : ∀ k W W', I k W → Fr own W W' → I k W')
    (hX1 : ∀ W W', Ix W → Fr (fun g => g = D ∨ g = D + 1) W W' → Ix W') (hX2 : ∀ W W', Ix W → Fr own W W' → Ix W')
    (hV1 : ∀ k v W W', V k v W → Fr (fun g => g = D ∨ g = D + 1) W W' → V k v W') (h0 : I 0 w)
    (hiter : ∀ (J : Nat → World → Prop) (Jx : World → Prop) (r : Loop), J 0 ((w.alloc (.deferred (some []))).alloc (.loop r)) → (∀ k W W', J k W → Fr own W W' → J k W') → (∀ W W', Jx W → Fr own W W' → Jx W') → (∀ k W, J k W → I k W ∧ D + 1 < W.heap.size) →
      (∀ k (v : Value) W, J k W → V k v W → k < N → YieldAt Fence.wide (n - 1 - 1) P (D + 1) #[v] W fun e W' => (e = .returned (.bool true) ∧ J (k + 1) W' ∧ KeepAt K W W') ∨ (e = .returned (.bool false) ∧ Jx W' ∧ KeepAt K W W')) →
      CallsIn Fence.wide (n - 1) P gf (#[.func (.yield (D + 1)) #[] #[]] ++ lb) ((w.alloc (.deferred (some []))).alloc (.loop r)) fun e W' => (∃ v, e = .returned v) ∧ (J N W' ∨ Jx W'))
    (a₁ : Value → Act)
    (hassign : ∀ (v : Value) (W : World) (R : Act → World → Prop), R (a₁ v) W → assign.wpIn (Fence.wide.inRound (D + 1)) (n - 1 - 1) P (Exit.then R (fun _ _ _ => False)) { tmps := (ps.zip #[v]).foldl (fun t (p, v) => t.setIfInBounds p v) a.tmps, defers := [] } W)
    (hbody : ∀ k (v : Value) (W : World), I k W → V k v W → k < N → D + 1 < W.heap.size → body.wpIn (Fence.wide.inRound (D + 1)) (n - 1 - 1) P (RoundPostL D c (fun W' => I (k + 1) W' ∧ KeepAt K W W') (fun W' => Ix W' ∧ KeepAt K W W') W) (a₁ v) W)
    (hdone : ∀ W, I N W → W.heap[D]? = some (.deferred (some [])) → Q .normal { a with defers := { target := .collected D, args := #[] } :: a.defers } W)
    (hstop : ∀ W, Ix W → W.heap[D]? = some (.deferred (some [])) → c.wpIn Fence.wide n P Q { a with defers := { target := .collected D, args := #[] } :: a.defers } W) :
    (Code.rangeFunc g ps assign body).wpIn Fence.wide n P Q a w := by
  refine wpIn_rangeFunc ?_
  intro fn hfn
  obtain ⟨rec, hrec⟩ : ∃ rec : LoopState → Option Code → Loop, rec = fun st pe => { state := st, pending := pe, fn, tmps := a.tmps, params := ps, assign, body, defers := D } := ⟨_, rfl⟩
  have hL : ((w.alloc (.deferred (some []))).alloc (.loop (rec .ready none))).heap[D + 1]? = some (.loop (rec .ready none)) := by
    have := World.alloc_heap_new (w.alloc (.deferred (some []))) (.loop (rec .ready none))
    rwa [World.size_alloc, hD] at this
  have hM : ((w.alloc (.deferred (some []))).alloc (.loop (rec .ready none))).heap[D]? = some (.deferred (some [])) := by
    rw [← hD]
    exact (Below.heap_alloc _ _ _ (by simp)).trans (World.alloc_heap_new w _)
  have hI0 : I 0 ((w.alloc (.deferred (some []))).alloc (.loop (rec .ready none))) := hI1 _ _ _ h0 (((Fr.refl _ w).alloc _).alloc _)
  refine ⟨D + 1, [{ target := .collected D, args := #[] }], (w.alloc (.deferred (some []))).alloc (.loop (rec .ready none)), { target := .fn (.func gf) lb, args := #[.func (.yield (D + 1)) #[] #[]] }, (w.alloc (.deferred (some []))).alloc (.loop (rec .ready none)), gf,
    #[.func (.yield (D + 1)) #[] #[]] ++ lb, (w.alloc (.deferred (some []))).alloc (.loop (rec .ready none)), ?_, ?_, ?_, ?_, fun _ => h1, ?_⟩
  · have := run_enterLoop_outer (P := P) (w := w) fn a.tmps ps assign body
    rw [hD] at this
    rw [hrec]
    exact this
  · simp only [resolve, hg]
    simp [go_sem]
  · intro f' hf'
    trivial
  · simp [invoke, go_sem, eg]
  · refine (hiter (fun k W => I k W ∧ W.heap[D + 1]? = some (.loop (rec .ready none)) ∧ W.heap[D]? = some (.deferred (some [])))
      (fun W => Ix W ∧ W.heap[D + 1]? = some (.loop (rec .done (some c))) ∧ W.heap[D]? = some (.deferred (some []))) (rec .ready none) ⟨hI0, hL, hM⟩ ?_ ?_ (fun k W h => ⟨h.1, (Array.getElem?_eq_some_iff.1 h.2.1).1⟩) ?_).mono ?_
    · rintro k W W' ⟨i1, i2, i3⟩ hF
      have e1 : D + 1 < W.heap.size := (Array.getElem?_eq_some_iff.1 i2).1
      exact ⟨hI2 _ _ _ i1 hF, (hF.block _ e1 (fun e => (hO _ e).2 rfl)).trans i2, (hF.block _ (by omega) (fun e => (hO _ e).1 rfl)).trans i3⟩
    · rintro W W' ⟨i1, i2, i3⟩ hF
      have e1 : D + 1 < W.heap.size := (Array.getElem?_eq_some_iff.1 i2).1
      exact ⟨hX2 _ _ i1 hF, (hF.block _ e1 (fun e => (hO _ e).2 rfl)).trans i2, (hF.block _ (by omega) (fun e => (hO _ e).1 rfl)).trans i3⟩
    · rintro k v W ⟨i1, i2, i3⟩ hv hln
      have e1 : D + 1 < W.heap.size := (Array.getElem?_eq_some_iff.1 i2).1
      have hy := run_yield (P := P) (args := #[v]) i2 (by rw [hrec]; simp [hps])
      rw [hrec] at hy
      refine ⟨fn, _, assign, body, hy, roundIn_of_wpIn hfn (hassign v W _ ⟨_, run_beginRound i2 (by rw [hrec]), ?_⟩)⟩
      obtain ⟨Wb, hWb⟩ : ∃ Wb, W.putObj (D + 1) (.loop { rec .ready none with state := .busy }) = Wb := ⟨_, rfl⟩
      have b1 : Wb.heap[D + 1]? = some (.loop { rec .ready none with state := .busy }) := by rw [← hWb]; exact World.putObj_heap_same e1
      have b2 : Wb.heap[D]? = some (.deferred (some [])) := by rw [← hWb]; exact (World.putObj_heap_other (by omega)).trans i3
      have b3 : Fr (fun k => k = D ∨ k = D + 1) W Wb := by rw [← hWb]; exact (Fr.refl _ W).put_ (.inr rfl) _
      rw [hWb]
      have hend : ∀ (jump : Option Code) (W3 : World), W3.heap[D]? = Wb.heap[D]? → W3.heap[D + 1]? = Wb.heap[D + 1]? → KeepAt K Wb W3 → ∃ Wn, (Instr.endRound (D + 1) jump).run P W3 = .ok (.bool jump.isNone) Wn ∧
          Fr (fun k => k = D ∨ k = D + 1) W3 Wn ∧ Wn.heap[D + 1]? = some (.loop (rec (if jump.isNone then .ready else .done) jump)) ∧ Wn.heap[D]? = some (.deferred (some [])) ∧ KeepAt K W Wn := fun jump W3 k1 k2 k4 => by
        rw [b1] at k2
        rw [b2] at k1
        have hr := run_endRound (P := P) jump k2
        have e3 : D + 1 < W3.heap.size := (Array.getElem?_eq_some_iff.1 k2).1
        refine ⟨_, hr, (Fr.refl _ W3).put_ (.inr rfl) _, ?_, ?_, ?_, ?_⟩
        · rw [World.putObj_heap_same e3, hrec]
        · exact (World.putObj_heap_other (by omega)).trans k1
        · exact Nat.le_trans (Nat.le_trans b3.size k4.1) (by simp)
        · intro q hq
          have hne := hK q hq
          exact ((World.putObj_heap_other hne.2).trans (k4.2 q hq)).trans (by rw [← hWb]; exact World.putObj_heap_other hne.2)
      refine wpIn_mono (hbody k v Wb (hI1 _ _ _ i1 b3) (hV1 _ _ _ _ hv b3) hln (Nat.lt_of_lt_of_le e1 b3.size)) ?_
      rintro e a3 W3 hp
      cases e with
      | normal =>
        obtain ⟨k1, k2, k3, k4⟩ := hp
        obtain ⟨Wn, hr, hF, c1, c2, c3⟩ := hend none W3 k1 k2 k4
        exact ⟨_, _, hr, .inl ⟨rfl, ⟨hI1 _ _ _ k3 hF, c1, c2⟩, c3⟩⟩
      | ret =>
        obtain ⟨hc, k1, k2, k3, k4⟩ := hp
        obtain ⟨Wn, hr, hF, c1, c2, c3⟩ := hend (some .ret) W3 k1 k2 k4
        exact ⟨_, _, hr, .inr ⟨rfl, ⟨hX1 _ _ k3 hF, by rw [hc]; exact c1, c2⟩, c3⟩⟩
      | exit id =>
        obtain ⟨hc, k1, k2, k3, k4⟩ := hp
        obtain ⟨Wn, hr, hF, c1, c2, c3⟩ := hend (some (.exit id)) W3 k1 k2 k4
        exact ⟨_, _, hr, .inr ⟨rfl, ⟨hX1 _ _ k3 hF, by rw [hc]; exact c1, c2⟩, c3⟩⟩
      | _ => exact hp.elim
    · rintro e W2 ⟨⟨v, rfl⟩, ⟨i1, i2, i3⟩ | ⟨i1, i2, i3⟩⟩
      · refine ⟨none, _, by have := run_endLoop (P := P) i2 (by rw [hrec]; simp); rw [hrec] at this; exact this, ?_⟩
        have b4 : Fr (fun k => k = D ∨ k = D + 1) W2 (W2.putObj (D + 1) (.loop { rec .ready none with state := .exhausted })) := (Fr.refl _ W2).put_ (.inr rfl) _
        have h5 := hI1 _ _ _ i1 b4
        rw [hrec] at h5
        exact hdone _ h5 ((World.putObj_heap_other (by omega)).trans i3)
      · refine ⟨some c, _, by have := run_endLoop (P := P) i2 (by rw [hrec]; simp); rw [hrec] at this; exact this, ?_⟩
        have b4 : Fr (fun k => k = D ∨ k = D + 1) W2 (W2.putObj (D + 1) (.loop { rec .done (some c) with state := .exhausted })) := (Fr.refl _ W2).put_ (.inr rfl) _
        have h5 := hX1 _ _ i1 b4
        rw [hrec] at h5
        exact hstop _ h5 ((World.putObj_heap_other (by omega)).trans i3)
theorem yield_any {P : Program} {a b l : Nat} {args : Array Value} {W : World} {R : Ending → World → Prop} (h : YieldAt Fence.wide a P l args W R) : YieldAt Fence.wide b P l args W R := by
  obtain ⟨fn, tmps, assign, body, h1, h2⟩ := h
  refine ⟨fn, tmps, assign, body, h1, h2.1, fun c cs hr => ?_⟩
  exact h2.2 c cs (by simp [Fence.room, Fence.wide])
theorem yield_round {P : Program} {a l l' : Nat} {args : Array Value} {W : World} {R : Ending → World → Prop} (h : YieldAt Fence.wide a P l args W R) : YieldAt (Fence.wide.inRound l') a P l args W R := h
section
variable {P : Program} {n r : Nat} {ops : Array Oper} {md : Region.Mode}
theorem op_round {o : Oper} (hd : ∀ c, o.op ≠ .defer c) {a : Act} {w : World} {K : Act → World → Prop} {Q : Exit → Act → World → Prop} (h : o.wpIn Fence.wide n P a w K Q) : o.wpIn (Fence.wide.inRound r) n P a w K Q := by
  refine ⟨h.1, ?_⟩
  have h2 := h.2
  rw [Oper.semAt_eq _ _ _ hd] at h2 ⊢
  exact h2
theorem any_round (hd : ∀ (i : Nat) (o : Oper), ops[i]? = some o → ∀ c, o.op ≠ .defer c) {Q : Exit → Act → World → Prop} : ∀ (f : Nat) (ls : Array Bool) (a : Act) (w : World), wpAnyIn Fence.wide n P md ops Q f ls a w → wpAnyIn (Fence.wide.inRound r) n P md ops Q f ls a w := by
  intro f
  induction f with
  | zero => intro ls a w h; exact h
  | succ f ih =>
    intro ls a w h
    refine ⟨h.1, fun i hi => ?_⟩
    have h3 := h.2 i hi
    have h4 := wpOpIn_mono (fun a' w' hh => ih _ a' w' hh) h3
    unfold wpOpIn at h4 ⊢
    cases ho : ops[i]? with
    | none => rw [ho] at h4; exact h4
    | some o =>
      rw [ho] at h4
      simp only at h4 ⊢
      by_cases hw : Region.wanted o (yielded ops a.tmps) = true
      · rw [if_pos hw] at h4 ⊢
        exact op_round (hd i o ho) h4
      · rw [if_neg hw] at h4 ⊢
        exact h4
end
theorem quiet_round {P : Program} {n r id : Nat} {l : List Oper} {Q : Exit → Act → World → Prop} {a : Act} {w : World} (hm : P.follows .mixedOrders = true) (hB : Region.lexB .any l.toArray = true) (hd : l.all (fun o => match o.op with | .defer _ => false | _ => true) = true)
    (h : wpQuietIn Fence.wide n P l.toArray (fun w' => ∃ k, w' = w.drewN k) (fun a' => ∀ w', (∃ k, w' = w.drewN k) → Q .normal a' w') l a) : (Code.region id l.toArray true).wpIn (Fence.wide.inRound r) n P Q a w := by
  have hB' := hB
  simp only [Region.lexB, Bool.and_eq_true] at hB'
  have h5 := wpAnyQIn_lex (F := Fence.wide) (n := n) (md := .any) (ops := l.toArray) hB'.1 l 0 (Array.replicate l.length false) a (fun j => by simp) (by simpa using hB'.2) h
  have h6 := wpAnyIn_of_quiet (F := Fence.wide) (n := n) (Q' := Q) (C := fun w' => ∃ k, w' = w.drewN k) rfl (fun _ w' hw' hh => hh w' hw') _ _ _ { w with drawn := w.drawn + 1 } ⟨1, rfl⟩ h5
  refine wpIn_region_any hm (any_round (fun i o ho c e => ?_) _ _ _ _ (by simpa using h6))
  have h7 := List.all_eq_true.1 hd o (by
    rw [List.getElem?_toArray] at ho
    exact List.mem_of_getElem? ho)
  rw [e] at h7
  cases h7
end Go.Proofs.YthlflcnpmabmbaaDoor
