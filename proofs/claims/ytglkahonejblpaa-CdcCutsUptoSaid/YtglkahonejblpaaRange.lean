/-
  A range over a function whose rounds always go on, where the iterator keeps state of its own in memory: what the loop's body holds between two rounds abides the iterator's own block. Conditions: each premise's own.
-/
import Derived.Test.YtglkahonejblpaaEnds
namespace Go.Proofs.Ytglkahonejblpaa
open Go.RowKit Go.Shelf

theorem Fr.put_ {S : Nat → Prop} {a w : World} (h : Fr S a w) {l : Nat} (hl : S l) (o : Obj) : Fr S a (w.putObj l o) :=
  h.trans ⟨rfl, rfl, rfl, by simp [World.putObj], fun i _ hi => World.putObj_heap_other (fun e => hi (by rw [e]; exact hl))⟩
/-- a round's end: the record and the block for deferred calls are as they were -/
def RoundPost (D : Nat) (R : World → Prop) (W : World) : Exit → Act → World → Prop
  | .normal, _, W' => W'.heap[D]? = W.heap[D]? ∧ W'.heap[D + 1]? = W.heap[D + 1]? ∧ R W'
  | _, _, _ => False
theorem range_on {P : Program} {g : Operand} {ps : Array Tmp} {assign body : Code} {Q : Exit → Act → World → Prop} {a : Act} {w : World} {n : Nat} (h1 : 1 ≤ n) {gf : Nat} {lb : Array Value} (hg : a.eval g = .func (.func gf) #[] lb)
    (eg : ∀ args w, (callFunc gf args).run P w = .ok (.enter gf args) w) (hps : ps.size = 1) (I : List Nat → World → Prop) (K : Nat → Prop) (N : Nat) (xs : List Nat) (D : Nat) (hD : w.heap.size = D) (hK : ∀ g, K g → g ≠ D ∧ g ≠ D + 1)
    (hI1 : ∀ pre W W', I pre W → Fr (fun k => k = D ∨ k = D + 1) W W' → I pre W') (hI2 : ∀ pre W W', I pre W → Fr (fun k => k = D + 2) W W' → I pre W') (h0 : I [] w)
    (hiter : ∀ (J : List Nat → World → Prop) (r : Loop), J [] ((w.alloc (.deferred (some []))).alloc (.loop r)) → (∀ pre W W', J pre W → Fr (fun k => k = D + 2) W W' → J pre W') →
      (∀ pre (x : Nat) W, J pre W → x ≤ N → pre.length < N → D + 2 < W.heap.size → YieldAt Fence.wide (n - 1 - 1) P (D + 1) #[.int .i64 (x : Int)] W fun e W' => e = .returned (.bool true) ∧ J (pre ++ [x]) W' ∧ KeepAt K W W') →
      CallsIn Fence.wide (n - 1) P gf (#[.func (.yield (D + 1)) #[] #[]] ++ lb) ((w.alloc (.deferred (some []))).alloc (.loop r)) fun e W' => (∃ v, e = .returned v) ∧ J xs W')
    (a₁ : Nat → Act)
    (hassign : ∀ (x : Nat) (W : World) (R : Act → World → Prop), R (a₁ x) W → assign.wpIn (Fence.wide.inRound (D + 1)) (n - 1 - 1) P (Exit.then R (fun _ _ _ => False)) { tmps := (ps.zip #[Value.int .i64 (x : Int)]).foldl (fun t (p, v) => t.setIfInBounds p v) a.tmps, defers := [] } W)
    (hbody : ∀ pre (x : Nat) (W : World), I pre W → x ≤ N → pre.length < N → D + 2 < W.heap.size → body.wpIn (Fence.wide.inRound (D + 1)) (n - 1 - 1) P (RoundPost D (fun W' => I (pre ++ [x]) W' ∧ KeepAt K W W') W) (a₁ x) W)
    (hdone : ∀ W, I xs W → W.heap[D]? = some (.deferred (some [])) → Q .normal { a with defers := { target := .collected D, args := #[] } :: a.defers } W) :
    (Code.rangeFunc g ps assign body).wpIn Fence.wide n P Q a w := by
  refine wpIn_rangeFunc ?_
  intro fn hfn
  obtain ⟨rec, hrec⟩ : ∃ rec : LoopState → Option Code → Loop, rec = fun st pe => { state := st, pending := pe, fn, tmps := a.tmps, params := ps, assign, body, defers := D } := ⟨_, rfl⟩
  have hL : ((w.alloc (.deferred (some []))).alloc (.loop (rec .ready none))).heap[D + 1]? = some (.loop (rec .ready none)) := by
    have := World.alloc_heap_new (w.alloc (.deferred (some []))) (.loop (rec .ready none))
    rwa [World.size_alloc, hD] at this
  have hM : ((w.alloc (.deferred (some []))).alloc (.loop (rec .ready none))).heap[D]? = some (.deferred (some [])) := by
    rw [← hD]
    exact (Below.heap_alloc _ _ _ (by simp)).trans (World.alloc_heap_new w _)
  have hI0 : I [] ((w.alloc (.deferred (some []))).alloc (.loop (rec .ready none))) := hI1 _ _ _ h0 (((Fr.refl _ w).alloc _).alloc _)
  refine ⟨D + 1, [{ target := .collected D, args := #[] }], (w.alloc (.deferred (some []))).alloc (.loop (rec .ready none)), { target := .fn (.func gf) lb, args := #[.func (.yield (D + 1)) #[] #[]] }, (w.alloc (.deferred (some []))).alloc (.loop (rec .ready none)), gf,
    #[.func (.yield (D + 1)) #[] #[]] ++ lb, (w.alloc (.deferred (some []))).alloc (.loop (rec .ready none)), ?_, ?_, ?_, ?_, fun _ => h1, ?_⟩
  · have := run_enterLoop_outer (P := P) (w := w) fn a.tmps ps assign body
    rw [hD] at this
    rw [hrec]
    exact this
  · simp only [resolve, hg]
    simp [go_sem]
  · intro f' hf'
    trivial
  · simp [invoke, go_sem, eg]
  · refine (hiter (fun pre W => I pre W ∧ W.heap[D + 1]? = some (.loop (rec .ready none)) ∧ W.heap[D]? = some (.deferred (some []))) (rec .ready none) ⟨hI0, hL, hM⟩ ?_ ?_).mono ?_
    · rintro pre W W' ⟨i1, i2, i3⟩ hF
      have e1 : D + 1 < W.heap.size := (Array.getElem?_eq_some_iff.1 i2).1
      exact ⟨hI2 _ _ _ i1 hF, (hF.block _ e1 (by omega)).trans i2, (hF.block _ (by omega) (by omega)).trans i3⟩
    · rintro pre x W ⟨i1, i2, i3⟩ hx hln hsz
      have e1 : D + 1 < W.heap.size := (Array.getElem?_eq_some_iff.1 i2).1
      have hy := run_yield (P := P) (args := #[Value.int .i64 (x : Int)]) i2 (by rw [hrec]; simp [hps])
      rw [hrec] at hy
      refine ⟨fn, _, assign, body, hy, roundIn_of_wpIn hfn (hassign x W _ ⟨_, run_beginRound i2 (by rw [hrec]), ?_⟩)⟩
      obtain ⟨Wb, hWb⟩ : ∃ Wb, W.putObj (D + 1) (.loop { rec .ready none with state := .busy }) = Wb := ⟨_, rfl⟩
      have b1 : Wb.heap[D + 1]? = some (.loop { rec .ready none with state := .busy }) := by rw [← hWb]; exact World.putObj_heap_same e1
      have b2 : Wb.heap[D]? = some (.deferred (some [])) := by rw [← hWb]; exact (World.putObj_heap_other (by omega)).trans i3
      have b3 : Fr (fun k => k = D ∨ k = D + 1) W Wb := by rw [← hWb]; exact (Fr.refl _ W).put_ (.inr rfl) _
      rw [hWb]
      refine wpIn_mono (hbody pre x Wb (hI1 _ _ _ i1 b3) hx hln (Nat.lt_of_lt_of_le hsz b3.size)) ?_
      rintro e a3 W3 hp
      cases e with
      | normal =>
        obtain ⟨k1, k2, k3, k4⟩ := hp
        rw [b1] at k2
        rw [b2] at k1
        have hr := run_endRound (P := P) none k2
        have e3 : D + 1 < W3.heap.size := (Array.getElem?_eq_some_iff.1 k2).1
        have b4 : Fr (fun k => k = D ∨ k = D + 1) W3 (W3.putObj (D + 1) (.loop (rec .ready none))) := (Fr.refl _ W3).put_ (.inr rfl) _
        refine ⟨_, _, hr, rfl, ⟨?_, ?_, ?_⟩, ?_, ?_⟩
        · have := hI1 _ _ _ k3 b4
          rw [hrec] at this ⊢
          exact this
        · rw [World.putObj_heap_same e3, hrec]
          rfl
        · exact (World.putObj_heap_other (by omega)).trans k1
        · exact Nat.le_trans (Nat.le_trans b3.size k4.1) (by simp)
        · intro q hq
          have hne := hK q hq
          exact ((World.putObj_heap_other hne.2).trans (k4.2 q hq)).trans (by rw [← hWb]; exact World.putObj_heap_other hne.2)
      | _ => exact hp.elim
    · rintro e W2 ⟨⟨v, rfl⟩, i1, i2, i3⟩
      refine ⟨none, _, by have := run_endLoop (P := P) i2 (by rw [hrec]; simp); rw [hrec] at this; exact this, ?_⟩
      have b4 : Fr (fun k => k = D ∨ k = D + 1) W2 (W2.putObj (D + 1) (.loop { rec .ready none with state := .exhausted })) := (Fr.refl _ W2).put_ (.inr rfl) _
      have h5 := hI1 _ _ _ i1 b4
      rw [hrec] at h5
      exact hdone _ h5 ((World.putObj_heap_other (by omega)).trans i3)
end Go.Proofs.Ytglkahonejblpaa
