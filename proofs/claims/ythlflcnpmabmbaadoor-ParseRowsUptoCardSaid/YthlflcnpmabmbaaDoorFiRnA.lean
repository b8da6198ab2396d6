/-
  A range over a function whose round lays the variable in a block of its own, and may leave by one jump. Conditions: each premise's own.
-/
import Derived.Test.YthlflcnpmabmbaaDoorFiRng
namespace Go.Proofs.YthlflcnpmabmbaaDoor
open Go.RowKit Go.Shelf

theorem range_la {P : Program} {g : Operand} {ps : Array Tmp} {assign body : Code} {Q : Exit → Act → World → Prop} {a : Act} {w : World} {n : Nat} (h1 : 1 ≤ n) {gf : Nat} {lb : Array Value} (hg : a.eval g = .func (.func gf) #[] lb)
    (eg : ∀ args w, (callFunc gf args).run P w = .ok (.enter gf args) w) (hps : ps.size = 1) (c : Code) (I : Nat → World → Prop) (Ix : World → Prop) (V : Nat → Value → Prop) (N : Nat) (D : Nat) (hD : w.heap.size = D)
    (hI1 : ∀ k W W', I k W → Fr (fun g => g = D ∨ g = D + 1) W W' → I k W') (hX1 : ∀ W W', Ix W → Fr (fun g => g = D ∨ g = D + 1) W W' → Ix W') (h0 : I 0 w)
    (hiter : ∀ (J : Nat → World → Prop) (Jx : World → Prop) (r : Loop), J 0 ((w.alloc (.deferred (some []))).alloc (.loop r)) → (∀ k W W', J k W → Fr (fun _ => False) W W' → J k W') → (∀ k W, J k W → I k W ∧ D + 1 < W.heap.size) →
      (∀ k (v : Value) W, J k W → V k v → k < N → YieldAt Fence.wide (n - 1 - 1) P (D + 1) #[v] W fun e W' => (e = .returned (.bool true) ∧ J (k + 1) W') ∨ (e = .returned (.bool false) ∧ Jx W')) →
      CallsIn Fence.wide (n - 1) P gf (#[.func (.yield (D + 1)) #[] #[]] ++ lb) ((w.alloc (.deferred (some []))).alloc (.loop r)) fun e W' => (∃ v, e = .returned v) ∧ (J N W' ∨ Jx W'))
    (a₁ : Value → World → Act) (aw : Value → World → World) (haw : ∀ v W, Below W.heap.size W (aw v W))
    (hassign : ∀ k (v : Value) (W : World) (R : Act → World → Prop), V k v → R (a₁ v W) (aw v W) → assign.wpIn (Fence.wide.inRound (D + 1)) (n - 1 - 1) P (Exit.then R (fun _ _ _ => False)) { tmps := (ps.zip #[v]).foldl (fun t (p, v) => t.setIfInBounds p v) a.tmps, defers := [] } W)
    (hbody : ∀ k (v : Value) (W Wb : World), I k W → V k v → k < N → D + 1 < W.heap.size → Fr (fun g => g = D + 1) (aw v W) Wb → body.wpIn (Fence.wide.inRound (D + 1)) (n - 1 - 1) P (RoundPostL D c (fun W' => I (k + 1) W') (fun W' => Ix W') Wb) (a₁ v W) Wb)
    (hdone : ∀ W, I N W → W.heap[D]? = some (.deferred (some [])) → Q .normal { a with defers := { target := .collected D, args := #[] } :: a.defers } W)
    (hstop : ∀ W, Ix W → W.heap[D]? = some (.deferred (some [])) → c.wpIn Fence.wide n P Q { a with defers := { target := .collected D, args := #[] } :: a.defers } W) :
    (Code.rangeFunc g ps assign body).wpIn Fence.wide n P Q a w := by
  refine wpIn_rangeFunc ?_
  intro fn hfn
  obtain ⟨rec, hrec⟩ : ∃ rec : LoopState → Option Code → Loop, rec = fun st pe => { state := st, pending := pe, fn, tmps := a.tmps, params := ps, assign, body, defers := D } := ⟨_, rfl⟩
  have hL : ((w.alloc (.deferred (some []))).alloc (.loop (rec .ready none))).heap[D + 1]? = some (.loop (rec .ready none)) := by
    have := World.alloc_heap_new (w.alloc (.deferred (some []))) (.loop (rec .ready none))
    rwa [World.size_alloc, hD] at this
  have hM : ((w.alloc (.deferred (some []))).alloc (.loop (rec .ready none))).heap[D]? = some (.deferred (some [])) := by
    rw [← hD]
    exact (Below.heap_alloc _ _ _ (by simp)).trans (World.alloc_heap_new w _)
  have hI0 : I 0 ((w.alloc (.deferred (some []))).alloc (.loop (rec .ready none))) := hI1 _ _ _ h0 (((Fr.refl _ w).alloc _).alloc _)
  refine ⟨D + 1, [{ target := .collected D, args := #[] }], (w.alloc (.deferred (some []))).alloc (.loop (rec .ready none)), { target := .fn (.func gf) lb, args := #[.func (.yield (D + 1)) #[] #[]] }, (w.alloc (.deferred (some []))).alloc (.loop (rec .ready none)), gf,
    #[.func (.yield (D + 1)) #[] #[]] ++ lb, (w.alloc (.deferred (some []))).alloc (.loop (rec .ready none)), ?_, ?_, ?_, ?_, fun _ => h1, ?_⟩
  · have := run_enterLoop_outer (P := P) (w := w) fn a.tmps ps assign body
    rw [hD] at this
    rw [hrec]
    exact this
  · simp only [resolve, hg]
    simp [go_sem]
  · intro f' hf'
    trivial
  · simp [invoke, go_sem, eg]
  · refine (hiter (fun k W => I k W ∧ W.heap[D + 1]? = some (.loop (rec .ready none)) ∧ W.heap[D]? = some (.deferred (some [])))
      (fun W => Ix W ∧ W.heap[D + 1]? = some (.loop (rec .done (some c))) ∧ W.heap[D]? = some (.deferred (some []))) (rec .ready none) ⟨hI0, hL, hM⟩ ?_ (fun k W h => ⟨h.1, (Array.getElem?_eq_some_iff.1 h.2.1).1⟩) ?_).mono ?_
    · rintro k W W' ⟨i1, i2, i3⟩ hF
      have e1 : D + 1 < W.heap.size := (Array.getElem?_eq_some_iff.1 i2).1
      exact ⟨hI1 _ _ _ i1 (hF.mono (fun _ _ e => e.elim)), (hF.block _ e1 (fun e => e)).trans i2, (hF.block _ (by omega) (fun e => e)).trans i3⟩
    · rintro k v W ⟨i1, i2, i3⟩ hv hln
      have e1 : D + 1 < W.heap.size := (Array.getElem?_eq_some_iff.1 i2).1
      have hy := run_yield (P := P) (args := #[v]) i2 (by rw [hrec]; simp [hps])
      rw [hrec] at hy
      obtain ⟨W1, hW1⟩ : ∃ W1, aw v W = W1 := ⟨_, rfl⟩
      have hbW : Below W.heap.size W W1 := by rw [← hW1]; exact haw v W
      have j2 : W1.heap[D + 1]? = some (.loop (rec .ready none)) := (hbW.block _ e1).trans i2
      have j3 : W1.heap[D]? = some (.deferred (some [])) := (hbW.block _ (by omega)).trans i3
      have e2 : D + 1 < W1.heap.size := (Array.getElem?_eq_some_iff.1 j2).1
      refine ⟨fn, _, assign, body, hy, roundIn_of_wpIn hfn (hassign k v W _ hv ?_)⟩
      rw [hW1]
      refine ⟨_, run_beginRound j2 (by rw [hrec]), ?_⟩
      obtain ⟨Wb, hWb⟩ : ∃ Wb, W1.putObj (D + 1) (.loop { rec .ready none with state := .busy }) = Wb := ⟨_, rfl⟩
      have b1 : Wb.heap[D + 1]? = some (.loop { rec .ready none with state := .busy }) := by rw [← hWb]; exact World.putObj_heap_same e2
      have b2 : Wb.heap[D]? = some (.deferred (some [])) := by rw [← hWb]; exact (World.putObj_heap_other (by omega)).trans j3
      have b3 : Fr (fun k => k = D + 1) W1 Wb := by rw [← hWb]; exact Fr.put_ (S := fun k => k = D + 1) (Fr.refl _ W1) rfl _
      rw [hWb]
      have hend : ∀ (jump : Option Code) (W3 : World), W3.heap[D]? = Wb.heap[D]? → W3.heap[D + 1]? = Wb.heap[D + 1]? → ∃ Wn, (Instr.endRound (D + 1) jump).run P W3 = .ok (.bool jump.isNone) Wn ∧
          Fr (fun k => k = D ∨ k = D + 1) W3 Wn ∧ Wn.heap[D + 1]? = some (.loop (rec (if jump.isNone then .ready else .done) jump)) ∧ Wn.heap[D]? = some (.deferred (some [])) := fun jump W3 k1 k2 => by
        rw [b1] at k2
        rw [b2] at k1
        have hr := run_endRound (P := P) jump k2
        have e3 : D + 1 < W3.heap.size := (Array.getElem?_eq_some_iff.1 k2).1
        refine ⟨_, hr, (Fr.refl _ W3).put_ (.inr rfl) _, ?_, ?_⟩
        · rw [World.putObj_heap_same e3, hrec]
        · exact (World.putObj_heap_other (by omega)).trans k1
      have hbb := hbody k v W Wb i1 hv hln e1 (by rw [hW1]; exact b3)
      refine wpIn_mono hbb ?_
      rintro e a3 W3 hp
      cases e with
      | normal =>
        obtain ⟨k1, k2, k3⟩ := hp
        obtain ⟨Wn, hr, hF, c1, c2⟩ := hend none W3 k1 k2
        exact ⟨_, _, hr, .inl ⟨rfl, hI1 _ _ _ k3 hF, c1, c2⟩⟩
      | ret =>
        obtain ⟨hc, k1, k2, k3⟩ := hp
        obtain ⟨Wn, hr, hF, c1, c2⟩ := hend (some .ret) W3 k1 k2
        exact ⟨_, _, hr, .inr ⟨rfl, hX1 _ _ k3 hF, by rw [hc]; exact c1, c2⟩⟩
      | exit id =>
        obtain ⟨hc, k1, k2, k3⟩ := hp
        obtain ⟨Wn, hr, hF, c1, c2⟩ := hend (some (.exit id)) W3 k1 k2
        exact ⟨_, _, hr, .inr ⟨rfl, hX1 _ _ k3 hF, by rw [hc]; exact c1, c2⟩⟩
      | _ => exact hp.elim
    · rintro e W2 ⟨⟨v, rfl⟩, ⟨i1, i2, i3⟩ | ⟨i1, i2, i3⟩⟩
      · refine ⟨none, _, by have := run_endLoop (P := P) i2 (by rw [hrec]; simp); rw [hrec] at this; exact this, ?_⟩
        have b4 : Fr (fun k => k = D ∨ k = D + 1) W2 (W2.putObj (D + 1) (.loop { rec .ready none with state := .exhausted })) := (Fr.refl _ W2).put_ (.inr rfl) _
        have h5 := hI1 _ _ _ i1 b4
        rw [hrec] at h5
        exact hdone _ h5 ((World.putObj_heap_other (by omega)).trans i3)
      · refine ⟨some c, _, by have := run_endLoop (P := P) i2 (by rw [hrec]; simp); rw [hrec] at this; exact this, ?_⟩
        have b4 : Fr (fun k => k = D ∨ k = D + 1) W2 (W2.putObj (D + 1) (.loop { rec .done (some c) with state := .exhausted })) := (Fr.refl _ W2).put_ (.inr rfl) _
        have h5 := hX1 _ _ i1 b4
        rw [hrec] at h5
        exact hstop _ h5 ((World.putObj_heap_other (by omega)).trans i3)
end Go.Proofs.YthlflcnpmabmbaaDoor
