/-
  FinderWays' memory, part by part. Conditions: each lemma's own.
-/
import Derived.Test.YtllhmgnhnbnbiaaFiSame
import Derived.Test.YtllhmgnhnbnbiaaFiRnN
import Derived.Test.YtllhmgnhnbnbiaaFiOpen
namespace Go.Proofs.Ytllhmgnhnbnbiaa
open Go.RowKit Go.Shelf

/-- two finders, and the law's first boxes -/
structure WP (pf pg : FP) (sb rb fbx : Nat) (stop : Int) (posf posg : Nat) (w W : World) : Prop where
  ff : Fi pf posf W
  fg : Fi pg posg W
  bs : Blk W sb 3 #[.int .i64 stop]
  br : Blk W rb 4 #[.bool false]
  bf : Blk W fbx 23 #[.pointer (some ⟨pf.fb, 0, none⟩)]
  bl : Below w.heap.size w W
  or1 : w.heap.size ≤ sb ∧ sb < rb ∧ rb < pf.L ∧ pf.L ≤ pf.fb ∧ pf.fb < pf.T ∧ pf.T ≤ fbx ∧ fbx < pg.L ∧ pg.L ≤ pg.fb ∧ pg.fb < pg.T
section
variable {pf pg : FP} {sb rb fbx posf posg : Nat} {stop : Int} {w W W' : World}
theorem WP.fr {S : Nat → Prop} (h : WP pf pg sb rb fbx stop posf posg w W) (hf : Fr S W W') (hS : ∀ g, w.heap.size ≤ g → g < pg.T → ¬ S g) (hS0 : ∀ g, S g → w.heap.size ≤ g) : WP pf pg sb rb fbx stop posf posg w W' := by
  obtain ⟨o1, o2, o3, o4, o5, o6, o7, o8, o9⟩ := h.or1
  exact ⟨h.ff.fr hf (fun g h1 h2 => hS g (by omega) (by omega)), h.fg.fr hf (fun g h1 h2 => hS g (by omega) (by omega)), h.bs.fr hf (hS _ (by omega) (by omega)), h.br.fr hf (hS _ (by omega) (by omega)), h.bf.fr hf (hS _ (by omega) (by omega)), h.bl.trans (hf.below h.bl.size hS0), h.or1⟩
theorem WP.below (h : WP pf pg sb rb fbx stop posf posg w W) (hb : Below W.heap.size W W') : WP pf pg sb rb fbx stop posf posg w W' :=
  h.fr (Fr.mono (Fr.of_below hb) (fun i hi e => (by omega : (False : Prop)))) (fun _ _ _ e => e) (fun _ e => e.elim)
theorem WP.skipf {pos' : Nat} (h : WP pf pg sb rb fbx stop posf posg w W) (hf : Fr (fun g => g = pf.fb) W W') (hF : Fi pf pos' W') : WP pf pg sb rb fbx stop pos' posg w W' := by
  obtain ⟨o1, o2, o3, o4, o5, o6, o7, o8, o9⟩ := h.or1
  exact ⟨hF, h.fg.fr hf (fun g h1 h2 => by omega), h.bs.fr hf (by omega), h.br.fr hf (by omega), h.bf.fr hf (by omega), h.bl.trans (hf.below h.bl.size (fun g e => by omega)), h.or1⟩
theorem WP.skipg {pos' : Nat} (h : WP pf pg sb rb fbx stop posf posg w W) (hf : Fr (fun g => g = pg.fb) W W') (hF : Fi pg pos' W') : WP pf pg sb rb fbx stop posf pos' w W' := by
  obtain ⟨o1, o2, o3, o4, o5, o6, o7, o8, o9⟩ := h.or1
  exact ⟨h.ff.fr hf (fun g h1 h2 => by omega), hF, h.bs.fr hf (by omega), h.br.fr hf (by omega), h.bf.fr hf (by omega), h.bl.trans (hf.below h.bl.size (fun g e => by omega)), h.or1⟩
end
/-- the sequence and the list of what is wanted -/
structure WQ (pf pg : FP) (sb rb fbx : Nat) (stop : Int) (fx qb wb B1 : Nat) (ms : List (Nat × Nat)) (L : Option Addr) (lc : Nat) (posf posg : Nat) (w W : World) : Prop where
  wp : WP pf pg sb rb fbx stop posf posg w W
  bx : Blk W fx 23 #[.pointer (some ⟨pf.fb, 0, none⟩)]
  bm : Blk W (fx + 1) 3 #[.int .i64 273]
  bq : Blk W qb 41 #[.func (.func 17) #[] #[.pointer (some ⟨fx, 0, none⟩), .pointer (some ⟨fx + 1, 0, none⟩)]]
  bw : Blk W wb 32 #[.slice L ms.length lc]
  row : W.ownsRow B1 30 2 (.slice L ms.length lc) ms.length (ents ms)
  rg : ∀ g, (Value.slice L ms.length lc).ownBlock = some g → fx + 1 < g ∧ g < qb
  or2 : pg.T ≤ fx ∧ fx + 1 < qb ∧ qb < wb
section
variable {pf pg : FP} {sb rb fbx fx qb wb B1 lc posf posg : Nat} {stop : Int} {ms : List (Nat × Nat)} {L : Option Addr} {w W W' : World}
theorem WQ.fr {S : Nat → Prop} (h : WQ pf pg sb rb fbx stop fx qb wb B1 ms L lc posf posg w W) (hf : Fr S W W') (hS : ∀ g, w.heap.size ≤ g → g ≤ wb → ¬ S g) (hS0 : ∀ g, S g → w.heap.size ≤ g) : WQ pf pg sb rb fbx stop fx qb wb B1 ms L lc posf posg w W' := by
  obtain ⟨o1, o2, o3, o4, o5, o6, o7, o8, o9⟩ := h.wp.or1
  obtain ⟨q1, q2, q3⟩ := h.or2
  exact ⟨h.wp.fr hf (fun g h1 h2 => hS g h1 (by omega)) hS0, h.bx.fr hf (hS _ (by omega) (by omega)), h.bm.fr hf (hS _ (by omega) (by omega)), h.bq.fr hf (hS _ (by omega) (by omega)), h.bw.fr hf (hS _ (by omega) (by omega)), own_fr h.row hf (fun g hg => hS g (by have := h.rg g hg; omega) (by have := h.rg g hg; omega)), h.rg, h.or2⟩
theorem WQ.above {S : Nat → Prop} (h : WQ pf pg sb rb fbx stop fx qb wb B1 ms L lc posf posg w W) (hf : Fr S W W') (hS : ∀ g, S g → wb < g) : WQ pf pg sb rb fbx stop fx qb wb B1 ms L lc posf posg w W' := by
  obtain ⟨o1, o2, o3, o4, o5, o6, o7, o8, o9⟩ := h.wp.or1
  obtain ⟨q1, q2, q3⟩ := h.or2
  exact h.fr hf (fun g _ h2 e => by have := hS g e; omega) (fun g e => by have := hS g e; omega)
theorem WQ.skipf {pos' : Nat} (h : WQ pf pg sb rb fbx stop fx qb wb B1 ms L lc posf posg w W) (hf : Fr (fun g => g = pf.fb) W W') (hF : Fi pf pos' W') : WQ pf pg sb rb fbx stop fx qb wb B1 ms L lc pos' posg w W' := by
  obtain ⟨o1, o2, o3, o4, o5, o6, o7, o8, o9⟩ := h.wp.or1
  obtain ⟨q1, q2, q3⟩ := h.or2
  exact ⟨h.wp.skipf hf hF, h.bx.fr hf (by omega), h.bm.fr hf (by omega), h.bq.fr hf (by omega), h.bw.fr hf (by omega), own_fr h.row hf (fun g hg e => by have := h.rg g hg; omega), h.rg, h.or2⟩
end
end Go.Proofs.Ytllhmgnhnbnbiaa
