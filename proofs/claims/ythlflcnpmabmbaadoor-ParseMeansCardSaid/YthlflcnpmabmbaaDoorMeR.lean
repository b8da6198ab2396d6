
/-
  A round of 'means': what the window, the bytes so far and the state are between two symbols. No condition beyond each theorem's own.
-/
import Derived.Test.YthlflcnpmabmbaaDoorPaM
namespace Go.Proofs.YthlflcnpmabmbaaDoor.win
open Go.RowKit

structure MeRel (w wr : World) (size S b P T : Nat) (r' : Option Nat) (s : St) (wl acc : List UInt8) (A : Option Addr) (c : Nat) (pv tv : Array Value) : Prop where
  st : Blk wr S 37 (stC s.n s.a s.b s.c s.d)
  win : Win wr w.heap.size b r' size wl
  own : wr.ownsRow w.heap.size 5 1 (.slice A acc.length c) acc.length (bys acc)
  below : Below w.heap.size w wr
  base : w.heap.size ≤ S
  ne : ∀ g, (Value.slice A acc.length c).ownBlock = some g → r' ≠ some g
  pc : Blk wr P 45 pv
  la : Blk wr T 37 tv
  ts : T ≠ S
/-- a round that was taken -/
theorem MeRel.step {w wr w1 w2 w4 w5 : World} {size S b P T : Nat} {r' r2 : Option Nat} {s t : St} {wl acc bs : List UInt8} {A A1 A2 : Option Addr} {c c1 c2 : Nat} {pv tv : Array Value} (h : MeRel w wr size S b P T r' s wl acc A c pv tv)
    (hb : Below wr.heap.size wr w1) (hW : Win w2 w.heap.size b r2 size (wl ++ bs)) (hO : w2.ownsRow w1.heap.size 5 1 (.slice A1 bs.length c1) bs.length (bys bs)) (hF : Fr (fun k => k = b ∨ some k = r') w1 w2)
    (hA : ∀ g, r2 = some g → r' = some g ∨ w1.heap.size ≤ g) (hN : ∀ g, (Value.slice A1 bs.length c1).ownBlock = some g → r2 ≠ some g)
    (hF4 : Fr (fun k => k = S) w2 w4) (hS4 : Blk w4 S 37 (stC t.n t.a t.b t.c t.d))
    (hO5 : w5.ownsRow w.heap.size 5 1 (.slice A2 (acc.length + bs.length) c2) (acc.length + bs.length) (bys acc ++ bys bs)) (hg : w4.grownBy w5 (Value.slice A acc.length c).ownBlock)
    (hat : (Value.slice A2 (acc.length + bs.length) c2).ownBlock = (Value.slice A acc.length c).ownBlock ∨ (Value.slice A2 (acc.length + bs.length) c2).ownBlock = some w4.heap.size) :
    MeRel w w5 size S b P T r2 t (wl ++ bs) (acc ++ bs) A2 c2 pv tv := by
  have hbl := h.win.lt.1
  have hrl := h.win.lt.2
  have hSl := h.st.lt
  have hPl := h.pc.lt
  have hTl := h.la.lt
  have hSb : S ≠ b := (show BT wr S 37 from ⟨_, h.st⟩).ne h.win.bt.1 (by decide)
  have hSr : ∀ g, r' = some g → S ≠ g := fun g hg => (show BT wr S 37 from ⟨_, h.st⟩).ne (h.win.bt.2 g hg) (by decide)
  have hTb : T ≠ b := (show BT wr T 37 from ⟨_, h.la⟩).ne h.win.bt.1 (by decide)
  have hTr : ∀ g, r' = some g → T ≠ g := fun g hg => (show BT wr T 37 from ⟨_, h.la⟩).ne (h.win.bt.2 g hg) (by decide)
  have hPb : P ≠ b := (show BT wr P 45 from ⟨_, h.pc⟩).ne h.win.bt.1 (by decide)
  have hPr : ∀ g, r' = some g → P ≠ g := fun g hg => (show BT wr P 45 from ⟨_, h.pc⟩).ne (h.win.bt.2 g hg) (by decide)
  have hPS : P ≠ S := (show BT wr P 45 from ⟨_, h.pc⟩).ne (show BT wr S 37 from ⟨_, h.st⟩) (by decide)
  have hs1 := hb.size
  have hs2 := hF.size
  have hs4 := hF4.size
  have hs5 := hg.size
  have hbase := h.below.size
  have hown : ∀ g, (Value.slice A acc.length c).ownBlock = some g → w.heap.size ≤ g ∧ g < wr.heap.size := fun g hg => own_lt h.own hg
  have hr2 : ∀ g, r2 = some g → g < w2.heap.size := fun g hg => (hW.lt.2 g hg).2
  have hSr2 : ∀ g, r2 = some g → S ≠ g := fun g hg => by
    rcases hA g hg with h1 | h1
    · exact hSr g h1
    · omega
  have hOS : some S ≠ (Value.slice A acc.length c).ownBlock := own_ne h.own h.st (by decide)
  have hOT : some T ≠ (Value.slice A acc.length c).ownBlock := own_ne h.own h.la (by decide)
  have hOP : some P ≠ (Value.slice A acc.length c).ownBlock := own_ne h.own h.pc (by decide)
  have hOb : some b ≠ (Value.slice A acc.length c).ownBlock := fun e => (own_bt h.own e.symm).ne h.win.bt.1 (by decide) rfl
  have hOr2 : ∀ g, r2 = some g → some g ≠ (Value.slice A acc.length c).ownBlock := fun g hg e => by
    rcases hA g hg with h1 | h1
    · exact h.ne g e.symm h1
    · have := (hown g e.symm).2; omega
  have keep : ∀ {g : Nat} {ty : TypeId} {cs : Array Value}, Blk wr g ty cs → g ≠ b → (∀ k, r' = some k → g ≠ k) → g ≠ S → some g ≠ (Value.slice A acc.length c).ownBlock → Blk w5 g ty cs := fun {g ty cs} hB n1 n2 n3 n4 => by
    have b1 := hB.below hb
    have b2 := b1.fr hF (fun e => by
      rcases e with e | e
      · exact n1 e
      · exact n2 _ e.symm rfl)
    have b4 := b2.fr hF4 n3
    exact b4.same (hg.block g b4.lt n4)
  refine ⟨hS4.same (hg.block S (by omega) hOS), ?_, ?_, ?_, h.base, ?_, keep h.pc hPb hPr hPS hOP, keep h.la hTb hTr h.ts hOT, h.ts⟩
  · have hW4 : Win w4 w.heap.size b r2 size (wl ++ bs) := hW.fr hF4 (fun e => hSb e.symm) (fun g hg e => hSr2 g hg e.symm)
    exact hW4.keep (hg.block b hW4.lt.1 hOb) fun g hgg => hg.block g (hW4.lt.2 g hgg).2 (hOr2 g hgg)
  · rw [bys_append, List.length_append]; exact hO5
  · have f1 : Fr (fun k => w.heap.size ≤ k) w wr := Fr.of_below h.below
    have f2 : Fr (fun k => w.heap.size ≤ k) w w2 := (f1.of_below' hb).trans' hF (fun i hi hx => by
      rcases hx with hx | hx
      · have := h.win.base; omega
      · exact (hrl i hx.symm).1)
    have f4 : Fr (fun k => w.heap.size ≤ k) w w4 := f2.trans' hF4 (fun i hi hx => by have := h.base; omega)
    exact (f4.grown hg (fun g hgg => .inl (hown g hgg).1)).below (Nat.le_refl _) (fun k hk => hk)
  · intro g hgg e
    rw [List.length_append] at hgg
    rcases hat with h1 | h1
    · rw [h1] at hgg
      exact hOr2 g e hgg.symm
    · rw [h1] at hgg
      injection hgg with hgg
      have := hr2 g e
      omega
end Go.Proofs.YthlflcnpmabmbaaDoor.win
