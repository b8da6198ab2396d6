
/-
  Walk of symbol.Apply: what it answers as a plain function of the window's bytes, the state and the symbol. Conditions: the window as Win says; the tables as Laid says; numbers that can be counted.
-/
import Derived.Test.YthcgchkcanhmnaaDoorStSy
import Derived.Test.YthcgchkcanhmnaaDoorExt
namespace Go.Proofs.YthcgchkcanhmnaaDoor
open Go.RowKit

def distOf (s : St) (y : Sy) : Int := if y.k = 2 then y.x else if y.k = 3 then s.rep y.x else s.a
def lenOf (y : Sy) : Int := if y.k = 2 ∨ y.k = 3 then y.l else 1
def apE (size : Nat) (all : List UInt8) (s : St) (y : Sy) : Int :=
  if nextE s y = 0 then (if y.k = 1 then 0 else if 1 ≤ distOf s y ∧ distOf s y ≤ full size all then 0 else 7) else nextE s y
def apB (size : Nat) (all : List UInt8) (s : St) (y : Sy) : List UInt8 :=
  if apE size all s y = 0 then (if y.k = 1 then [y.y] else (ext (distOf s y).toNat (lenOf y).toNat all).drop all.length) else []
def apS (size : Nat) (all : List UInt8) (s : St) (y : Sy) : St := if apE size all s y = 0 then nextS s y else St.zero
theorem ext_all (d n : Nat) (l : List UInt8) : ext d n l = l ++ (ext d n l).drop l.length := by
  induction n with
  | zero => simp [ext]
  | succ n ih =>
    rw [ext_drop]
    show ext d n l ++ [_] = _
    rw [← List.append_assoc, ← ih]
def ApPost (size B b : Nat) (r : Option Nat) (all : List UInt8) (bs : List UInt8) (t : St) (e : Int) (w : World) (en : Ending) (w' : World) : Prop :=
  ∃ A c r', en = .returned (.tuple #[.slice A bs.length c, t.v, .int .i64 e]) ∧ Win w' B b r' size (all ++ bs) ∧ w'.ownsRow w.heap.size 5 1 (.slice A bs.length c) bs.length (bys bs) ∧
    Fr (fun k => k = b ∨ some k = r) w w' ∧ (∀ g, r' = some g → r = some g ∨ w.heap.size ≤ g) ∧ (∀ g, (Value.slice A bs.length c).ownBlock = some g → r' ≠ some g)
theorem ApPost.nil {B b size : Nat} {r : Option Nat} {all : List UInt8} {f : Int} {w w' : World} (h : Win w B b r size all) (hb : Below w.heap.size w w') :
    ApPost size B b r all [] St.zero f w (.returned (.tuple #[.slice none 0 0, .agg (stC 0 0 0 0 0), .int .i64 f])) w' :=
  ⟨none, 0, r, rfl, by simpa using h.below hb, World.ownsRow_nil _ _ _ _, ⟨hb.os, hb.tape, hb.output, hb.size, fun k hk _ => hb.block k hk⟩, fun _ h => .inl h, fun _ h => by cases h⟩
set_option maxHeartbeats 2000000 in
theorem Apply_bad (B b size : Nat) (r : Option Nat) (all : List UInt8) (s : St) (y : Sy) (w : World) (h : Win w B b r size all) (hl : Laid w) (he : ¬ nextE s y = 0) :
    Calls Tryd.prog 12 #[.pointer (some ⟨b, 0, none⟩), s.v, y.v] w (ApPost size B b r all [] St.zero (nextE s y) w) := by
  have hn := Next_p s y
  rw [show nextS s y = St.zero by unfold nextS; rw [if_neg he], show St.zero.v = .agg (stC 0 0 0 0 0) from rfl] at hn
  obtain ⟨f, hf⟩ : ∃ f, nextE s y = f := ⟨_, rfl⟩
  rw [hf] at hn he ⊢
  obtain ⟨n, a, b', c, d⟩ := s
  obtain ⟨k, z, l, x⟩ := y
  have h3 := three_new 39 w n a b' c d k (z.toNat : Int) l x
  unfold St.v Sy.v at hn ⊢
  unfold Sy.cs at hn ⊢
  simp only [] at hn ⊢
  obtain ⟨w0, hw0⟩ : ∃ w0, (((w.alloc (.cells (stC n a b' c d) 39)).alloc (.cells #[.int .i64 k, .int .u8 (z.toNat : Int), .int .i64 l, .int .i64 x] 38)).alloc (.cells (stC 0 0 0 0 0) 39)) = w0 := ⟨_, rfl⟩
  rw [hw0] at h3
  have hcc := hn w0 (hl.below (h3.2.2.2))
  clear hn
  go_enter Tryd.func12, Tryd.ntmps12
  obtain ⟨⟨s0, s1, s2, s3, s4⟩, ⟨y0, y1, y2, y3⟩, ⟨r0, r1, r2, r3, r4⟩, ⟨f0, f1, f2, f3, f4⟩, ⟨g0, g1, g2, g3, g4⟩⟩ := h3.cells
  go_wp2_with (go_at_call 27; first | (rw [hw0]; refine hcc.mono ?_) | refine hcc.mono ?_; rintro e w1 ⟨rfl, hb1⟩; clear s0 s1 s2 s3 s4 y0 y1 y2 y3 r0 r1 r2 r3 r4 f0 f1 f2 f3 f4 g0 g1 g2 g3 g4; have h31 := (h3.below hb1).below ((Below.refl _ _).alloc (Nat.le_refl _) (.cells (stC 0 0 0 0 0) 39)); have hB := h31.2.2.2; obtain ⟨⟨s0, s1, s2, s3, s4⟩, ⟨y0, y1, y2, y3⟩, ⟨r0, r1, r2, r3, r4⟩, ⟨f0, f1, f2, f3, f4⟩, ⟨g0, g1, g2, g3, g4⟩⟩ := h31.cells; clear h3 hw0)
  refine bodyPost_ret (v := .tuple #[.slice none 0 0, .agg (stC 0 0 0 0 0), .int .i64 f]) (by simp [results, Tryd.results12, go_sem, *]) rfl (ApPost.nil h (below5 hB (up2 _) _ _ _ _ _))
theorem fr5 (q : Nat) (w : World) (u0 u1 u2 u3 u4 : Value) : Fr (fun k => k = q) w (((((w.setCell ⟨q, 0, none⟩ u0).setCell ⟨q, 1, none⟩ u1).setCell ⟨q, 2, none⟩ u2).setCell ⟨q, 3, none⟩ u3).setCell ⟨q, 4, none⟩ u4) :=
  (((((Fr.refl (fun k => k = q) w).setCell (p := ⟨q, 0, none⟩) (.inl rfl) u0).setCell (p := ⟨q, 1, none⟩) (.inl rfl) u1).setCell (p := ⟨q, 2, none⟩) (.inl rfl) u2).setCell (p := ⟨q, 3, none⟩) (.inl rfl) u3).setCell (p := ⟨q, 4, none⟩) (.inl rfl) u4
theorem lit_src {B b size : Nat} {r : Option Nat} {all : List UInt8} {w3 : World} (z : UInt8) (h : Win w3 B b r size all) :
    Src (w3.alloc (.cells #[.int .u8 (z.toNat : Int)] 5)) b r (some ⟨w3.heap.size, 0, none⟩) 1 1 [z] := by
  refine ⟨⟨rfl, fun _ => ⟨_, rfl, fun j u hu => ?_⟩⟩, Nat.le_refl _, fun ad had => ?_⟩
  · have hj : j = 0 := by have := (List.getElem?_eq_some_iff.1 hu).1; simp [bys] at this; omega
    subst hj
    simp [bys] at hu
    subst hu
    exact (Blk.new w3 5 #[.int .u8 (z.toNat : Int)]).cell 0
  · cases had
    refine ⟨by simp, by have := h.lt.1; simp; omega, fun e => ?_⟩
    have : w3.heap.size < w3.heap.size := (h.lt.2 _ e).2
    omega
theorem lit_own {B : Nat} (w3 : World) (z : UInt8) (hB : B ≤ w3.heap.size) : (w3.alloc (.cells #[.int .u8 (z.toNat : Int)] 5)).ownsRow B 5 1 (.slice (some ⟨w3.heap.size, 0, none⟩) 1 1) 1 (bys [z]) :=
  ⟨rfl, .inr ⟨w3.heap.size, 1, #[.int .u8 (z.toNat : Int)], rfl, hB, Blk.new _ _ _, Nat.le_refl _, by unfold maxLen; omega, rfl, rfl⟩⟩
set_option maxHeartbeats 2000000 in
theorem Apply_lit (B b size : Nat) (r : Option Nat) (all : List UInt8) (s : St) (y : Sy) (w : World) (h : Win w B b r size all) (hl : Laid w) (he : nextE s y = 0) (hk : y.k = 1) (hlen : all.length + 1 < 4611686018427387904) :
    Calls Tryd.prog 12 #[.pointer (some ⟨b, 0, none⟩), s.v, y.v] w (ApPost size B b r all [y.y] (nextS s y) 0 w) := by
  have hn := Next_p s y
  rw [he] at hn
  obtain ⟨t, ht⟩ : ∃ t, nextS s y = t := ⟨_, rfl⟩
  rw [ht] at hn ⊢
  clear ht he
  obtain ⟨n', a', b'', c', d'⟩ := t
  obtain ⟨n, a, b', c, d⟩ := s
  obtain ⟨k, z, l, x⟩ := y
  simp only [] at hk
  subst hk
  have h3 := three_new 39 w n a b' c d 1 (z.toNat : Int) l x
  unfold St.v Sy.v at hn
  unfold Sy.cs at hn
  unfold St.v Sy.v Sy.cs
  simp only [] at hn ⊢
  obtain ⟨w0, hw0⟩ : ∃ w0, (((w.alloc (.cells (stC n a b' c d) 39)).alloc (.cells #[.int .i64 1, .int .u8 (z.toNat : Int), .int .i64 l, .int .i64 x] 38)).alloc (.cells (stC 0 0 0 0 0) 39)) = w0 := ⟨_, rfl⟩
  rw [hw0] at h3
  have hcc := hn w0 (hl.below (h3.2.2.2))
  clear hn
  go_enter Tryd.func12, Tryd.ntmps12
  obtain ⟨⟨s0, s1, s2, s3, s4⟩, ⟨y0, y1, y2, y3⟩, ⟨r0, r1, r2, r3, r4⟩, ⟨f0, f1, f2, f3, f4⟩, ⟨g0, g1, g2, g3, g4⟩⟩ := h3.cells
  go_wp2_with (go_at_call 27; first | (rw [hw0]; refine hcc.mono ?_) | refine hcc.mono ?_; rintro e w1 ⟨rfl, hb1⟩; clear s0 s1 s2 s3 s4 y0 y1 y2 y3 r0 r1 r2 r3 r4 f0 f1 f2 f3 f4 g0 g1 g2 g3 g4; have h31 := (h3.below hb1).below ((Below.refl _ _).alloc (Nat.le_refl _) (.cells (stC n' a' b'' c' d') 39)); have hB := h31.2.2.2; have hN := Blk.new w1 39 (stC n' a' b'' c' d'); have hB0 := hb1; have y1' := (h31.2.1.alloc (.cells #[.int .u8 (z.toNat : Int)] 5)).cell 1; simp at y1'; obtain ⟨⟨s0, s1, s2, s3, s4⟩, ⟨y0, y1, y2, y3⟩, ⟨r0, r1, r2, r3, r4⟩, ⟨f0, f1, f2, f3, f4⟩, ⟨g0, g1, g2, g3, g4⟩⟩ := h31.cells; clear hw0)
  have hz1 : w.heap.size ≤ w1.heap.size := Nat.le_trans h3.2.2.2.size hb1.size
  have hW1 := h.below hB
  have hW2 := hW1.below ((Below.refl _ _).alloc (Nat.le_refl _) (.cells #[.int .u8 (z.toNat : Int)] 5))
  have hW3 := hW2.below ((Below.refl _ _).alloc (Nat.le_refl _) (.cells #[.int .u8 (z.toNat : Int)] 5))
  have hs3 := lit_src z hW2
  simp only [World.size_alloc] at hs3
  refine (Put_any B b size r all _ 1 1 [z] _ hW3 hs3 hlen).mono ?_
  rintro e w2 ⟨rfl, r2, hW, hF, hA⟩
  have hb0 : b < w.heap.size := h.lt.1
  have hr0 : ∀ g, r = some g → g < w.heap.size := fun g hg => (h.lt.2 g hg).2
  have hNx := ((hN.alloc (.cells #[.int .u8 (z.toNat : Int)] 5)).alloc (.cells #[.int .u8 (z.toNat : Int)] 5)).same (hF.block _ (by simp only [World.size_alloc]; omega) (by
    rintro (e | e)
    · omega
    · have := hr0 _ e.symm; omega))
  have hOwn := own_same (w' := w2) (lit_own (B := w.heap.size) (w1.alloc (.cells (stC n' a' b'' c' d') 39)) z (by simp only [World.size_alloc]; omega)) (fun g hg => by
    have hg' : g = w1.heap.size + 1 := by simp [Value.ownBlock, World.size_alloc] at hg; omega
    subst hg'
    exact (hF.block _ (by simp only [World.size_alloc]; omega) (by
      rintro (e | e)
      · omega
      · have := hr0 _ e.symm; omega)).trans (Below.heap_alloc _ _ _ (by simp only [World.size_alloc]; omega)))
  simp only [World.size_alloc] at hOwn
  have hB3 : Below w.heap.size w (((w1.alloc (.cells (stC n' a' b'' c' d') 39)).alloc (.cells #[.int .u8 (z.toNat : Int)] 5)).alloc (.cells #[.int .u8 (z.toNat : Int)] 5)) :=
    (hB.alloc hB.size _).alloc (by simp only [World.size_alloc]; omega) _
  have hFr : Fr (fun k => k = b ∨ some k = r) w w2 := (⟨hB3.os, hB3.tape, hB3.output, hB3.size, fun k hk _ => hB3.block k hk⟩ : Fr (fun k => k = b ∨ some k = r) w _).trans hF
  simp only [World.size_alloc] at hA
  have c0 := hNx.cell 0; have c1 := hNx.cell 1; have c2 := hNx.cell 2; have c3 := hNx.cell 3; have c4 := hNx.cell 4
  simp at c0 c1 c2 c3 c4
  have hRs := ((h31.2.2.1.alloc (.cells #[.int .u8 (z.toNat : Int)] 5)).alloc (.cells #[.int .u8 (z.toNat : Int)] 5)).same (hF.block _ (by simp only [World.size_alloc]; have := hb1.size; have := h3.2.2.1.lt; omega) (by
    rintro (e | e)
    · omega
    · have := hr0 _ e.symm; omega))
  have q0 : w2.cell? ⟨w.heap.size + 1 + 1, 0, none⟩ = some (.int .i64 0) := hRs.cell 0
  have u0 : w2.frozen? ⟨w.heap.size + 1 + 1, 0, none⟩ = false := hRs.frozen 0
  have q1 : w2.cell? ⟨w.heap.size + 1 + 1, 1, none⟩ = some (.int .i64 0) := hRs.cell 1
  have u1 : w2.frozen? ⟨w.heap.size + 1 + 1, 1, none⟩ = false := hRs.frozen 1
  have q2 : w2.cell? ⟨w.heap.size + 1 + 1, 2, none⟩ = some (.int .i64 0) := hRs.cell 2
  have u2 : w2.frozen? ⟨w.heap.size + 1 + 1, 2, none⟩ = false := hRs.frozen 2
  have q3 : w2.cell? ⟨w.heap.size + 1 + 1, 3, none⟩ = some (.int .i64 0) := hRs.cell 3
  have u3 : w2.frozen? ⟨w.heap.size + 1 + 1, 3, none⟩ = false := hRs.frozen 3
  have q4 : w2.cell? ⟨w.heap.size + 1 + 1, 4, none⟩ = some (.int .i64 0) := hRs.cell 4
  have u4 : w2.frozen? ⟨w.heap.size + 1 + 1, 4, none⟩ = false := hRs.frozen 4
  have hq3 : w.heap.size + 1 + 1 < w1.heap.size := Nat.lt_of_lt_of_le h3.2.2.1.lt hb1.size
  have hPost : ∀ wz, Fr (fun k => k = w.heap.size + 1 + 1) w2 wz → ApPost size B b r all [z] ⟨n', a', b'', c', d'⟩ 0 w (.returned (.tuple #[.slice (some ⟨w1.heap.size + 1, 0, none⟩) 1 1, .agg (stC n' a' b'' c' d'), .int .i64 0])) wz := fun wz hz =>
    ⟨_, _, r2, rfl, hW.fr hz (by omega) (fun g hg e => by
      rcases hA g hg with h | h
      · have := hr0 _ h; omega
      · omega), own_same hOwn (fun g hg => hz.block _ (own_lt hOwn hg).2 (by simp [Value.ownBlock] at hg; omega)), hFr.trans' hz (fun i hi e => by omega), fun g hg => by
      rcases hA g hg with h | h
      · exact .inl h
      · exact .inr (by omega), fun g hg e => by
      simp [Value.ownBlock] at hg
      rcases hA g e with h | h
      · have := hr0 _ h; omega
      · omega⟩
  clear hOwn hFr hW hF hNx hB3 hs3 hW3 hW2 hW1 hN hB h31 h hl hb0 hlen s0 s1 s2 s3 s4 y0 y1 y2 y3 r0 r1 r2 r3 r4 f0 f1 f2 f3 f4 g0 g1 g2 g3 g4 y1' h3 hcc hRs hr0 hA
  go_wp2_with fail
  go_region
  go_wp2_with fail
  exact bodyPost_ret (v := .tuple #[.slice (some ⟨w1.heap.size + 1, 0, none⟩) 1 1, .agg (stC n' a' b'' c' d'), .int .i64 0]) (by simp [results, Tryd.results12, go_sem, *]) rfl (hPost _ (fr5 _ _ _ _ _ _ _).drew)
end Go.Proofs.YthcgchkcanhmnaaDoor
