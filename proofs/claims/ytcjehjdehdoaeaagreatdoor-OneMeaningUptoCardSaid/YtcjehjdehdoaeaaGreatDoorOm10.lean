/-
  Laws on the way to the claim (WiC). Conditions: those that each theorem states.
-/
import Derived.Test.YtcjehjdehdoaeaaGreatDoorOm03
import Derived.Test.YtcjehjdehdoaeaaGreatDoorOm09
import Derived.StillTailTactics
set_option linter.unusedVariables false
set_option linter.unusedSimpArgs false
set_option maxRecDepth 1000000
set_option maxHeartbeats 16000000
section
namespace Go.Proofs.YtcjehjdehdoaeaaGreatDoor.win
open Go.RowKit
def distOf (s : St) (y : Sy) : Int := if y.k = 2 then y.x else if y.k = 3 then s.rep y.x else s.a
def lenOf (y : Sy) : Int := if y.k = 2 ∨ y.k = 3 then y.l else 1
def apE (size : Nat) (all : List UInt8) (s : St) (y : Sy) : Int :=
 if nextE s y = 0 then (if y.k = 1 then 0 else if 1 ≤ distOf s y ∧ distOf s y ≤ full size all then 0 else 7) else nextE s y
def apB (size : Nat) (all : List UInt8) (s : St) (y : Sy) : List UInt8 :=
 if apE size all s y = 0 then (if y.k = 1 then [y.y] else (ext (distOf s y).toNat (lenOf y).toNat all).drop all.length) else []
def apS (size : Nat) (all : List UInt8) (s : St) (y : Sy) : St := if apE size all s y = 0 then nextS s y else St.zero
theorem ext_all (d n : Nat) (l : List UInt8) : ext d n l = l ++ (ext d n l).drop l.length := by
 induction n with
 | zero => simp [ext]
 | succ n ih =>
  rw [ext_drop];show ext d n l ++ [_] = _;rw [← List.append_assoc, ← ih]
def ApPost (size B b : Nat) (r : Option Nat) (all : List UInt8) (bs : List UInt8) (t : St) (e : Int) (w : World) (en : Ending) (w' : World) : Prop :=
 ∃ A c r', en = .returned (.tuple #[.slice A bs.length c, t.v, .int .i64 e]) ∧ Win w' B b r' size (all ++ bs) ∧ w'.ownsRow w.heap.size 5 1 (.slice A bs.length c) bs.length (bys bs) ∧
  Fr (fun k => k = b ∨ some k = r) w w' ∧ (∀ g, r' = some g → r = some g ∨ w.heap.size ≤ g) ∧ (∀ g, (Value.slice A bs.length c).ownBlock = some g → r' ≠ some g)
theorem ApPost.nil {B b size : Nat} {r : Option Nat} {all : List UInt8} {f : Int} {w w' : World} (h : Win w B b r size all) (hb : Below w.heap.size w w') :
 ApPost size B b r all [] St.zero f w (.returned (.tuple #[.slice none 0 0, .agg (stC 0 0 0 0 0), .int .i64 f])) w' :=
 ⟨none, 0, r, rfl, by simpa using h.below hb, World.ownsRow_nil _ _ _ _, ⟨hb.os, hb.tape, hb.output, hb.size, fun k hk _ => hb.block k hk⟩, fun _ h => .inl h, fun _ h => by cases h⟩
theorem Apply_bad (B b size : Nat) (r : Option Nat) (all : List UInt8) (s : St) (y : Sy) (w : World) (h : Win w B b r size all) (hl : Laid w) (he : ¬ nextE s y = 0) :
 Calls Tryz.prog 135 #[.pointer (some ⟨b, 0, none⟩), s.v, y.v] w (ApPost size B b r all [] St.zero (nextE s y) w) := by
 have hn := Next_p s y;rw [show nextS s y = St.zero by unfold nextS; rw [if_neg he], show St.zero.v = .agg (stC 0 0 0 0 0) from rfl] at hn
 obtain ⟨f, hf⟩ : ∃ f, nextE s y = f := ⟨_, rfl⟩;rw [hf] at hn he ⊢;obtain ⟨n, a, b', c, d⟩ := s;obtain ⟨k, z, l, x⟩ := y;have h3 := three_new 157 w n a b' c d k (z.toNat : Int) l x;unfold St.v Sy.v at hn ⊢;unfold Sy.cs at hn ⊢;simp only [] at hn ⊢;obtain ⟨w0, hw0⟩ : ∃ w0, (((w.alloc (.cells (stC n a b' c d) 157)).alloc (.cells #[.int .i64 k, .int .u8 (z.toNat : Int), .int .i64 l, .int .i64 x] 232)).alloc (.cells (stC 0 0 0 0 0) 157)) = w0 := ⟨_, rfl⟩
 rw [hw0] at h3;have hcc := hn w0 (hl.below (h3.2.2.2));clear hn;go_enter Tryz.func135, Tryz.ntmps135;obtain ⟨⟨s0, s1, s2, s3, s4⟩, ⟨y0, y1, y2, y3⟩, ⟨r0, r1, r2, r3, r4⟩, ⟨f0, f1, f2, f3, f4⟩, ⟨g0, g1, g2, g3, g4⟩⟩ := h3.cells;go_wp2_with (go_at_call 128; first | (rw [hw0]; refine hcc.mono ?_) | refine hcc.mono ?_; rintro e w1 ⟨rfl, hb1⟩; clear s0 s1 s2 s3 s4 y0 y1 y2 y3 r0 r1 r2 r3 r4 f0 f1 f2 f3 f4 g0 g1 g2 g3 g4; have h31 := (h3.below hb1).below ((Below.refl _ _).alloc (Nat.le_refl _) (.cells (stC 0 0 0 0 0) 157)); have hB := h31.2.2.2; obtain ⟨⟨s0, s1, s2, s3, s4⟩, ⟨y0, y1, y2, y3⟩, ⟨r0, r1, r2, r3, r4⟩, ⟨f0, f1, f2, f3, f4⟩, ⟨g0, g1, g2, g3, g4⟩⟩ := h31.cells; clear h3 hw0)
 refine bodyPost_ret (v := .tuple #[.slice none 0 0, .agg (stC 0 0 0 0 0), .int .i64 f]) (by simp [results, Tryz.results135, go_sem, *]) rfl (ApPost.nil h (below5 hB (up2 _) _ _ _ _ _))
theorem fr5 (q : Nat) (w : World) (u0 u1 u2 u3 u4 : Value) : Fr (fun k => k = q) w (((((w.setCell ⟨q, 0, none⟩ u0).setCell ⟨q, 1, none⟩ u1).setCell ⟨q, 2, none⟩ u2).setCell ⟨q, 3, none⟩ u3).setCell ⟨q, 4, none⟩ u4) :=
 (((((Fr.refl (fun k => k = q) w).setCell (p := ⟨q, 0, none⟩) (.inl rfl) u0).setCell (p := ⟨q, 1, none⟩) (.inl rfl) u1).setCell (p := ⟨q, 2, none⟩) (.inl rfl) u2).setCell (p := ⟨q, 3, none⟩) (.inl rfl) u3).setCell (p := ⟨q, 4, none⟩) (.inl rfl) u4
theorem lit_src {B b size : Nat} {r : Option Nat} {all : List UInt8} {w3 : World} (z : UInt8) (h : Win w3 B b r size all) :
 Src (w3.alloc (.cells #[.int .u8 (z.toNat : Int)] 5)) b r (some ⟨w3.heap.size, 0, none⟩) 1 1 [z] := by
 refine ⟨⟨rfl, fun _ => ⟨_, rfl, fun j u hu => ?_⟩⟩, Nat.le_refl _, fun ad had => ?_⟩
 · have hj : j = 0 := by have := (List.getElem?_eq_some_iff.1 hu).1; simp [bys] at this; omega
   subst hj;simp [bys] at hu;subst hu;exact (Blk.new w3 5 #[.int .u8 (z.toNat : Int)]).cell 0
 · cases had;refine ⟨by simp, by have := h.lt.1; simp; omega, fun e => ?_⟩
   have : w3.heap.size < w3.heap.size := (h.lt.2 _ e).2;omega
theorem lit_own {B : Nat} (w3 : World) (z : UInt8) (hB : B ≤ w3.heap.size) : (w3.alloc (.cells #[.int .u8 (z.toNat : Int)] 5)).ownsRow B 5 1 (.slice (some ⟨w3.heap.size, 0, none⟩) 1 1) 1 (bys [z]) :=
 ⟨rfl, .inr ⟨w3.heap.size, 1, #[.int .u8 (z.toNat : Int)], rfl, hB, Blk.new _ _ _, Nat.le_refl _, by unfold maxLen; omega, rfl, rfl⟩⟩
theorem Apply_lit (B b size : Nat) (r : Option Nat) (all : List UInt8) (s : St) (y : Sy) (w : World) (h : Win w B b r size all) (hl : Laid w) (he : nextE s y = 0) (hk : y.k = 1) (hlen : all.length + 1 < 4611686018427387904) :
 Calls Tryz.prog 135 #[.pointer (some ⟨b, 0, none⟩), s.v, y.v] w (ApPost size B b r all [y.y] (nextS s y) 0 w) := by
 have hn := Next_p s y;rw [he] at hn;obtain ⟨t, ht⟩ : ∃ t, nextS s y = t := ⟨_, rfl⟩;rw [ht] at hn ⊢;clear ht he;obtain ⟨n', a', b'', c', d'⟩ := t;obtain ⟨n, a, b', c, d⟩ := s;obtain ⟨k, z, l, x⟩ := y;simp only [] at hk;subst hk;have h3 := three_new 157 w n a b' c d 1 (z.toNat : Int) l x;unfold St.v Sy.v at hn;unfold Sy.cs at hn;unfold St.v Sy.v Sy.cs;simp only [] at hn ⊢;obtain ⟨w0, hw0⟩ : ∃ w0, (((w.alloc (.cells (stC n a b' c d) 157)).alloc (.cells #[.int .i64 1, .int .u8 (z.toNat : Int), .int .i64 l, .int .i64 x] 232)).alloc (.cells (stC 0 0 0 0 0) 157)) = w0 := ⟨_, rfl⟩
 rw [hw0] at h3;have hcc := hn w0 (hl.below (h3.2.2.2));clear hn;go_enter Tryz.func135, Tryz.ntmps135;obtain ⟨⟨s0, s1, s2, s3, s4⟩, ⟨y0, y1, y2, y3⟩, ⟨r0, r1, r2, r3, r4⟩, ⟨f0, f1, f2, f3, f4⟩, ⟨g0, g1, g2, g3, g4⟩⟩ := h3.cells;go_wp2_with (go_at_call 128; first | (rw [hw0]; refine hcc.mono ?_) | refine hcc.mono ?_; rintro e w1 ⟨rfl, hb1⟩; clear s0 s1 s2 s3 s4 y0 y1 y2 y3 r0 r1 r2 r3 r4 f0 f1 f2 f3 f4 g0 g1 g2 g3 g4; have h31 := (h3.below hb1).below ((Below.refl _ _).alloc (Nat.le_refl _) (.cells (stC n' a' b'' c' d') 157)); have hB := h31.2.2.2; have hN := Blk.new w1 157 (stC n' a' b'' c' d'); have hB0 := hb1; have y1' := (h31.2.1.alloc (.cells #[.int .u8 (z.toNat : Int)] 5)).cell 1; simp at y1'; obtain ⟨⟨s0, s1, s2, s3, s4⟩, ⟨y0, y1, y2, y3⟩, ⟨r0, r1, r2, r3, r4⟩, ⟨f0, f1, f2, f3, f4⟩, ⟨g0, g1, g2, g3, g4⟩⟩ := h31.cells; clear hw0)
 have hz1 : w.heap.size ≤ w1.heap.size := Nat.le_trans h3.2.2.2.size hb1.size;have hW1 := h.below hB;have hW2 := hW1.below ((Below.refl _ _).alloc (Nat.le_refl _) (.cells #[.int .u8 (z.toNat : Int)] 5));have hW3 := hW2.below ((Below.refl _ _).alloc (Nat.le_refl _) (.cells #[.int .u8 (z.toNat : Int)] 5));have hs3 := lit_src z hW2;simp only [World.size_alloc] at hs3;refine (Put_any B b size r all _ 1 1 [z] _ hW3 hs3 hlen).mono ?_
 rintro e w2 ⟨rfl, r2, hW, hF, hA⟩;have hb0 : b < w.heap.size := h.lt.1;have hr0 : ∀ g, r = some g → g < w.heap.size := fun g hg => (h.lt.2 g hg).2
 have hNx := ((hN.alloc (.cells #[.int .u8 (z.toNat : Int)] 5)).alloc (.cells #[.int .u8 (z.toNat : Int)] 5)).same (hF.block _ (by simp only [World.size_alloc]; omega) (by
  rintro (e | e)
  · omega
  · have := hr0 _ e.symm; omega))
 have hOwn := own_same (w' := w2) (lit_own (B := w.heap.size) (w1.alloc (.cells (stC n' a' b'' c' d') 157)) z (by simp only [World.size_alloc]; omega)) (fun g hg => by
  have hg' : g = w1.heap.size + 1 := by simp [Value.ownBlock, World.size_alloc] at hg; omega
  subst hg';exact (hF.block _ (by simp only [World.size_alloc]; omega) (by
   rintro (e | e)
   · omega
   · have := hr0 _ e.symm; omega)).trans (Below.heap_alloc _ _ _ (by simp only [World.size_alloc]; omega)))
 simp only [World.size_alloc] at hOwn;have hB3 : Below w.heap.size w (((w1.alloc (.cells (stC n' a' b'' c' d') 157)).alloc (.cells #[.int .u8 (z.toNat : Int)] 5)).alloc (.cells #[.int .u8 (z.toNat : Int)] 5)) :=
  (hB.alloc hB.size _).alloc (by simp only [World.size_alloc]; omega) _
 have hFr : Fr (fun k => k = b ∨ some k = r) w w2 := (⟨hB3.os, hB3.tape, hB3.output, hB3.size, fun k hk _ => hB3.block k hk⟩ : Fr (fun k => k = b ∨ some k = r) w _).trans hF
 simp only [World.size_alloc] at hA;have c0 := hNx.cell 0; have c1 := hNx.cell 1; have c2 := hNx.cell 2; have c3 := hNx.cell 3; have c4 := hNx.cell 4;simp at c0 c1 c2 c3 c4;have hRs := ((h31.2.2.1.alloc (.cells #[.int .u8 (z.toNat : Int)] 5)).alloc (.cells #[.int .u8 (z.toNat : Int)] 5)).same (hF.block _ (by simp only [World.size_alloc]; have := hb1.size; have := h3.2.2.1.lt; omega) (by
  rintro (e | e)
  · omega
  · have := hr0 _ e.symm; omega))
 have q0 : w2.cell? ⟨w.heap.size + 1 + 1, 0, none⟩ = some (.int .i64 0) := hRs.cell 0;have u0 : w2.frozen? ⟨w.heap.size + 1 + 1, 0, none⟩ = false := hRs.frozen 0;have q1 : w2.cell? ⟨w.heap.size + 1 + 1, 1, none⟩ = some (.int .i64 0) := hRs.cell 1;have u1 : w2.frozen? ⟨w.heap.size + 1 + 1, 1, none⟩ = false := hRs.frozen 1;have q2 : w2.cell? ⟨w.heap.size + 1 + 1, 2, none⟩ = some (.int .i64 0) := hRs.cell 2
 have u2 : w2.frozen? ⟨w.heap.size + 1 + 1, 2, none⟩ = false := hRs.frozen 2;have q3 : w2.cell? ⟨w.heap.size + 1 + 1, 3, none⟩ = some (.int .i64 0) := hRs.cell 3;have u3 : w2.frozen? ⟨w.heap.size + 1 + 1, 3, none⟩ = false := hRs.frozen 3;have q4 : w2.cell? ⟨w.heap.size + 1 + 1, 4, none⟩ = some (.int .i64 0) := hRs.cell 4;have u4 : w2.frozen? ⟨w.heap.size + 1 + 1, 4, none⟩ = false := hRs.frozen 4;have hq3 : w.heap.size + 1 + 1 < w1.heap.size := Nat.lt_of_lt_of_le h3.2.2.1.lt hb1.size
 have hPost : ∀ wz, Fr (fun k => k = w.heap.size + 1 + 1) w2 wz → ApPost size B b r all [z] ⟨n', a', b'', c', d'⟩ 0 w (.returned (.tuple #[.slice (some ⟨w1.heap.size + 1, 0, none⟩) 1 1, .agg (stC n' a' b'' c' d'), .int .i64 0])) wz := fun wz hz =>
  ⟨_, _, r2, rfl, hW.fr hz (by omega) (fun g hg e => by
   rcases hA g hg with h | h
   · have := hr0 _ h; omega
   · omega), own_same hOwn (fun g hg => hz.block _ (own_lt hOwn hg).2 (by simp [Value.ownBlock] at hg; omega)), hFr.trans' hz (fun i hi e => by omega), fun g hg => by
   rcases hA g hg with h | h
   · exact .inl h
   · exact .inr (by omega), fun g hg e => by
   simp [Value.ownBlock] at hg;rcases hA g e with h | h
   · have := hr0 _ h; omega
   · omega⟩
 clear hOwn hFr hW hF hNx hB3 hs3 hW3 hW2 hW1 hN hB h31 h hl hb0 hlen s0 s1 s2 s3 s4 y0 y1 y2 y3 r0 r1 r2 r3 r4 f0 f1 f2 f3 f4 g0 g1 g2 g3 g4 y1' h3 hcc hRs hr0 hA;go_wp2_with fail
 go_region
 go_wp2_with fail;exact bodyPost_ret (v := .tuple #[.slice (some ⟨w1.heap.size + 1, 0, none⟩) 1 1, .agg (stC n' a' b'' c' d'), .int .i64 0]) (by simp [results, Tryz.results135, go_sem, *]) rfl (hPost _ (fr5 _ _ _ _ _ _ _).drew)
end Go.Proofs.YtcjehjdehdoaeaaGreatDoor.win
namespace Go.Proofs.YtcjehjdehdoaeaaGreatDoor.win
open Go.RowKit
theorem ApPost.copy {B b size q d n cc : Nat} {r r2 : Option Nat} {all bs : List UInt8} {A : Option Addr} {t : St} {w W3 w2 wz : World} (h : Win w B b r size all) (hB : Below w.heap.size w W3) (hR : CopyRel B b size r all d W3 n A cc r2 w2) (hq : w.heap.size ≤ q) (hq2 : q < W3.heap.size) (hz : Fr (fun k => k = q) w2 wz) (hbs : (ext d n all).drop all.length = bs) :
 ApPost size B b r all bs t 0 w (.returned (.tuple #[.slice A n cc, t.v, .int .i64 0])) wz := by
 obtain rfl : n = bs.length := by rw [← hbs, List.length_drop, ext_length]; omega
 have hall : ext d bs.length all = all ++ bs := by
  have := ext_all d bs.length all;rw [hbs] at this;exact this
 have hb := h.lt.1;have hr : ∀ g, r = some g → g < w.heap.size := fun g hg => (h.lt.2 g hg).2
 have hOwn := hR.own;rw [hbs] at hOwn;refine ⟨A, cc, r2, rfl, ?_, ?_, ?_, ?_, ?_⟩
 · have := hR.win;rw [hall] at this;refine this.fr hz (by omega) (fun g hg e => ?_)
   rcases hR.at_ g hg with h1 | h1
   · have := hr _ h1; omega
   · omega
 · exact own_mono (own_same hOwn (fun g hg => hz.block _ (own_lt hOwn hg).2 (by have := (own_lt hOwn hg).1; omega))) hB.size
 · have hFr : Fr (fun k => k = b ∨ some k = r) w w2 := (⟨hB.os, hB.tape, hB.output, hB.size, fun k hk _ => hB.block k hk⟩ : Fr (fun k => k = b ∨ some k = r) w _).trans hR.fr
   exact hFr.trans' hz (fun i hi e => by omega)
 · intro g hg;rcases hR.at_ g hg with h1 | h1
   · exact .inl h1
   · exact .inr (Nat.le_trans hB.size h1)
 · exact fun g hg e => hR.ne g e hg
theorem CopyRel.keeps {B b size d n cc : Nat} {r r2 : Option Nat} {all : List UInt8} {A : Option Addr} {W3 w2 : World} (hR : CopyRel B b size r all d W3 n A cc r2 w2) {g : Nat} (hg : g < W3.heap.size) (h1 : g ≠ b) (h2 : ∀ k, r = some k → g ≠ k) : w2.heap[g]? = W3.heap[g]? :=
 hR.fr.block g hg (by
  rintro (e | e)
  · exact h1 e
  · exact h2 _ e.symm rfl)
theorem Apply_match (B b size : Nat) (r : Option Nat) (all : List UInt8) (s : St) (y : Sy) (w : World) (h : Win w B b r size all) (hl : Laid w) (he : nextE s y = 0) (hk : y.k = 2) (dd nn : Nat) (hd : y.x = (dd : Int)) (hnn : y.l = (nn : Int)) (h273 : nn ≤ 273) (hd1 : 1 ≤ dd) (hd2 : dd ≤ full size all) (hlen : all.length < 4611686018427380000) :
 Calls Tryz.prog 135 #[.pointer (some ⟨b, 0, none⟩), s.v, y.v] w (ApPost size B b r all ((ext dd nn all).drop all.length) (nextS s y) 0 w) := by
 have hn := Next_p s y;rw [he] at hn;obtain ⟨t, ht⟩ : ∃ t, nextS s y = t := ⟨_, rfl⟩;rw [ht] at hn ⊢;clear ht he;obtain ⟨n', a', b'', c', d'⟩ := t;obtain ⟨n, a, b', c, d⟩ := s;obtain ⟨k, z, l, x⟩ := y;simp only [] at hk hd hnn;subst hk;subst hd;subst hnn;have h3 := three_new 157 w n a b' c d 2 (z.toNat : Int) (nn : Int) (dd : Int);unfold St.v Sy.v at hn;unfold Sy.cs at hn;unfold St.v Sy.v Sy.cs;simp only [] at hn ⊢
 obtain ⟨w0, hw0⟩ : ∃ w0, (((w.alloc (.cells (stC n a b' c d) 157)).alloc (.cells #[.int .i64 2, .int .u8 (z.toNat : Int), .int .i64 (nn : Int), .int .i64 (dd : Int)] 232)).alloc (.cells (stC 0 0 0 0 0) 157)) = w0 := ⟨_, rfl⟩;rw [hw0] at h3;have hcc := hn w0 (hl.below (h3.2.2.2));clear hn;have H := Lib.hid h;go_enter Tryz.func135, Tryz.ntmps135;obtain ⟨⟨s0, s1, s2, s3, s4⟩, ⟨y0, y1, y2, y3⟩, ⟨r0, r1, r2, r3, r4⟩, ⟨f0, f1, f2, f3, f4⟩, ⟨g0, g1, g2, g3, g4⟩⟩ := h3.cells
 go_wp2_with (go_at_call 128; first | (rw [hw0]; refine hcc.mono ?_) | refine hcc.mono ?_; rintro e w1 ⟨rfl, hb1⟩; clear s0 s1 s2 s3 s4 y0 y1 y2 y3 r0 r1 r2 r3 r4 f0 f1 f2 f3 f4 g0 g1 g2 g3 g4; have h31 := (h3.below hb1).below ((Below.refl _ _).alloc (Nat.le_refl _) (.cells (stC n' a' b'' c' d') 157)); have hB := h31.2.2.2; have hN := Blk.new w1 157 (stC n' a' b'' c' d'); obtain ⟨⟨s0, s1, s2, s3, s4⟩, ⟨y0, y1, y2, y3⟩, ⟨r0, r1, r2, r3, r4⟩, ⟨f0, f1, f2, f3, f4⟩, ⟨g0, g1, g2, g3, g4⟩⟩ := h31.cells; clear hw0)
 have hz0 : w.heap.size + 1 + 1 < w1.heap.size := Nat.lt_of_lt_of_le h3.2.2.1.lt hb1.size;have hb0 : b < w.heap.size := h.lt.1;have hr0 : ∀ g, r = some g → g < w.heap.size := fun g hg => (h.lt.2 g hg).2
 have hW3 := h.below hB;refine (Copy_yes B b size r all dd nn _ hW3 hd1 hd2 h273 hlen).mono ?_;rintro e w2 ⟨A, cc, r2', rfl, hR⟩;have hNx := hN.same (hR.keeps hN.lt (by omega) (fun k hk => by have := hr0 _ hk; omega))
 have hRs := h31.2.2.1.same (hR.keeps h31.2.2.1.lt (by omega) (fun k hk => by have := hr0 _ hk; omega))
 have c0 := hNx.cell 0; have c1 := hNx.cell 1; have c2 := hNx.cell 2; have c3 := hNx.cell 3; have c4 := hNx.cell 4;simp at c0 c1 c2 c3 c4;have q0 : w2.cell? ⟨w.heap.size + 1 + 1, 0, none⟩ = some (.int .i64 0) := hRs.cell 0;have u0 : w2.frozen? ⟨w.heap.size + 1 + 1, 0, none⟩ = false := hRs.frozen 0;have q1 : w2.cell? ⟨w.heap.size + 1 + 1, 1, none⟩ = some (.int .i64 0) := hRs.cell 1;have u1 : w2.frozen? ⟨w.heap.size + 1 + 1, 1, none⟩ = false := hRs.frozen 1
 have q2 : w2.cell? ⟨w.heap.size + 1 + 1, 2, none⟩ = some (.int .i64 0) := hRs.cell 2;have u2 : w2.frozen? ⟨w.heap.size + 1 + 1, 2, none⟩ = false := hRs.frozen 2;have q3 : w2.cell? ⟨w.heap.size + 1 + 1, 3, none⟩ = some (.int .i64 0) := hRs.cell 3;have u3 : w2.frozen? ⟨w.heap.size + 1 + 1, 3, none⟩ = false := hRs.frozen 3;have q4 : w2.cell? ⟨w.heap.size + 1 + 1, 4, none⟩ = some (.int .i64 0) := hRs.cell 4
 have u4 : w2.frozen? ⟨w.heap.size + 1 + 1, 4, none⟩ = false := hRs.frozen 4;have hPost : ∀ wz, Fr (fun k => k = w.heap.size + 1 + 1) w2 wz → ApPost size B b r all ((ext dd nn all).drop all.length) ⟨n', a', b'', c', d'⟩ 0 w (.returned (.tuple #[.slice A nn cc, .agg (stC n' a' b'' c' d'), .int .i64 0])) wz := fun wz hz =>
  ApPost.copy (t := ⟨n', a', b'', c', d'⟩) h hB hR (by omega) (by simp only [World.size_alloc]; omega) hz rfl
 clear hNx hRs hW3 hN hB h31 h hl hb0 hlen s0 s1 s2 s3 s4 y0 y1 y2 y3 r0 r1 r2 r3 r4 f0 f1 f2 f3 f4 g0 g1 g2 g3 g4 h3 hcc hr0 hR;go_wp2_with fail
 go_region
 go_wp2_with fail;exact bodyPost_ret (v := .tuple #[.slice A nn cc, .agg (stC n' a' b'' c' d'), .int .i64 0]) (by simp [results, Tryz.results135, go_sem, *]) rfl (hPost _ (fr5 _ _ _ _ _ _ _).drew)
theorem Apply_match_no (B b size : Nat) (r : Option Nat) (all : List UInt8) (s : St) (y : Sy) (w : World) (h : Win w B b r size all) (hl : Laid w) (he : nextE s y = 0) (hk : y.k = 2) (hno : ¬ (1 ≤ y.x ∧ y.x ≤ full size all ∧ 0 ≤ (y.l : Int) ∧ (y.l : Int) ≤ 273)) :
 Calls Tryz.prog 135 #[.pointer (some ⟨b, 0, none⟩), s.v, y.v] w (ApPost size B b r all [] St.zero 7 w) := by
 have hn := Next_p s y;rw [he] at hn;obtain ⟨t, ht⟩ : ∃ t, nextS s y = t := ⟨_, rfl⟩;rw [ht] at hn;clear ht he;obtain ⟨n', a', b'', c', d'⟩ := t;obtain ⟨n, a, b', c, d⟩ := s;obtain ⟨k, z, l, x⟩ := y;simp only [] at hk hno;subst hk;have h3 := three_new 157 w n a b' c d 2 (z.toNat : Int) l x;unfold St.v Sy.v at hn;unfold Sy.cs at hn;unfold St.v Sy.v Sy.cs;simp only [] at hn ⊢;obtain ⟨w0, hw0⟩ : ∃ w0, (((w.alloc (.cells (stC n a b' c d) 157)).alloc (.cells #[.int .i64 2, .int .u8 (z.toNat : Int), .int .i64 l, .int .i64 x] 232)).alloc (.cells (stC 0 0 0 0 0) 157)) = w0 := ⟨_, rfl⟩
 rw [hw0] at h3;have hcc := hn w0 (hl.below (h3.2.2.2));clear hn;have H := Lib.hid h;have Hno := Lib.hid hno;clear hno;go_enter Tryz.func135, Tryz.ntmps135;obtain ⟨⟨s0, s1, s2, s3, s4⟩, ⟨y0, y1, y2, y3⟩, ⟨r0, r1, r2, r3, r4⟩, ⟨f0, f1, f2, f3, f4⟩, ⟨g0, g1, g2, g3, g4⟩⟩ := h3.cells;go_wp2_with (go_at_call 128; first | (rw [hw0]; refine hcc.mono ?_) | refine hcc.mono ?_; rintro e w1 ⟨rfl, hb1⟩; clear s0 s1 s2 s3 s4 y0 y1 y2 y3 r0 r1 r2 r3 r4 f0 f1 f2 f3 f4 g0 g1 g2 g3 g4; have h31 := (h3.below hb1).below ((Below.refl _ _).alloc (Nat.le_refl _) (.cells (stC n' a' b'' c' d') 157)); have hB := h31.2.2.2; have hN := Blk.new w1 157 (stC n' a' b'' c' d'); obtain ⟨⟨s0, s1, s2, s3, s4⟩, ⟨y0, y1, y2, y3⟩, ⟨r0, r1, r2, r3, r4⟩, ⟨f0, f1, f2, f3, f4⟩, ⟨g0, g1, g2, g3, g4⟩⟩ := h31.cells; clear hw0)
 have hz0 : w.heap.size + 1 + 1 < w1.heap.size := Nat.lt_of_lt_of_le h3.2.2.1.lt hb1.size;have hb0 : b < w.heap.size := h.lt.1;have hr0 : ∀ g, r = some g → g < w.heap.size := fun g hg => (h.lt.2 g hg).2
 obtain ⟨⟨s0', s1', s2', s3', s4'⟩, ⟨y0', y1', y2', y3'⟩, ⟨r0', r1', r2', r3', r4'⟩, ⟨f0', f1', f2', f3', f4'⟩, ⟨g0', g1', g2', g3', g4'⟩⟩ := (h3.below hb1).cells;have hW3 := H.out.below hB;have hB0 := (h3.below hb1).2.2.2;refine (Copy_no B b size r all _ _ _ hW3 Hno.out).mono ?_;rintro e w2 ⟨rfl, rfl⟩;go_wp2_with fail;refine bodyPost_ret (v := .tuple #[.slice none 0 0, .agg (stC 0 0 0 0 0), .int .i64 7]) (by simp [results, Tryz.results135, go_sem, *]) rfl (ApPost.nil H.out ((below5 hB0 (up2 _) _ _ _ _ _).alloc (by simp [World.setCell]; omega) _))
theorem Apply_short (B b size : Nat) (r : Option Nat) (all : List UInt8) (s : St) (y : Sy) (w : World) (h : Win w B b r size all) (hl : Laid w) (he : nextE s y = 0) (hk : y.k = 4) (dd : Nat) (hd : s.a = (dd : Int)) (hd1 : 1 ≤ dd) (hd2 : dd ≤ full size all) (hlen : all.length < 4611686018427380000) :
 Calls Tryz.prog 135 #[.pointer (some ⟨b, 0, none⟩), s.v, y.v] w (ApPost size B b r all ((ext dd 1 all).drop all.length) (nextS s y) 0 w) := by
 have hn := Next_p s y;rw [he] at hn;obtain ⟨t, ht⟩ : ∃ t, nextS s y = t := ⟨_, rfl⟩;rw [ht] at hn ⊢;clear ht he;obtain ⟨n', a', b'', c', d'⟩ := t;obtain ⟨n, a, b', c, d⟩ := s;obtain ⟨k, z, l, x⟩ := y;simp only [] at hk hd;subst hk;subst hd;have h3 := three_new 157 w n (dd : Int) b' c d 4 (z.toNat : Int) l x;unfold St.v Sy.v at hn;unfold Sy.cs at hn;unfold St.v Sy.v Sy.cs;simp only [] at hn ⊢;obtain ⟨w0, hw0⟩ : ∃ w0, (((w.alloc (.cells (stC n (dd : Int) b' c d) 157)).alloc (.cells #[.int .i64 4, .int .u8 (z.toNat : Int), .int .i64 l, .int .i64 x] 232)).alloc (.cells (stC 0 0 0 0 0) 157)) = w0 := ⟨_, rfl⟩
 rw [hw0] at h3;have hcc := hn w0 (hl.below (h3.2.2.2));clear hn;have H := Lib.hid h;go_enter Tryz.func135, Tryz.ntmps135;obtain ⟨⟨s0, s1, s2, s3, s4⟩, ⟨y0, y1, y2, y3⟩, ⟨r0, r1, r2, r3, r4⟩, ⟨f0, f1, f2, f3, f4⟩, ⟨g0, g1, g2, g3, g4⟩⟩ := h3.cells;go_wp2_with (go_at_call 128; first | (rw [hw0]; refine hcc.mono ?_) | refine hcc.mono ?_; rintro e w1 ⟨rfl, hb1⟩; clear s0 s1 s2 s3 s4 y0 y1 y2 y3 r0 r1 r2 r3 r4 f0 f1 f2 f3 f4 g0 g1 g2 g3 g4; have h31 := (h3.below hb1).below ((Below.refl _ _).alloc (Nat.le_refl _) (.cells (stC n' a' b'' c' d') 157)); have hB := h31.2.2.2; have hN := Blk.new w1 157 (stC n' a' b'' c' d'); obtain ⟨⟨s0, s1, s2, s3, s4⟩, ⟨y0, y1, y2, y3⟩, ⟨r0, r1, r2, r3, r4⟩, ⟨f0, f1, f2, f3, f4⟩, ⟨g0, g1, g2, g3, g4⟩⟩ := h31.cells; clear hw0)
 have hz0 : w.heap.size + 1 + 1 < w1.heap.size := Nat.lt_of_lt_of_le h3.2.2.1.lt hb1.size;have hb0 : b < w.heap.size := h.lt.1;have hr0 : ∀ g, r = some g → g < w.heap.size := fun g hg => (h.lt.2 g hg).2
 have hW3 := h.below hB;refine (Copy_yes B b size r all dd 1 _ hW3 hd1 hd2 (by omega) hlen).mono ?_
 rintro e w2 ⟨A, cc, r2', rfl, hR⟩;have hNx := hN.same (hR.keeps hN.lt (by omega) (fun k hk => by have := hr0 _ hk; omega))
 have hRs := h31.2.2.1.same (hR.keeps h31.2.2.1.lt (by omega) (fun k hk => by have := hr0 _ hk; omega))
 have c0 := hNx.cell 0; have c1 := hNx.cell 1; have c2 := hNx.cell 2; have c3 := hNx.cell 3; have c4 := hNx.cell 4;simp at c0 c1 c2 c3 c4;have q0 : w2.cell? ⟨w.heap.size + 1 + 1, 0, none⟩ = some (.int .i64 0) := hRs.cell 0;have u0 : w2.frozen? ⟨w.heap.size + 1 + 1, 0, none⟩ = false := hRs.frozen 0;have q1 : w2.cell? ⟨w.heap.size + 1 + 1, 1, none⟩ = some (.int .i64 0) := hRs.cell 1;have u1 : w2.frozen? ⟨w.heap.size + 1 + 1, 1, none⟩ = false := hRs.frozen 1
 have q2 : w2.cell? ⟨w.heap.size + 1 + 1, 2, none⟩ = some (.int .i64 0) := hRs.cell 2;have u2 : w2.frozen? ⟨w.heap.size + 1 + 1, 2, none⟩ = false := hRs.frozen 2;have q3 : w2.cell? ⟨w.heap.size + 1 + 1, 3, none⟩ = some (.int .i64 0) := hRs.cell 3;have u3 : w2.frozen? ⟨w.heap.size + 1 + 1, 3, none⟩ = false := hRs.frozen 3;have q4 : w2.cell? ⟨w.heap.size + 1 + 1, 4, none⟩ = some (.int .i64 0) := hRs.cell 4
 have u4 : w2.frozen? ⟨w.heap.size + 1 + 1, 4, none⟩ = false := hRs.frozen 4;have hPost : ∀ wz, Fr (fun k => k = w.heap.size + 1 + 1) w2 wz → ApPost size B b r all ((ext dd 1 all).drop all.length) ⟨n', a', b'', c', d'⟩ 0 w (.returned (.tuple #[.slice A 1 cc, .agg (stC n' a' b'' c' d'), .int .i64 0])) wz := fun wz hz =>
  ApPost.copy (t := ⟨n', a', b'', c', d'⟩) h hB hR (by omega) (by simp only [World.size_alloc]; omega) hz rfl
 clear hNx hRs hW3 hN hB h31 h hl hb0 hlen s0 s1 s2 s3 s4 y0 y1 y2 y3 r0 r1 r2 r3 r4 f0 f1 f2 f3 f4 g0 g1 g2 g3 g4 h3 hcc hr0 hR;go_wp2_with fail
 go_region
 go_wp2_with fail;exact bodyPost_ret (v := .tuple #[.slice A 1 cc, .agg (stC n' a' b'' c' d'), .int .i64 0]) (by simp [results, Tryz.results135, go_sem, *]) rfl (hPost _ (fr5 _ _ _ _ _ _ _).drew)
theorem Apply_short_no (B b size : Nat) (r : Option Nat) (all : List UInt8) (s : St) (y : Sy) (w : World) (h : Win w B b r size all) (hl : Laid w) (he : nextE s y = 0) (hk : y.k = 4) (hno : ¬ (1 ≤ s.a ∧ s.a ≤ full size all ∧ 0 ≤ (1 : Int) ∧ (1 : Int) ≤ 273)) :
 Calls Tryz.prog 135 #[.pointer (some ⟨b, 0, none⟩), s.v, y.v] w (ApPost size B b r all [] St.zero 7 w) := by
 have hn := Next_p s y;rw [he] at hn;obtain ⟨t, ht⟩ : ∃ t, nextS s y = t := ⟨_, rfl⟩;rw [ht] at hn;clear ht he;obtain ⟨n', a', b'', c', d'⟩ := t;obtain ⟨n, a, b', c, d⟩ := s;obtain ⟨k, z, l, x⟩ := y;simp only [] at hk hno;subst hk;have h3 := three_new 157 w n a b' c d 4 (z.toNat : Int) l x;unfold St.v Sy.v at hn;unfold Sy.cs at hn;unfold St.v Sy.v Sy.cs;simp only [] at hn ⊢;obtain ⟨w0, hw0⟩ : ∃ w0, (((w.alloc (.cells (stC n a b' c d) 157)).alloc (.cells #[.int .i64 4, .int .u8 (z.toNat : Int), .int .i64 l, .int .i64 x] 232)).alloc (.cells (stC 0 0 0 0 0) 157)) = w0 := ⟨_, rfl⟩
 rw [hw0] at h3;have hcc := hn w0 (hl.below (h3.2.2.2));clear hn;have H := Lib.hid h;have Hno := Lib.hid hno;clear hno;go_enter Tryz.func135, Tryz.ntmps135;obtain ⟨⟨s0, s1, s2, s3, s4⟩, ⟨y0, y1, y2, y3⟩, ⟨r0, r1, r2, r3, r4⟩, ⟨f0, f1, f2, f3, f4⟩, ⟨g0, g1, g2, g3, g4⟩⟩ := h3.cells;go_wp2_with (go_at_call 128; first | (rw [hw0]; refine hcc.mono ?_) | refine hcc.mono ?_; rintro e w1 ⟨rfl, hb1⟩; clear s0 s1 s2 s3 s4 y0 y1 y2 y3 r0 r1 r2 r3 r4 f0 f1 f2 f3 f4 g0 g1 g2 g3 g4; have h31 := (h3.below hb1).below ((Below.refl _ _).alloc (Nat.le_refl _) (.cells (stC n' a' b'' c' d') 157)); have hB := h31.2.2.2; have hN := Blk.new w1 157 (stC n' a' b'' c' d'); obtain ⟨⟨s0, s1, s2, s3, s4⟩, ⟨y0, y1, y2, y3⟩, ⟨r0, r1, r2, r3, r4⟩, ⟨f0, f1, f2, f3, f4⟩, ⟨g0, g1, g2, g3, g4⟩⟩ := h31.cells; clear hw0)
 have hz0 : w.heap.size + 1 + 1 < w1.heap.size := Nat.lt_of_lt_of_le h3.2.2.1.lt hb1.size;have hb0 : b < w.heap.size := h.lt.1;have hr0 : ∀ g, r = some g → g < w.heap.size := fun g hg => (h.lt.2 g hg).2
 obtain ⟨⟨s0', s1', s2', s3', s4'⟩, ⟨y0', y1', y2', y3'⟩, ⟨r0', r1', r2', r3', r4'⟩, ⟨f0', f1', f2', f3', f4'⟩, ⟨g0', g1', g2', g3', g4'⟩⟩ := (h3.below hb1).cells;have hW3 := H.out.below hB;have hB0 := (h3.below hb1).2.2.2;refine (Copy_no B b size r all _ _ _ hW3 Hno.out).mono ?_;rintro e w2 ⟨rfl, rfl⟩;go_wp2_with fail;refine bodyPost_ret (v := .tuple #[.slice none 0 0, .agg (stC 0 0 0 0 0), .int .i64 7]) (by simp [results, Tryz.results135, go_sem, *]) rfl (ApPost.nil H.out ((below5 hB0 (up2 _) _ _ _ _ _).alloc (by simp [World.setCell]; omega) _))
theorem Apply_rep0 (B b size : Nat) (r : Option Nat) (all : List UInt8) (s : St) (y : Sy) (w : World) (h : Win w B b r size all) (hl : Laid w) (he : nextE s y = 0) (hk : y.k = 3) (hx : y.x = 0) (dd nn : Nat) (hd : s.a = (dd : Int)) (hnn : y.l = (nn : Int)) (h273 : nn ≤ 273) (hd1 : 1 ≤ dd) (hd2 : dd ≤ full size all) (hlen : all.length < 4611686018427380000) :
 Calls Tryz.prog 135 #[.pointer (some ⟨b, 0, none⟩), s.v, y.v] w (ApPost size B b r all ((ext dd nn all).drop all.length) (nextS s y) 0 w) := by
 have hn := Next_p s y;rw [he] at hn;obtain ⟨t, ht⟩ : ∃ t, nextS s y = t := ⟨_, rfl⟩;rw [ht] at hn ⊢;clear ht he;obtain ⟨n', a', b'', c', d'⟩ := t;obtain ⟨n, a, b', c, d⟩ := s;obtain ⟨k, z, l, x⟩ := y;simp only [] at hk hx hd hnn;subst hk;subst hx;subst hd;subst hnn;have h3 := three_new 157 w n (dd : Int) b' c d 3 (z.toNat : Int) (nn : Int) 0;unfold St.v Sy.v at hn;unfold Sy.cs at hn;unfold St.v Sy.v Sy.cs
 simp only [] at hn ⊢;obtain ⟨w0, hw0⟩ : ∃ w0, (((w.alloc (.cells (stC n (dd : Int) b' c d) 157)).alloc (.cells #[.int .i64 3, .int .u8 (z.toNat : Int), .int .i64 (nn : Int), .int .i64 0] 232)).alloc (.cells (stC 0 0 0 0 0) 157)) = w0 := ⟨_, rfl⟩;rw [hw0] at h3;have hcc := hn w0 (hl.below (h3.2.2.2));clear hn;have H := Lib.hid h;go_enter Tryz.func135, Tryz.ntmps135;obtain ⟨⟨s0, s1, s2, s3, s4⟩, ⟨y0, y1, y2, y3⟩, ⟨r0, r1, r2, r3, r4⟩, ⟨f0, f1, f2, f3, f4⟩, ⟨g0, g1, g2, g3, g4⟩⟩ := h3.cells
 go_wp2_with (go_at_call 128; first | (rw [hw0]; refine hcc.mono ?_) | refine hcc.mono ?_; rintro e w1 ⟨rfl, hb1⟩; clear s0 s1 s2 s3 s4 y0 y1 y2 y3 r0 r1 r2 r3 r4 f0 f1 f2 f3 f4 g0 g1 g2 g3 g4; have h31 := (h3.below hb1).below ((Below.refl _ _).alloc (Nat.le_refl _) (.cells (stC n' a' b'' c' d') 157)); have hB := h31.2.2.2; have hN := Blk.new w1 157 (stC n' a' b'' c' d'); obtain ⟨⟨s0, s1, s2, s3, s4⟩, ⟨y0, y1, y2, y3⟩, ⟨r0, r1, r2, r3, r4⟩, ⟨f0, f1, f2, f3, f4⟩, ⟨g0, g1, g2, g3, g4⟩⟩ := h31.cells; clear hw0)
 have hz0 : w.heap.size + 1 + 1 < w1.heap.size := Nat.lt_of_lt_of_le h3.2.2.1.lt hb1.size;have hb0 : b < w.heap.size := h.lt.1;have hr0 : ∀ g, r = some g → g < w.heap.size := fun g hg => (h.lt.2 g hg).2
 obtain ⟨W3, hW3⟩ : ∃ W3, (w1.alloc (.cells (stC n' a' b'' c' d') 157)) = W3 := ⟨_, rfl⟩;have hs3 : W3.drew.heap.size = w1.heap.size + 1 := by rw [← hW3]; simp
 have hs4 : W3.heap.size = w1.heap.size + 1 := hs3;rw [hW3] at hN hB h31 s0 s1 s2 s3 s4 y0 y1 y2 y3 r0 r1 r2 r3 r4 f0 f1 f2 f3 f4 g0 g1 g2 g3 g4 ⊢;clear hW3;have hW3 := H.out.below (hB.drew);have Hq : Hid (∀ A cc r2 w2, CopyRel B b size r all dd W3.drew nn A cc r2 w2 → w2.cell? ⟨w.heap.size + 1, 3, none⟩ = some (.int .i64 0) ∧ w2.cell? ⟨w.heap.size + 1, 2, none⟩ = some (.int .i64 (nn : Int)) ∧ w2.cell? ⟨w.heap.size, 1, none⟩ = some (.int .i64 (dd : Int))) := fun A cc r2 w2 hR => ⟨((h31.drew.2.1.same (hR.keeps h31.drew.2.1.lt (by omega) (fun k hk => by have := hr0 _ hk; omega))).cell 3), ((h31.drew.2.1.same (hR.keeps h31.drew.2.1.lt (by omega) (fun k hk => by have := hr0 _ hk; omega))).cell 2), ((h31.drew.1.same (hR.keeps h31.drew.1.lt (by omega) (fun k hk => by have := hr0 _ hk; omega))).cell 1)⟩
 go_region_held3 (fun w' => w'.cell? ⟨w.heap.size + 1, 3, none⟩ = some (.int .i64 0) ∧ w'.cell? ⟨w.heap.size + 1, 2, none⟩ = some (.int .i64 (nn : Int)) ∧ w'.cell? ⟨w.heap.size, 1, none⟩ = some (.int .i64 (dd : Int)))
  (first | (with_reducible exact ⟨y3, y2, s1⟩) | (with_reducible exact ⟨p3, p2, ps⟩) | go_keep)
  (first | (go_at_call 164; refine (Copy_yes B b size r all dd nn _ hW3 hd1 hd2 h273 hlen).mono ?_; rintro e w2 ⟨A, cc, r2', rfl, hR⟩; obtain ⟨p3, p2, ps⟩ := Hq.out _ _ _ _ hR))
 have hNx := hN.same (hR.keeps hN.lt (by omega) (fun k hk => by have := hr0 _ hk; omega))
 have hRs := h31.2.2.1.same (hR.keeps h31.2.2.1.lt (by omega) (fun k hk => by have := hr0 _ hk; omega))
 have c0 := hNx.cell 0; have c1 := hNx.cell 1; have c2 := hNx.cell 2; have c3 := hNx.cell 3; have c4 := hNx.cell 4;simp at c0 c1 c2 c3 c4;have q0 : w2.cell? ⟨w.heap.size + 1 + 1, 0, none⟩ = some (.int .i64 0) := hRs.cell 0;have u0 : w2.frozen? ⟨w.heap.size + 1 + 1, 0, none⟩ = false := hRs.frozen 0;have q1 : w2.cell? ⟨w.heap.size + 1 + 1, 1, none⟩ = some (.int .i64 0) := hRs.cell 1;have u1 : w2.frozen? ⟨w.heap.size + 1 + 1, 1, none⟩ = false := hRs.frozen 1
 have q2 : w2.cell? ⟨w.heap.size + 1 + 1, 2, none⟩ = some (.int .i64 0) := hRs.cell 2;have u2 : w2.frozen? ⟨w.heap.size + 1 + 1, 2, none⟩ = false := hRs.frozen 2;have q3 : w2.cell? ⟨w.heap.size + 1 + 1, 3, none⟩ = some (.int .i64 0) := hRs.cell 3;have u3 : w2.frozen? ⟨w.heap.size + 1 + 1, 3, none⟩ = false := hRs.frozen 3;have q4 : w2.cell? ⟨w.heap.size + 1 + 1, 4, none⟩ = some (.int .i64 0) := hRs.cell 4
 have u4 : w2.frozen? ⟨w.heap.size + 1 + 1, 4, none⟩ = false := hRs.frozen 4;have hPost : ∀ wz, Fr (fun k => k = w.heap.size + 1 + 1) w2 wz → ApPost size B b r all ((ext dd nn all).drop all.length) ⟨n', a', b'', c', d'⟩ 0 w (.returned (.tuple #[.slice A nn cc, .agg (stC n' a' b'' c' d'), .int .i64 0])) wz := fun wz hz =>
  ApPost.copy (t := ⟨n', a', b'', c', d'⟩) h hB.drew hR (by omega) (by omega) hz rfl
 clear hNx hRs hW3 hN hB h31 h hl hb0 hlen s0 s1 s2 s3 s4 y0 y1 y2 y3 r0 r1 r2 r3 r4 f0 f1 f2 f3 f4 g0 g1 g2 g3 g4 h3 hcc hr0 hR;go_wp2_with fail
 go_region
 go_wp2_with fail;exact bodyPost_ret (v := .tuple #[.slice A nn cc, .agg (stC n' a' b'' c' d'), .int .i64 0]) (by simp [results, Tryz.results135, go_sem, *]) rfl (hPost _ (fr5 _ _ _ _ _ _ _).drew)
theorem Apply_rep0_no (B b size : Nat) (r : Option Nat) (all : List UInt8) (s : St) (y : Sy) (w : World) (h : Win w B b r size all) (hl : Laid w) (he : nextE s y = 0) (hk : y.k = 3) (hx : y.x = 0) (hno : ¬ (1 ≤ s.a ∧ s.a ≤ full size all ∧ 0 ≤ (y.l : Int) ∧ (y.l : Int) ≤ 273)) :
 Calls Tryz.prog 135 #[.pointer (some ⟨b, 0, none⟩), s.v, y.v] w (ApPost size B b r all [] St.zero 7 w) := by
 have hn := Next_p s y;rw [he] at hn;obtain ⟨t, ht⟩ : ∃ t, nextS s y = t := ⟨_, rfl⟩;rw [ht] at hn;clear ht he;obtain ⟨n', a', b'', c', d'⟩ := t;obtain ⟨n, a, b', c, d⟩ := s;obtain ⟨k, z, l, x⟩ := y;simp only [] at hk hx hno;subst hk;subst hx;have h3 := three_new 157 w n a b' c d 3 (z.toNat : Int) l 0;unfold St.v Sy.v at hn;unfold Sy.cs at hn;unfold St.v Sy.v Sy.cs;simp only [] at hn ⊢;obtain ⟨w0, hw0⟩ : ∃ w0, (((w.alloc (.cells (stC n a b' c d) 157)).alloc (.cells #[.int .i64 3, .int .u8 (z.toNat : Int), .int .i64 l, .int .i64 0] 232)).alloc (.cells (stC 0 0 0 0 0) 157)) = w0 := ⟨_, rfl⟩
 rw [hw0] at h3;have hcc := hn w0 (hl.below (h3.2.2.2));clear hn;have H := Lib.hid h;have Hno := Lib.hid hno;clear hno;go_enter Tryz.func135, Tryz.ntmps135;obtain ⟨⟨s0, s1, s2, s3, s4⟩, ⟨y0, y1, y2, y3⟩, ⟨r0, r1, r2, r3, r4⟩, ⟨f0, f1, f2, f3, f4⟩, ⟨g0, g1, g2, g3, g4⟩⟩ := h3.cells;go_wp2_with (go_at_call 128; first | (rw [hw0]; refine hcc.mono ?_) | refine hcc.mono ?_; rintro e w1 ⟨rfl, hb1⟩; clear s0 s1 s2 s3 s4 y0 y1 y2 y3 r0 r1 r2 r3 r4 f0 f1 f2 f3 f4 g0 g1 g2 g3 g4; have h31 := (h3.below hb1).below ((Below.refl _ _).alloc (Nat.le_refl _) (.cells (stC n' a' b'' c' d') 157)); have hB := h31.2.2.2; have hN := Blk.new w1 157 (stC n' a' b'' c' d'); obtain ⟨⟨s0, s1, s2, s3, s4⟩, ⟨y0, y1, y2, y3⟩, ⟨r0, r1, r2, r3, r4⟩, ⟨f0, f1, f2, f3, f4⟩, ⟨g0, g1, g2, g3, g4⟩⟩ := h31.cells; clear hw0)
 have hz0 : w.heap.size + 1 + 1 < w1.heap.size := Nat.lt_of_lt_of_le h3.2.2.1.lt hb1.size;have hb0 : b < w.heap.size := h.lt.1;have hr0 : ∀ g, r = some g → g < w.heap.size := fun g hg => (h.lt.2 g hg).2
 obtain ⟨W3, hW3⟩ : ∃ W3, (w1.alloc (.cells (stC n' a' b'' c' d') 157)) = W3 := ⟨_, rfl⟩;have hs3 : W3.drew.heap.size = w1.heap.size + 1 := by rw [← hW3]; simp
 have hs4 : W3.heap.size = w1.heap.size + 1 := hs3;rw [hW3] at hN hB h31 s0 s1 s2 s3 s4 y0 y1 y2 y3 r0 r1 r2 r3 r4 f0 f1 f2 f3 f4 g0 g1 g2 g3 g4 ⊢;clear hW3;have hW3 := H.out.below (hB.drew)
 go_region_held3 (fun w' => w'.cell? ⟨w.heap.size + 1, 3, none⟩ = some (.int .i64 0) ∧ w'.cell? ⟨w.heap.size + 1, 2, none⟩ = some (.int .i64 l) ∧ w'.cell? ⟨w.heap.size, 1, none⟩ = some (.int .i64 a))
  (first | (with_reducible exact ⟨y3, y2, s1⟩) | go_keep)
  (first | (go_at_call 164; refine (Copy_no B b size r all _ _ _ hW3 Hno.out).mono ?_; rintro e w2 ⟨rfl, rfl⟩))
 go_wp2_with fail;refine bodyPost_ret (v := .tuple #[.slice none 0 0, .agg (stC 0 0 0 0 0), .int .i64 7]) (by simp [results, Tryz.results135, go_sem, *]) rfl (ApPost.nil H.out (below5 hB (up2 _) _ _ _ _ _).drew)
theorem Apply_rep1 (B b size : Nat) (r : Option Nat) (all : List UInt8) (s : St) (y : Sy) (w : World) (h : Win w B b r size all) (hl : Laid w) (he : nextE s y = 0) (hk : y.k = 3) (hx : y.x = 1) (dd nn : Nat) (hd : s.b = (dd : Int)) (hnn : y.l = (nn : Int)) (h273 : nn ≤ 273) (hd1 : 1 ≤ dd) (hd2 : dd ≤ full size all) (hlen : all.length < 4611686018427380000) :
 Calls Tryz.prog 135 #[.pointer (some ⟨b, 0, none⟩), s.v, y.v] w (ApPost size B b r all ((ext dd nn all).drop all.length) (nextS s y) 0 w) := by
 have hn := Next_p s y;rw [he] at hn;obtain ⟨t, ht⟩ : ∃ t, nextS s y = t := ⟨_, rfl⟩;rw [ht] at hn ⊢;clear ht he;obtain ⟨n', a', b'', c', d'⟩ := t;obtain ⟨n, a, b', c, d⟩ := s;obtain ⟨k, z, l, x⟩ := y;simp only [] at hk hx hd hnn;subst hk;subst hx;subst hd;subst hnn;have h3 := three_new 157 w n a (dd : Int) c d 3 (z.toNat : Int) (nn : Int) 1;unfold St.v Sy.v at hn;unfold Sy.cs at hn;unfold St.v Sy.v Sy.cs
 simp only [] at hn ⊢;obtain ⟨w0, hw0⟩ : ∃ w0, (((w.alloc (.cells (stC n a (dd : Int) c d) 157)).alloc (.cells #[.int .i64 3, .int .u8 (z.toNat : Int), .int .i64 (nn : Int), .int .i64 1] 232)).alloc (.cells (stC 0 0 0 0 0) 157)) = w0 := ⟨_, rfl⟩;rw [hw0] at h3;have hcc := hn w0 (hl.below (h3.2.2.2));clear hn;have H := Lib.hid h;go_enter Tryz.func135, Tryz.ntmps135;obtain ⟨⟨s0, s1, s2, s3, s4⟩, ⟨y0, y1, y2, y3⟩, ⟨r0, r1, r2, r3, r4⟩, ⟨f0, f1, f2, f3, f4⟩, ⟨g0, g1, g2, g3, g4⟩⟩ := h3.cells
 go_wp2_with (go_at_call 128; first | (rw [hw0]; refine hcc.mono ?_) | refine hcc.mono ?_; rintro e w1 ⟨rfl, hb1⟩; clear s0 s1 s2 s3 s4 y0 y1 y2 y3 r0 r1 r2 r3 r4 f0 f1 f2 f3 f4 g0 g1 g2 g3 g4; have h31 := (h3.below hb1).below ((Below.refl _ _).alloc (Nat.le_refl _) (.cells (stC n' a' b'' c' d') 157)); have hB := h31.2.2.2; have hN := Blk.new w1 157 (stC n' a' b'' c' d'); obtain ⟨⟨s0, s1, s2, s3, s4⟩, ⟨y0, y1, y2, y3⟩, ⟨r0, r1, r2, r3, r4⟩, ⟨f0, f1, f2, f3, f4⟩, ⟨g0, g1, g2, g3, g4⟩⟩ := h31.cells; clear hw0)
 have hz0 : w.heap.size + 1 + 1 < w1.heap.size := Nat.lt_of_lt_of_le h3.2.2.1.lt hb1.size;have hb0 : b < w.heap.size := h.lt.1;have hr0 : ∀ g, r = some g → g < w.heap.size := fun g hg => (h.lt.2 g hg).2
 obtain ⟨W3, hW3⟩ : ∃ W3, (w1.alloc (.cells (stC n' a' b'' c' d') 157)) = W3 := ⟨_, rfl⟩;have hs3 : W3.drew.heap.size = w1.heap.size + 1 := by rw [← hW3]; simp
 have hs4 : W3.heap.size = w1.heap.size + 1 := hs3;rw [hW3] at hN hB h31 s0 s1 s2 s3 s4 y0 y1 y2 y3 r0 r1 r2 r3 r4 f0 f1 f2 f3 f4 g0 g1 g2 g3 g4 ⊢;clear hW3;have hW3 := H.out.below (hB.drew);have Hq : Hid (∀ A cc r2 w2, CopyRel B b size r all dd W3.drew nn A cc r2 w2 → w2.cell? ⟨w.heap.size + 1, 3, none⟩ = some (.int .i64 1) ∧ w2.cell? ⟨w.heap.size + 1, 2, none⟩ = some (.int .i64 (nn : Int)) ∧ w2.cell? ⟨w.heap.size, 2, none⟩ = some (.int .i64 (dd : Int))) := fun A cc r2 w2 hR => ⟨((h31.drew.2.1.same (hR.keeps h31.drew.2.1.lt (by omega) (fun k hk => by have := hr0 _ hk; omega))).cell 3), ((h31.drew.2.1.same (hR.keeps h31.drew.2.1.lt (by omega) (fun k hk => by have := hr0 _ hk; omega))).cell 2), ((h31.drew.1.same (hR.keeps h31.drew.1.lt (by omega) (fun k hk => by have := hr0 _ hk; omega))).cell 2)⟩
 go_region_held3 (fun w' => w'.cell? ⟨w.heap.size + 1, 3, none⟩ = some (.int .i64 1) ∧ w'.cell? ⟨w.heap.size + 1, 2, none⟩ = some (.int .i64 (nn : Int)) ∧ w'.cell? ⟨w.heap.size, 2, none⟩ = some (.int .i64 (dd : Int)))
  (first | (with_reducible exact ⟨y3, y2, s2⟩) | (with_reducible exact ⟨p3, p2, ps⟩) | go_keep)
  (first | (go_at_call 164; refine (Copy_yes B b size r all dd nn _ hW3 hd1 hd2 h273 hlen).mono ?_; rintro e w2 ⟨A, cc, r2', rfl, hR⟩; obtain ⟨p3, p2, ps⟩ := Hq.out _ _ _ _ hR))
 have hNx := hN.same (hR.keeps hN.lt (by omega) (fun k hk => by have := hr0 _ hk; omega))
 have hRs := h31.2.2.1.same (hR.keeps h31.2.2.1.lt (by omega) (fun k hk => by have := hr0 _ hk; omega))
 have c0 := hNx.cell 0; have c1 := hNx.cell 1; have c2 := hNx.cell 2; have c3 := hNx.cell 3; have c4 := hNx.cell 4;simp at c0 c1 c2 c3 c4;have q0 : w2.cell? ⟨w.heap.size + 1 + 1, 0, none⟩ = some (.int .i64 0) := hRs.cell 0;have u0 : w2.frozen? ⟨w.heap.size + 1 + 1, 0, none⟩ = false := hRs.frozen 0;have q1 : w2.cell? ⟨w.heap.size + 1 + 1, 1, none⟩ = some (.int .i64 0) := hRs.cell 1;have u1 : w2.frozen? ⟨w.heap.size + 1 + 1, 1, none⟩ = false := hRs.frozen 1
 have q2 : w2.cell? ⟨w.heap.size + 1 + 1, 2, none⟩ = some (.int .i64 0) := hRs.cell 2;have u2 : w2.frozen? ⟨w.heap.size + 1 + 1, 2, none⟩ = false := hRs.frozen 2;have q3 : w2.cell? ⟨w.heap.size + 1 + 1, 3, none⟩ = some (.int .i64 0) := hRs.cell 3;have u3 : w2.frozen? ⟨w.heap.size + 1 + 1, 3, none⟩ = false := hRs.frozen 3;have q4 : w2.cell? ⟨w.heap.size + 1 + 1, 4, none⟩ = some (.int .i64 0) := hRs.cell 4
 have u4 : w2.frozen? ⟨w.heap.size + 1 + 1, 4, none⟩ = false := hRs.frozen 4;have hPost : ∀ wz, Fr (fun k => k = w.heap.size + 1 + 1) w2 wz → ApPost size B b r all ((ext dd nn all).drop all.length) ⟨n', a', b'', c', d'⟩ 0 w (.returned (.tuple #[.slice A nn cc, .agg (stC n' a' b'' c' d'), .int .i64 0])) wz := fun wz hz =>
  ApPost.copy (t := ⟨n', a', b'', c', d'⟩) h hB.drew hR (by omega) (by omega) hz rfl
 clear hNx hRs hW3 hN hB h31 h hl hb0 hlen s0 s1 s2 s3 s4 y0 y1 y2 y3 r0 r1 r2 r3 r4 f0 f1 f2 f3 f4 g0 g1 g2 g3 g4 h3 hcc hr0 hR;go_wp2_with fail
 go_region
 go_wp2_with fail;exact bodyPost_ret (v := .tuple #[.slice A nn cc, .agg (stC n' a' b'' c' d'), .int .i64 0]) (by simp [results, Tryz.results135, go_sem, *]) rfl (hPost _ (fr5 _ _ _ _ _ _ _).drew)
theorem Apply_rep1_no (B b size : Nat) (r : Option Nat) (all : List UInt8) (s : St) (y : Sy) (w : World) (h : Win w B b r size all) (hl : Laid w) (he : nextE s y = 0) (hk : y.k = 3) (hx : y.x = 1) (hno : ¬ (1 ≤ s.b ∧ s.b ≤ full size all ∧ 0 ≤ (y.l : Int) ∧ (y.l : Int) ≤ 273)) :
 Calls Tryz.prog 135 #[.pointer (some ⟨b, 0, none⟩), s.v, y.v] w (ApPost size B b r all [] St.zero 7 w) := by
 have hn := Next_p s y;rw [he] at hn;obtain ⟨t, ht⟩ : ∃ t, nextS s y = t := ⟨_, rfl⟩;rw [ht] at hn;clear ht he;obtain ⟨n', a', b'', c', d'⟩ := t;obtain ⟨n, a, b', c, d⟩ := s;obtain ⟨k, z, l, x⟩ := y;simp only [] at hk hx hno;subst hk;subst hx;have h3 := three_new 157 w n a b' c d 3 (z.toNat : Int) l 1;unfold St.v Sy.v at hn;unfold Sy.cs at hn;unfold St.v Sy.v Sy.cs;simp only [] at hn ⊢;obtain ⟨w0, hw0⟩ : ∃ w0, (((w.alloc (.cells (stC n a b' c d) 157)).alloc (.cells #[.int .i64 3, .int .u8 (z.toNat : Int), .int .i64 l, .int .i64 1] 232)).alloc (.cells (stC 0 0 0 0 0) 157)) = w0 := ⟨_, rfl⟩
 rw [hw0] at h3;have hcc := hn w0 (hl.below (h3.2.2.2));clear hn;have H := Lib.hid h;have Hno := Lib.hid hno;clear hno;go_enter Tryz.func135, Tryz.ntmps135;obtain ⟨⟨s0, s1, s2, s3, s4⟩, ⟨y0, y1, y2, y3⟩, ⟨r0, r1, r2, r3, r4⟩, ⟨f0, f1, f2, f3, f4⟩, ⟨g0, g1, g2, g3, g4⟩⟩ := h3.cells;go_wp2_with (go_at_call 128; first | (rw [hw0]; refine hcc.mono ?_) | refine hcc.mono ?_; rintro e w1 ⟨rfl, hb1⟩; clear s0 s1 s2 s3 s4 y0 y1 y2 y3 r0 r1 r2 r3 r4 f0 f1 f2 f3 f4 g0 g1 g2 g3 g4; have h31 := (h3.below hb1).below ((Below.refl _ _).alloc (Nat.le_refl _) (.cells (stC n' a' b'' c' d') 157)); have hB := h31.2.2.2; have hN := Blk.new w1 157 (stC n' a' b'' c' d'); obtain ⟨⟨s0, s1, s2, s3, s4⟩, ⟨y0, y1, y2, y3⟩, ⟨r0, r1, r2, r3, r4⟩, ⟨f0, f1, f2, f3, f4⟩, ⟨g0, g1, g2, g3, g4⟩⟩ := h31.cells; clear hw0)
 have hz0 : w.heap.size + 1 + 1 < w1.heap.size := Nat.lt_of_lt_of_le h3.2.2.1.lt hb1.size;have hb0 : b < w.heap.size := h.lt.1;have hr0 : ∀ g, r = some g → g < w.heap.size := fun g hg => (h.lt.2 g hg).2
 obtain ⟨W3, hW3⟩ : ∃ W3, (w1.alloc (.cells (stC n' a' b'' c' d') 157)) = W3 := ⟨_, rfl⟩;have hs3 : W3.drew.heap.size = w1.heap.size + 1 := by rw [← hW3]; simp
 have hs4 : W3.heap.size = w1.heap.size + 1 := hs3;rw [hW3] at hN hB h31 s0 s1 s2 s3 s4 y0 y1 y2 y3 r0 r1 r2 r3 r4 f0 f1 f2 f3 f4 g0 g1 g2 g3 g4 ⊢;clear hW3;have hW3 := H.out.below (hB.drew)
 go_region_held3 (fun w' => w'.cell? ⟨w.heap.size + 1, 3, none⟩ = some (.int .i64 1) ∧ w'.cell? ⟨w.heap.size + 1, 2, none⟩ = some (.int .i64 l) ∧ w'.cell? ⟨w.heap.size, 2, none⟩ = some (.int .i64 b'))
  (first | (with_reducible exact ⟨y3, y2, s2⟩) | go_keep)
  (first | (go_at_call 164; refine (Copy_no B b size r all _ _ _ hW3 Hno.out).mono ?_; rintro e w2 ⟨rfl, rfl⟩))
 go_wp2_with fail;refine bodyPost_ret (v := .tuple #[.slice none 0 0, .agg (stC 0 0 0 0 0), .int .i64 7]) (by simp [results, Tryz.results135, go_sem, *]) rfl (ApPost.nil H.out (below5 hB (up2 _) _ _ _ _ _).drew)
theorem Apply_rep2 (B b size : Nat) (r : Option Nat) (all : List UInt8) (s : St) (y : Sy) (w : World) (h : Win w B b r size all) (hl : Laid w) (he : nextE s y = 0) (hk : y.k = 3) (hx : y.x = 2) (dd nn : Nat) (hd : s.c = (dd : Int)) (hnn : y.l = (nn : Int)) (h273 : nn ≤ 273) (hd1 : 1 ≤ dd) (hd2 : dd ≤ full size all) (hlen : all.length < 4611686018427380000) :
 Calls Tryz.prog 135 #[.pointer (some ⟨b, 0, none⟩), s.v, y.v] w (ApPost size B b r all ((ext dd nn all).drop all.length) (nextS s y) 0 w) := by
 have hn := Next_p s y;rw [he] at hn;obtain ⟨t, ht⟩ : ∃ t, nextS s y = t := ⟨_, rfl⟩;rw [ht] at hn ⊢;clear ht he;obtain ⟨n', a', b'', c', d'⟩ := t;obtain ⟨n, a, b', c, d⟩ := s;obtain ⟨k, z, l, x⟩ := y;simp only [] at hk hx hd hnn;subst hk;subst hx;subst hd;subst hnn;have h3 := three_new 157 w n a b' (dd : Int) d 3 (z.toNat : Int) (nn : Int) 2;unfold St.v Sy.v at hn;unfold Sy.cs at hn;unfold St.v Sy.v Sy.cs
 simp only [] at hn ⊢;obtain ⟨w0, hw0⟩ : ∃ w0, (((w.alloc (.cells (stC n a b' (dd : Int) d) 157)).alloc (.cells #[.int .i64 3, .int .u8 (z.toNat : Int), .int .i64 (nn : Int), .int .i64 2] 232)).alloc (.cells (stC 0 0 0 0 0) 157)) = w0 := ⟨_, rfl⟩;rw [hw0] at h3;have hcc := hn w0 (hl.below (h3.2.2.2));clear hn;have H := Lib.hid h;go_enter Tryz.func135, Tryz.ntmps135;obtain ⟨⟨s0, s1, s2, s3, s4⟩, ⟨y0, y1, y2, y3⟩, ⟨r0, r1, r2, r3, r4⟩, ⟨f0, f1, f2, f3, f4⟩, ⟨g0, g1, g2, g3, g4⟩⟩ := h3.cells
 go_wp2_with (go_at_call 128; first | (rw [hw0]; refine hcc.mono ?_) | refine hcc.mono ?_; rintro e w1 ⟨rfl, hb1⟩; clear s0 s1 s2 s3 s4 y0 y1 y2 y3 r0 r1 r2 r3 r4 f0 f1 f2 f3 f4 g0 g1 g2 g3 g4; have h31 := (h3.below hb1).below ((Below.refl _ _).alloc (Nat.le_refl _) (.cells (stC n' a' b'' c' d') 157)); have hB := h31.2.2.2; have hN := Blk.new w1 157 (stC n' a' b'' c' d'); obtain ⟨⟨s0, s1, s2, s3, s4⟩, ⟨y0, y1, y2, y3⟩, ⟨r0, r1, r2, r3, r4⟩, ⟨f0, f1, f2, f3, f4⟩, ⟨g0, g1, g2, g3, g4⟩⟩ := h31.cells; clear hw0)
 have hz0 : w.heap.size + 1 + 1 < w1.heap.size := Nat.lt_of_lt_of_le h3.2.2.1.lt hb1.size;have hb0 : b < w.heap.size := h.lt.1;have hr0 : ∀ g, r = some g → g < w.heap.size := fun g hg => (h.lt.2 g hg).2
 obtain ⟨W3, hW3⟩ : ∃ W3, (w1.alloc (.cells (stC n' a' b'' c' d') 157)) = W3 := ⟨_, rfl⟩;have hs3 : W3.drew.heap.size = w1.heap.size + 1 := by rw [← hW3]; simp
 have hs4 : W3.heap.size = w1.heap.size + 1 := hs3;rw [hW3] at hN hB h31 s0 s1 s2 s3 s4 y0 y1 y2 y3 r0 r1 r2 r3 r4 f0 f1 f2 f3 f4 g0 g1 g2 g3 g4 ⊢;clear hW3;have hW3 := H.out.below (hB.drew);have Hq : Hid (∀ A cc r2 w2, CopyRel B b size r all dd W3.drew nn A cc r2 w2 → w2.cell? ⟨w.heap.size + 1, 3, none⟩ = some (.int .i64 2) ∧ w2.cell? ⟨w.heap.size + 1, 2, none⟩ = some (.int .i64 (nn : Int)) ∧ w2.cell? ⟨w.heap.size, 3, none⟩ = some (.int .i64 (dd : Int))) := fun A cc r2 w2 hR => ⟨((h31.drew.2.1.same (hR.keeps h31.drew.2.1.lt (by omega) (fun k hk => by have := hr0 _ hk; omega))).cell 3), ((h31.drew.2.1.same (hR.keeps h31.drew.2.1.lt (by omega) (fun k hk => by have := hr0 _ hk; omega))).cell 2), ((h31.drew.1.same (hR.keeps h31.drew.1.lt (by omega) (fun k hk => by have := hr0 _ hk; omega))).cell 3)⟩
 go_region_held3 (fun w' => w'.cell? ⟨w.heap.size + 1, 3, none⟩ = some (.int .i64 2) ∧ w'.cell? ⟨w.heap.size + 1, 2, none⟩ = some (.int .i64 (nn : Int)) ∧ w'.cell? ⟨w.heap.size, 3, none⟩ = some (.int .i64 (dd : Int)))
  (first | (with_reducible exact ⟨y3, y2, s3⟩) | (with_reducible exact ⟨p3, p2, ps⟩) | go_keep)
  (first | (go_at_call 164; refine (Copy_yes B b size r all dd nn _ hW3 hd1 hd2 h273 hlen).mono ?_; rintro e w2 ⟨A, cc, r2', rfl, hR⟩; obtain ⟨p3, p2, ps⟩ := Hq.out _ _ _ _ hR))
 have hNx := hN.same (hR.keeps hN.lt (by omega) (fun k hk => by have := hr0 _ hk; omega))
 have hRs := h31.2.2.1.same (hR.keeps h31.2.2.1.lt (by omega) (fun k hk => by have := hr0 _ hk; omega))
 have c0 := hNx.cell 0; have c1 := hNx.cell 1; have c2 := hNx.cell 2; have c3 := hNx.cell 3; have c4 := hNx.cell 4;simp at c0 c1 c2 c3 c4;have q0 : w2.cell? ⟨w.heap.size + 1 + 1, 0, none⟩ = some (.int .i64 0) := hRs.cell 0;have u0 : w2.frozen? ⟨w.heap.size + 1 + 1, 0, none⟩ = false := hRs.frozen 0;have q1 : w2.cell? ⟨w.heap.size + 1 + 1, 1, none⟩ = some (.int .i64 0) := hRs.cell 1;have u1 : w2.frozen? ⟨w.heap.size + 1 + 1, 1, none⟩ = false := hRs.frozen 1
 have q2 : w2.cell? ⟨w.heap.size + 1 + 1, 2, none⟩ = some (.int .i64 0) := hRs.cell 2;have u2 : w2.frozen? ⟨w.heap.size + 1 + 1, 2, none⟩ = false := hRs.frozen 2;have q3 : w2.cell? ⟨w.heap.size + 1 + 1, 3, none⟩ = some (.int .i64 0) := hRs.cell 3;have u3 : w2.frozen? ⟨w.heap.size + 1 + 1, 3, none⟩ = false := hRs.frozen 3;have q4 : w2.cell? ⟨w.heap.size + 1 + 1, 4, none⟩ = some (.int .i64 0) := hRs.cell 4
 have u4 : w2.frozen? ⟨w.heap.size + 1 + 1, 4, none⟩ = false := hRs.frozen 4;have hPost : ∀ wz, Fr (fun k => k = w.heap.size + 1 + 1) w2 wz → ApPost size B b r all ((ext dd nn all).drop all.length) ⟨n', a', b'', c', d'⟩ 0 w (.returned (.tuple #[.slice A nn cc, .agg (stC n' a' b'' c' d'), .int .i64 0])) wz := fun wz hz =>
  ApPost.copy (t := ⟨n', a', b'', c', d'⟩) h hB.drew hR (by omega) (by omega) hz rfl
 clear hNx hRs hW3 hN hB h31 h hl hb0 hlen s0 s1 s2 s3 s4 y0 y1 y2 y3 r0 r1 r2 r3 r4 f0 f1 f2 f3 f4 g0 g1 g2 g3 g4 h3 hcc hr0 hR;go_wp2_with fail
 go_region
 go_wp2_with fail;exact bodyPost_ret (v := .tuple #[.slice A nn cc, .agg (stC n' a' b'' c' d'), .int .i64 0]) (by simp [results, Tryz.results135, go_sem, *]) rfl (hPost _ (fr5 _ _ _ _ _ _ _).drew)
theorem Apply_rep2_no (B b size : Nat) (r : Option Nat) (all : List UInt8) (s : St) (y : Sy) (w : World) (h : Win w B b r size all) (hl : Laid w) (he : nextE s y = 0) (hk : y.k = 3) (hx : y.x = 2) (hno : ¬ (1 ≤ s.c ∧ s.c ≤ full size all ∧ 0 ≤ (y.l : Int) ∧ (y.l : Int) ≤ 273)) :
 Calls Tryz.prog 135 #[.pointer (some ⟨b, 0, none⟩), s.v, y.v] w (ApPost size B b r all [] St.zero 7 w) := by
 have hn := Next_p s y;rw [he] at hn;obtain ⟨t, ht⟩ : ∃ t, nextS s y = t := ⟨_, rfl⟩;rw [ht] at hn;clear ht he;obtain ⟨n', a', b'', c', d'⟩ := t;obtain ⟨n, a, b', c, d⟩ := s;obtain ⟨k, z, l, x⟩ := y;simp only [] at hk hx hno;subst hk;subst hx;have h3 := three_new 157 w n a b' c d 3 (z.toNat : Int) l 2;unfold St.v Sy.v at hn;unfold Sy.cs at hn;unfold St.v Sy.v Sy.cs;simp only [] at hn ⊢;obtain ⟨w0, hw0⟩ : ∃ w0, (((w.alloc (.cells (stC n a b' c d) 157)).alloc (.cells #[.int .i64 3, .int .u8 (z.toNat : Int), .int .i64 l, .int .i64 2] 232)).alloc (.cells (stC 0 0 0 0 0) 157)) = w0 := ⟨_, rfl⟩
 rw [hw0] at h3;have hcc := hn w0 (hl.below (h3.2.2.2));clear hn;have H := Lib.hid h;have Hno := Lib.hid hno;clear hno;go_enter Tryz.func135, Tryz.ntmps135;obtain ⟨⟨s0, s1, s2, s3, s4⟩, ⟨y0, y1, y2, y3⟩, ⟨r0, r1, r2, r3, r4⟩, ⟨f0, f1, f2, f3, f4⟩, ⟨g0, g1, g2, g3, g4⟩⟩ := h3.cells;go_wp2_with (go_at_call 128; first | (rw [hw0]; refine hcc.mono ?_) | refine hcc.mono ?_; rintro e w1 ⟨rfl, hb1⟩; clear s0 s1 s2 s3 s4 y0 y1 y2 y3 r0 r1 r2 r3 r4 f0 f1 f2 f3 f4 g0 g1 g2 g3 g4; have h31 := (h3.below hb1).below ((Below.refl _ _).alloc (Nat.le_refl _) (.cells (stC n' a' b'' c' d') 157)); have hB := h31.2.2.2; have hN := Blk.new w1 157 (stC n' a' b'' c' d'); obtain ⟨⟨s0, s1, s2, s3, s4⟩, ⟨y0, y1, y2, y3⟩, ⟨r0, r1, r2, r3, r4⟩, ⟨f0, f1, f2, f3, f4⟩, ⟨g0, g1, g2, g3, g4⟩⟩ := h31.cells; clear hw0)
 have hz0 : w.heap.size + 1 + 1 < w1.heap.size := Nat.lt_of_lt_of_le h3.2.2.1.lt hb1.size;have hb0 : b < w.heap.size := h.lt.1;have hr0 : ∀ g, r = some g → g < w.heap.size := fun g hg => (h.lt.2 g hg).2
 obtain ⟨W3, hW3⟩ : ∃ W3, (w1.alloc (.cells (stC n' a' b'' c' d') 157)) = W3 := ⟨_, rfl⟩;have hs3 : W3.drew.heap.size = w1.heap.size + 1 := by rw [← hW3]; simp
 have hs4 : W3.heap.size = w1.heap.size + 1 := hs3;rw [hW3] at hN hB h31 s0 s1 s2 s3 s4 y0 y1 y2 y3 r0 r1 r2 r3 r4 f0 f1 f2 f3 f4 g0 g1 g2 g3 g4 ⊢;clear hW3;have hW3 := H.out.below (hB.drew)
 go_region_held3 (fun w' => w'.cell? ⟨w.heap.size + 1, 3, none⟩ = some (.int .i64 2) ∧ w'.cell? ⟨w.heap.size + 1, 2, none⟩ = some (.int .i64 l) ∧ w'.cell? ⟨w.heap.size, 3, none⟩ = some (.int .i64 c))
  (first | (with_reducible exact ⟨y3, y2, s3⟩) | go_keep)
  (first | (go_at_call 164; refine (Copy_no B b size r all _ _ _ hW3 Hno.out).mono ?_; rintro e w2 ⟨rfl, rfl⟩))
 go_wp2_with fail;refine bodyPost_ret (v := .tuple #[.slice none 0 0, .agg (stC 0 0 0 0 0), .int .i64 7]) (by simp [results, Tryz.results135, go_sem, *]) rfl (ApPost.nil H.out (below5 hB (up2 _) _ _ _ _ _).drew)
theorem Apply_rep3 (B b size : Nat) (r : Option Nat) (all : List UInt8) (s : St) (y : Sy) (w : World) (h : Win w B b r size all) (hl : Laid w) (he : nextE s y = 0) (hk : y.k = 3) (hx : y.x = 3) (dd nn : Nat) (hd : s.d = (dd : Int)) (hnn : y.l = (nn : Int)) (h273 : nn ≤ 273) (hd1 : 1 ≤ dd) (hd2 : dd ≤ full size all) (hlen : all.length < 4611686018427380000) :
 Calls Tryz.prog 135 #[.pointer (some ⟨b, 0, none⟩), s.v, y.v] w (ApPost size B b r all ((ext dd nn all).drop all.length) (nextS s y) 0 w) := by
 have hn := Next_p s y;rw [he] at hn;obtain ⟨t, ht⟩ : ∃ t, nextS s y = t := ⟨_, rfl⟩;rw [ht] at hn ⊢;clear ht he;obtain ⟨n', a', b'', c', d'⟩ := t;obtain ⟨n, a, b', c, d⟩ := s;obtain ⟨k, z, l, x⟩ := y;simp only [] at hk hx hd hnn;subst hk;subst hx;subst hd;subst hnn;have h3 := three_new 157 w n a b' c (dd : Int) 3 (z.toNat : Int) (nn : Int) 3;unfold St.v Sy.v at hn;unfold Sy.cs at hn;unfold St.v Sy.v Sy.cs
 simp only [] at hn ⊢;obtain ⟨w0, hw0⟩ : ∃ w0, (((w.alloc (.cells (stC n a b' c (dd : Int)) 157)).alloc (.cells #[.int .i64 3, .int .u8 (z.toNat : Int), .int .i64 (nn : Int), .int .i64 3] 232)).alloc (.cells (stC 0 0 0 0 0) 157)) = w0 := ⟨_, rfl⟩;rw [hw0] at h3;have hcc := hn w0 (hl.below (h3.2.2.2));clear hn;have H := Lib.hid h;go_enter Tryz.func135, Tryz.ntmps135;obtain ⟨⟨s0, s1, s2, s3, s4⟩, ⟨y0, y1, y2, y3⟩, ⟨r0, r1, r2, r3, r4⟩, ⟨f0, f1, f2, f3, f4⟩, ⟨g0, g1, g2, g3, g4⟩⟩ := h3.cells
 go_wp2_with (go_at_call 128; first | (rw [hw0]; refine hcc.mono ?_) | refine hcc.mono ?_; rintro e w1 ⟨rfl, hb1⟩; clear s0 s1 s2 s3 s4 y0 y1 y2 y3 r0 r1 r2 r3 r4 f0 f1 f2 f3 f4 g0 g1 g2 g3 g4; have h31 := (h3.below hb1).below ((Below.refl _ _).alloc (Nat.le_refl _) (.cells (stC n' a' b'' c' d') 157)); have hB := h31.2.2.2; have hN := Blk.new w1 157 (stC n' a' b'' c' d'); obtain ⟨⟨s0, s1, s2, s3, s4⟩, ⟨y0, y1, y2, y3⟩, ⟨r0, r1, r2, r3, r4⟩, ⟨f0, f1, f2, f3, f4⟩, ⟨g0, g1, g2, g3, g4⟩⟩ := h31.cells; clear hw0)
 have hz0 : w.heap.size + 1 + 1 < w1.heap.size := Nat.lt_of_lt_of_le h3.2.2.1.lt hb1.size;have hb0 : b < w.heap.size := h.lt.1;have hr0 : ∀ g, r = some g → g < w.heap.size := fun g hg => (h.lt.2 g hg).2
 obtain ⟨W3, hW3⟩ : ∃ W3, (w1.alloc (.cells (stC n' a' b'' c' d') 157)) = W3 := ⟨_, rfl⟩;have hs3 : W3.drew.heap.size = w1.heap.size + 1 := by rw [← hW3]; simp
 have hs4 : W3.heap.size = w1.heap.size + 1 := hs3;rw [hW3] at hN hB h31 s0 s1 s2 s3 s4 y0 y1 y2 y3 r0 r1 r2 r3 r4 f0 f1 f2 f3 f4 g0 g1 g2 g3 g4 ⊢;clear hW3;have hW3 := H.out.below (hB.drew);have Hq : Hid (∀ A cc r2 w2, CopyRel B b size r all dd W3.drew nn A cc r2 w2 → w2.cell? ⟨w.heap.size + 1, 3, none⟩ = some (.int .i64 3) ∧ w2.cell? ⟨w.heap.size + 1, 2, none⟩ = some (.int .i64 (nn : Int)) ∧ w2.cell? ⟨w.heap.size, 4, none⟩ = some (.int .i64 (dd : Int))) := fun A cc r2 w2 hR => ⟨((h31.drew.2.1.same (hR.keeps h31.drew.2.1.lt (by omega) (fun k hk => by have := hr0 _ hk; omega))).cell 3), ((h31.drew.2.1.same (hR.keeps h31.drew.2.1.lt (by omega) (fun k hk => by have := hr0 _ hk; omega))).cell 2), ((h31.drew.1.same (hR.keeps h31.drew.1.lt (by omega) (fun k hk => by have := hr0 _ hk; omega))).cell 4)⟩
 go_region_held3 (fun w' => w'.cell? ⟨w.heap.size + 1, 3, none⟩ = some (.int .i64 3) ∧ w'.cell? ⟨w.heap.size + 1, 2, none⟩ = some (.int .i64 (nn : Int)) ∧ w'.cell? ⟨w.heap.size, 4, none⟩ = some (.int .i64 (dd : Int)))
  (first | (with_reducible exact ⟨y3, y2, s4⟩) | (with_reducible exact ⟨p3, p2, ps⟩) | go_keep)
  (first | (go_at_call 164; refine (Copy_yes B b size r all dd nn _ hW3 hd1 hd2 h273 hlen).mono ?_; rintro e w2 ⟨A, cc, r2', rfl, hR⟩; obtain ⟨p3, p2, ps⟩ := Hq.out _ _ _ _ hR))
 have hNx := hN.same (hR.keeps hN.lt (by omega) (fun k hk => by have := hr0 _ hk; omega))
 have hRs := h31.2.2.1.same (hR.keeps h31.2.2.1.lt (by omega) (fun k hk => by have := hr0 _ hk; omega))
 have c0 := hNx.cell 0; have c1 := hNx.cell 1; have c2 := hNx.cell 2; have c3 := hNx.cell 3; have c4 := hNx.cell 4;simp at c0 c1 c2 c3 c4;have q0 : w2.cell? ⟨w.heap.size + 1 + 1, 0, none⟩ = some (.int .i64 0) := hRs.cell 0;have u0 : w2.frozen? ⟨w.heap.size + 1 + 1, 0, none⟩ = false := hRs.frozen 0;have q1 : w2.cell? ⟨w.heap.size + 1 + 1, 1, none⟩ = some (.int .i64 0) := hRs.cell 1;have u1 : w2.frozen? ⟨w.heap.size + 1 + 1, 1, none⟩ = false := hRs.frozen 1
 have q2 : w2.cell? ⟨w.heap.size + 1 + 1, 2, none⟩ = some (.int .i64 0) := hRs.cell 2;have u2 : w2.frozen? ⟨w.heap.size + 1 + 1, 2, none⟩ = false := hRs.frozen 2;have q3 : w2.cell? ⟨w.heap.size + 1 + 1, 3, none⟩ = some (.int .i64 0) := hRs.cell 3;have u3 : w2.frozen? ⟨w.heap.size + 1 + 1, 3, none⟩ = false := hRs.frozen 3;have q4 : w2.cell? ⟨w.heap.size + 1 + 1, 4, none⟩ = some (.int .i64 0) := hRs.cell 4
 have u4 : w2.frozen? ⟨w.heap.size + 1 + 1, 4, none⟩ = false := hRs.frozen 4;have hPost : ∀ wz, Fr (fun k => k = w.heap.size + 1 + 1) w2 wz → ApPost size B b r all ((ext dd nn all).drop all.length) ⟨n', a', b'', c', d'⟩ 0 w (.returned (.tuple #[.slice A nn cc, .agg (stC n' a' b'' c' d'), .int .i64 0])) wz := fun wz hz =>
  ApPost.copy (t := ⟨n', a', b'', c', d'⟩) h hB.drew hR (by omega) (by omega) hz rfl
 clear hNx hRs hW3 hN hB h31 h hl hb0 hlen s0 s1 s2 s3 s4 y0 y1 y2 y3 r0 r1 r2 r3 r4 f0 f1 f2 f3 f4 g0 g1 g2 g3 g4 h3 hcc hr0 hR;go_wp2_with fail
 go_region
 go_wp2_with fail;exact bodyPost_ret (v := .tuple #[.slice A nn cc, .agg (stC n' a' b'' c' d'), .int .i64 0]) (by simp [results, Tryz.results135, go_sem, *]) rfl (hPost _ (fr5 _ _ _ _ _ _ _).drew)
theorem Apply_rep3_no (B b size : Nat) (r : Option Nat) (all : List UInt8) (s : St) (y : Sy) (w : World) (h : Win w B b r size all) (hl : Laid w) (he : nextE s y = 0) (hk : y.k = 3) (hx : y.x = 3) (hno : ¬ (1 ≤ s.d ∧ s.d ≤ full size all ∧ 0 ≤ (y.l : Int) ∧ (y.l : Int) ≤ 273)) :
 Calls Tryz.prog 135 #[.pointer (some ⟨b, 0, none⟩), s.v, y.v] w (ApPost size B b r all [] St.zero 7 w) := by
 have hn := Next_p s y;rw [he] at hn;obtain ⟨t, ht⟩ : ∃ t, nextS s y = t := ⟨_, rfl⟩;rw [ht] at hn;clear ht he;obtain ⟨n', a', b'', c', d'⟩ := t;obtain ⟨n, a, b', c, d⟩ := s;obtain ⟨k, z, l, x⟩ := y;simp only [] at hk hx hno;subst hk;subst hx;have h3 := three_new 157 w n a b' c d 3 (z.toNat : Int) l 3;unfold St.v Sy.v at hn;unfold Sy.cs at hn;unfold St.v Sy.v Sy.cs;simp only [] at hn ⊢;obtain ⟨w0, hw0⟩ : ∃ w0, (((w.alloc (.cells (stC n a b' c d) 157)).alloc (.cells #[.int .i64 3, .int .u8 (z.toNat : Int), .int .i64 l, .int .i64 3] 232)).alloc (.cells (stC 0 0 0 0 0) 157)) = w0 := ⟨_, rfl⟩
 rw [hw0] at h3;have hcc := hn w0 (hl.below (h3.2.2.2));clear hn;have H := Lib.hid h;have Hno := Lib.hid hno;clear hno;go_enter Tryz.func135, Tryz.ntmps135;obtain ⟨⟨s0, s1, s2, s3, s4⟩, ⟨y0, y1, y2, y3⟩, ⟨r0, r1, r2, r3, r4⟩, ⟨f0, f1, f2, f3, f4⟩, ⟨g0, g1, g2, g3, g4⟩⟩ := h3.cells;go_wp2_with (go_at_call 128; first | (rw [hw0]; refine hcc.mono ?_) | refine hcc.mono ?_; rintro e w1 ⟨rfl, hb1⟩; clear s0 s1 s2 s3 s4 y0 y1 y2 y3 r0 r1 r2 r3 r4 f0 f1 f2 f3 f4 g0 g1 g2 g3 g4; have h31 := (h3.below hb1).below ((Below.refl _ _).alloc (Nat.le_refl _) (.cells (stC n' a' b'' c' d') 157)); have hB := h31.2.2.2; have hN := Blk.new w1 157 (stC n' a' b'' c' d'); obtain ⟨⟨s0, s1, s2, s3, s4⟩, ⟨y0, y1, y2, y3⟩, ⟨r0, r1, r2, r3, r4⟩, ⟨f0, f1, f2, f3, f4⟩, ⟨g0, g1, g2, g3, g4⟩⟩ := h31.cells; clear hw0)
 have hz0 : w.heap.size + 1 + 1 < w1.heap.size := Nat.lt_of_lt_of_le h3.2.2.1.lt hb1.size;have hb0 : b < w.heap.size := h.lt.1;have hr0 : ∀ g, r = some g → g < w.heap.size := fun g hg => (h.lt.2 g hg).2
 obtain ⟨W3, hW3⟩ : ∃ W3, (w1.alloc (.cells (stC n' a' b'' c' d') 157)) = W3 := ⟨_, rfl⟩;have hs3 : W3.drew.heap.size = w1.heap.size + 1 := by rw [← hW3]; simp
 have hs4 : W3.heap.size = w1.heap.size + 1 := hs3;rw [hW3] at hN hB h31 s0 s1 s2 s3 s4 y0 y1 y2 y3 r0 r1 r2 r3 r4 f0 f1 f2 f3 f4 g0 g1 g2 g3 g4 ⊢;clear hW3;have hW3 := H.out.below (hB.drew)
 go_region_held3 (fun w' => w'.cell? ⟨w.heap.size + 1, 3, none⟩ = some (.int .i64 3) ∧ w'.cell? ⟨w.heap.size + 1, 2, none⟩ = some (.int .i64 l) ∧ w'.cell? ⟨w.heap.size, 4, none⟩ = some (.int .i64 d))
  (first | (with_reducible exact ⟨y3, y2, s4⟩) | go_keep)
  (first | (go_at_call 164; refine (Copy_no B b size r all _ _ _ hW3 Hno.out).mono ?_; rintro e w2 ⟨rfl, rfl⟩))
 go_wp2_with fail;refine bodyPost_ret (v := .tuple #[.slice none 0 0, .agg (stC 0 0 0 0 0), .int .i64 7]) (by simp [results, Tryz.results135, go_sem, *]) rfl (ApPost.nil H.out (below5 hB (up2 _) _ _ _ _ _).drew)
end Go.Proofs.YtcjehjdehdoaeaaGreatDoor.win
namespace Go.Proofs.YtcjehjdehdoaeaaGreatDoor.win
open Go.RowKit
theorem rep_at0 {s : St} {i : Int} (h : i = 0) : s.rep i = s.a := by unfold St.rep; rw [if_pos h]
theorem rep_at1 {s : St} {i : Int} (h : i = 1) : s.rep i = s.b := by unfold St.rep; rw [if_neg (by omega), if_pos h]
theorem rep_at2 {s : St} {i : Int} (h : i = 2) : s.rep i = s.c := by unfold St.rep; rw [if_neg (by omega), if_neg (by omega), if_pos h]
theorem rep_at3 {s : St} {i : Int} (h : i = 3) : s.rep i = s.d := by unfold St.rep; rw [if_neg (by omega), if_neg (by omega), if_neg (by omega)]
theorem apB_len (size : Nat) (all : List UInt8) (s : St) (y : Sy) : (apB size all s y).length ≤ 273 := by
 unfold apB;split
 · rename_i h;have hn : nextE s y = 0 := by
    unfold apE at h;split at h
    · assumption
    · exact h
   split
   · simp
   · rw [List.length_drop, ext_length];have := formedN_zero (nextE_zero hn).2;unfold lenOf;split
     · rename_i hk;have hl : isL y.l := by
        rcases this with h1 | h1 | h1 | h1
        · omega
        · omega
        · exact h1.2.1
        · exact h1.2.1
       unfold isL at hl;omega
     · simp
 · simp
theorem Apply_any (B b size : Nat) (r : Option Nat) (all : List UInt8) (s : St) (y : Sy) (w : World) (h : Win w B b r size all) (hl : Laid w) (hlen : all.length < 4611686018427380000) :
 Calls Tryz.prog 135 #[.pointer (some ⟨b, 0, none⟩), s.v, y.v] w (ApPost size B b r all (apB size all s y) (apS size all s y) (apE size all s y) w) := by
 by_cases he : nextE s y = 0
 · obtain ⟨hR, hF⟩ := nextE_zero he;have hE : apE size all s y = (if y.k = 1 then 0 else if 1 ≤ distOf s y ∧ distOf s y ≤ full size all then 0 else 7) := if_pos he
   rcases formedN_zero hF with k1 | k4 | ⟨k2, hL, hX⟩ | ⟨k3, hL, hX⟩
   · have e0 : apE size all s y = 0 := by rw [hE, if_pos k1]
     have e1 : apB size all s y = [y.y] := by unfold apB; rw [if_pos e0, if_pos k1]
     have e2 : apS size all s y = nextS s y := by unfold apS; rw [if_pos e0]
     rw [e0, e1, e2];exact Apply_lit B b size r all s y w h hl he k1 (by omega)
   · have hd : distOf s y = s.a := by unfold distOf; rw [if_neg (by omega), if_neg (by omega)]
     have hn : lenOf y = 1 := by unfold lenOf; rw [if_neg (by omega)]
     by_cases hin : 1 ≤ s.a ∧ s.a ≤ full size all
     · have e0 : apE size all s y = 0 := by rw [hE, if_neg (by omega), hd, if_pos hin]
       have e1 : apB size all s y = (ext (s.a).toNat 1 all).drop all.length := by unfold apB; rw [if_pos e0, if_neg (by omega), hd, hn]; rfl
       have e2 : apS size all s y = nextS s y := by unfold apS; rw [if_pos e0]
       rw [e0, e1, e2];exact Apply_short B b size r all s y w h hl he k4 (s.a).toNat (by omega) (by omega) (by omega) hlen
     · have e0 : apE size all s y = 7 := by rw [hE, if_neg (by omega), hd, if_neg hin]
       have e1 : apB size all s y = [] := by unfold apB; rw [if_neg (by omega)]
       have e2 : apS size all s y = St.zero := by unfold apS; rw [if_neg (by omega)]
       rw [e0, e1, e2];exact Apply_short_no B b size r all s y w h hl he k4 (fun h => hin ⟨h.1, h.2.1⟩)
   · have hd : distOf s y = y.x := by unfold distOf; rw [if_pos k2]
     have hn : lenOf y = y.l := by unfold lenOf; rw [if_pos (.inl k2)]
     unfold isL at hL;by_cases hin : 1 ≤ y.x ∧ y.x ≤ full size all
     · have e0 : apE size all s y = 0 := by rw [hE, if_neg (by omega), hd, if_pos hin]
       have e1 : apB size all s y = (ext (y.x).toNat (y.l).toNat all).drop all.length := by unfold apB; rw [if_pos e0, if_neg (by omega), hd, hn]
       have e2 : apS size all s y = nextS s y := by unfold apS; rw [if_pos e0]
       rw [e0, e1, e2];exact Apply_match B b size r all s y w h hl he k2 (y.x).toNat (y.l).toNat (by omega) (by omega) (by omega) (by omega) (by omega) hlen
     · have e0 : apE size all s y = 7 := by rw [hE, if_neg (by omega), hd, if_neg hin]
       have e1 : apB size all s y = [] := by unfold apB; rw [if_neg (by omega)]
       have e2 : apS size all s y = St.zero := by unfold apS; rw [if_neg (by omega)]
       rw [e0, e1, e2];exact Apply_match_no B b size r all s y w h hl he k2 (fun h => hin ⟨h.1, h.2.1⟩)
   · have hd : distOf s y = s.rep y.x := by unfold distOf; rw [if_neg (by omega), if_pos k3]
     have hn : lenOf y = y.l := by unfold lenOf; rw [if_pos (.inr k3)]
     unfold isL at hL;have hx4 : y.x = 0 ∨ y.x = 1 ∨ y.x = 2 ∨ y.x = 3 := by unfold repOk at hX; omega
     by_cases hin : 1 ≤ s.rep y.x ∧ s.rep y.x ≤ full size all
     · have e0 : apE size all s y = 0 := by rw [hE, if_neg (by omega), hd, if_pos hin]
       have e1 : apB size all s y = (ext (s.rep y.x).toNat (y.l).toNat all).drop all.length := by unfold apB; rw [if_pos e0, if_neg (by omega), hd, hn]
       have e2 : apS size all s y = nextS s y := by unfold apS; rw [if_pos e0]
       rw [e0, e1, e2];rcases hx4 with hx | hx | hx | hx
       · rw [rep_at0 hx] at hin ⊢;exact Apply_rep0 B b size r all s y w h hl he k3 hx (s.a).toNat (y.l).toNat (by omega) (by omega) (by omega) (by omega) (by omega) hlen
       · rw [rep_at1 hx] at hin ⊢;exact Apply_rep1 B b size r all s y w h hl he k3 hx (s.b).toNat (y.l).toNat (by omega) (by omega) (by omega) (by omega) (by omega) hlen
       · rw [rep_at2 hx] at hin ⊢;exact Apply_rep2 B b size r all s y w h hl he k3 hx (s.c).toNat (y.l).toNat (by omega) (by omega) (by omega) (by omega) (by omega) hlen
       · rw [rep_at3 hx] at hin ⊢;exact Apply_rep3 B b size r all s y w h hl he k3 hx (s.d).toNat (y.l).toNat (by omega) (by omega) (by omega) (by omega) (by omega) hlen
     · have e0 : apE size all s y = 7 := by rw [hE, if_neg (by omega), hd, if_neg hin]
       have e1 : apB size all s y = [] := by unfold apB; rw [if_neg (by omega)]
       have e2 : apS size all s y = St.zero := by unfold apS; rw [if_neg (by omega)]
       rw [e0, e1, e2];rcases hx4 with hx | hx | hx | hx
       · rw [rep_at0 hx] at hin;exact Apply_rep0_no B b size r all s y w h hl he k3 hx (fun h => hin ⟨h.1, h.2.1⟩)
       · rw [rep_at1 hx] at hin;exact Apply_rep1_no B b size r all s y w h hl he k3 hx (fun h => hin ⟨h.1, h.2.1⟩)
       · rw [rep_at2 hx] at hin;exact Apply_rep2_no B b size r all s y w h hl he k3 hx (fun h => hin ⟨h.1, h.2.1⟩)
       · rw [rep_at3 hx] at hin;exact Apply_rep3_no B b size r all s y w h hl he k3 hx (fun h => hin ⟨h.1, h.2.1⟩)
 · have e0 : apE size all s y = nextE s y := if_neg he;have e1 : apB size all s y = [] := by unfold apB; rw [if_neg (by rw [e0]; exact he)]
   have e2 : apS size all s y = St.zero := by unfold apS; rw [if_neg (by rw [e0]; exact he)]
   rw [e0, e1, e2];exact Apply_bad B b size r all s y w h hl he
def ApP (size B b : Nat) (r : Option Nat) (all bs : List UInt8) (t : St) (f : Int) (w : World) (en : Ending) (w' : World) : Prop :=
 ∃ A c r', en = .returned (.tuple #[.slice A bs.length c, .agg (stC t.n t.a t.b t.c t.d), .int .i64 f]) ∧ Win w' B b r' size (all ++ bs) ∧ w'.ownsRow w.heap.size 5 1 (.slice A bs.length c) bs.length (bys bs) ∧
  Fr (fun k => k = b ∨ some k = r) w w' ∧ (∀ g, r' = some g → r = some g ∨ w.heap.size ≤ g) ∧ (∀ g, (Value.slice A bs.length c).ownBlock = some g → r' ≠ some g)
theorem Apply_sp (B b size : Nat) (r : Option Nat) (all : List UInt8) (n a b' c d k l x : Int) (z : UInt8) (w : World) (h : Win w B b r size all) (hl : Laid w) (hlen : all.length < 4611686018427380000) :
 Calls Tryz.prog 135 #[.pointer (some ⟨b, 0, none⟩), .agg #[.int .i64 n, .int .i64 a, .int .i64 b', .int .i64 c, .int .i64 d], .agg #[.int .i64 k, .int .u8 (z.toNat : Int), .int .i64 l, .int .i64 x]] w (ApP size B b r all (apB size all ⟨n, a, b', c, d⟩ ⟨k, z, l, x⟩) (apS size all ⟨n, a, b', c, d⟩ ⟨k, z, l, x⟩) (apE size all ⟨n, a, b', c, d⟩ ⟨k, z, l, x⟩) w) :=
 Apply_any B b size r all ⟨n, a, b', c, d⟩ ⟨k, z, l, x⟩ w h hl hlen
end Go.Proofs.YtcjehjdehdoaeaaGreatDoor.win
end
