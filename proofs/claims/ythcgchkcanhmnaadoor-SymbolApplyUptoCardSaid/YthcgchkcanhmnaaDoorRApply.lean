
/-
  Walks of the document's Dist, Size and Apply: the same plain functions as the program's. Conditions: the window as WinR says; numbers that can be counted.
-/
import Derived.Test.YthcgchkcanhmnaaDoorRCopy
import Derived.Test.YthcgchkcanhmnaaDoorSymF
namespace Go.Proofs.YthcgchkcanhmnaaDoor
open Go.RowKit

theorem RDist_any (n a b c d k l x : Int) (z : UInt8) (w : World) (hx : k = 3 → repOk x) :
    Calls Tryd.prog 40 #[.agg #[.int .i64 n, .int .i64 a, .int .i64 b, .int .i64 c, .int .i64 d], .agg #[.int .i64 k, .int .u8 (z.toNat : Int), .int .i64 l, .int .i64 x]] w fun e w' => e = .returned (.int .i64 (distOf ⟨n, a, b, c, d⟩ ⟨k, z, l, x⟩)) ∧ Below w.heap.size w w' := by
  by_cases k2 : k = 2
  · have Hd : Hid (distOf ⟨n, a, b, c, d⟩ ⟨k, z, l, x⟩ = x) := if_pos k2
    subst k2
    go_enter Tryd.func40, Tryd.ntmps40
    go_wp2_with fail
    go_ret
    exact ⟨by rw [Hd.out]; rfl, ((Below.refl _ _).alloc (Nat.le_refl _) _).alloc (by simp) _⟩
  · by_cases k3 : k = 3
    · have hx4 : x = 0 ∨ x = 1 ∨ x = 2 ∨ x = 3 := by have := hx k3; unfold repOk at this; omega
      have Hd : Hid (distOf ⟨n, a, b, c, d⟩ ⟨k, z, l, x⟩ = (⟨n, a, b, c, d⟩ : St).rep x) := by show _ = _; unfold distOf; rw [if_neg k2, if_pos k3]
      subst k3
      clear hx k2
      rcases hx4 with rfl | rfl | rfl | rfl
      all_goals
        go_enter Tryd.func40, Tryd.ntmps40
        go_wp2_with fail
        go_ret
        exact ⟨by rw [Hd.out]; rfl, ((Below.refl _ _).alloc (Nat.le_refl _) _).alloc (by simp) _⟩
    · have Hd : Hid (distOf ⟨n, a, b, c, d⟩ ⟨k, z, l, x⟩ = a) := by show _ = _; unfold distOf; rw [if_neg k2, if_neg k3]
      have k2' : (k == 2) = false := beq_eq_false_iff_ne.2 k2
      have k3' : (k == 3) = false := beq_eq_false_iff_ne.2 k3
      clear hx k2 k3
      go_enter Tryd.func40, Tryd.ntmps40
      go_wp2_with fail
      go_ret
      exact ⟨by rw [Hd.out]; rfl, ((Below.refl _ _).alloc (Nat.le_refl _) _).alloc (by simp) _⟩
theorem RSize_any (k l x : Int) (z : UInt8) (w : World) :
    Calls Tryd.prog 34 #[.agg #[.int .i64 k, .int .u8 (z.toNat : Int), .int .i64 l, .int .i64 x]] w fun e w' => e = .returned (.int .i64 (szF ⟨k, z, l, x⟩)) ∧ Below w.heap.size w w' := by
  have hn := Formed_any k (z.toNat : Int) l x
  unfold yV at hn
  have hs : szF ⟨k, z, l, x⟩ = if formedN k l x = 0 then (if k = 2 ∨ k = 3 then l else 1) else 0 := by unfold szF nextE; rw [if_pos start_right]
  obtain ⟨f, hf⟩ : ∃ f, formedN k l x = f := ⟨_, rfl⟩
  obtain ⟨r, hr⟩ : ∃ r, szF ⟨k, z, l, x⟩ = r := ⟨_, rfl⟩
  rw [hf] at hn hs
  rw [hr] at hs ⊢
  have Hs := Lib.hid hs
  have Hn := Lib.hid hn
  clear hf hr hs hn
  go_enter Tryd.func34, Tryd.ntmps34
  go_wp2_with fail
  refine (Hn.out _).mono ?_
  rintro e wa ⟨rfl, hb⟩
  have HBa : Hid (Below w.heap.size w wa) := ((Below.refl _ w).alloc (Nat.le_refl _) _).trans (hb.mono (by simp))
  obtain ⟨y0, y1, y2, y3⟩ := ((Blk.new w 38 #[.int .i64 k, .int .u8 (z.toNat : Int), .int .i64 l, .int .i64 x]).below hb).four
  clear hb Hn
  by_cases hf0 : f = 0
  · subst hf0
    have Hr0 : Hid (r = if k = 2 ∨ k = 3 then l else 1) := by have := Hs.out; rw [if_pos rfl] at this; exact this
    clear Hs
    by_cases k2 : k = 2
    · have Hr1 : Hid (r = l) := by have := Hr0.out; rw [if_pos (.inl k2)] at this; exact this
      subst k2
      go_wp2_with fail
      go_ret
      exact ⟨by rw [Hr1.out]; rfl, HBa.out⟩
    · by_cases k3 : k = 3
      · have Hr1 : Hid (r = l) := by have := Hr0.out; rw [if_pos (.inr k3)] at this; exact this
        subst k3
        go_wp2_with fail
        go_ret
        exact ⟨by rw [Hr1.out]; rfl, HBa.out⟩
      · have Hr1 : Hid (r = 1) := by have := Hr0.out; rw [if_neg (by omega)] at this; exact this
        have k2' : (k == 2) = false := beq_eq_false_iff_ne.2 k2
        have k3' : (k == 3) = false := beq_eq_false_iff_ne.2 k3
        go_wp2_with fail
        go_ret
        exact ⟨by rw [Hr1.out]; rfl, HBa.out⟩
  · have hf1 : (f == 0) = false := beq_eq_false_iff_ne.2 hf0
    have hf2 : (f != 0) = true := bne_iff_ne.2 hf0
    have Hr0 : Hid (r = 0) := by have := Hs.out; rw [if_neg hf0] at this; exact this
    clear hf0 Hs
    go_wp2_with fail
    go_ret
    exact ⟨by rw [Hr0.out]; rfl, HBa.out⟩
/-! ### Apply -/
def RApPost (size B b : Nat) (r : Option Nat) (all : List UInt8) (bs : List UInt8) (t : St) (e : Int) (w : World) (en : Ending) (w' : World) : Prop :=
  ∃ A c r', en = .returned (.tuple #[.slice A bs.length c, .agg (stC t.n t.a t.b t.c t.d), .int .i64 e]) ∧ WinR w' B b r' size (all ++ bs) ∧ w'.ownsRow w.heap.size 5 1 (.slice A bs.length c) bs.length (bys bs) ∧
    Fr (fun k => k = b ∨ some k = r) w w' ∧ (∀ g, r' = some g → r = some g ∨ w.heap.size ≤ g) ∧ (∀ g, (Value.slice A bs.length c).ownBlock = some g → r' ≠ some g)
theorem RApPost.nil {B b size : Nat} {r : Option Nat} {all : List UInt8} {f : Int} {w w' : World} (h : WinR w B b r size all) (hb : Below w.heap.size w w') :
    RApPost size B b r all [] St.zero f w (.returned (.tuple #[.slice none 0 0, .agg (stC 0 0 0 0 0), .int .i64 f])) w' :=
  ⟨none, 0, r, rfl, by simpa using h.below hb, World.ownsRow_nil _ _ _ _, ⟨hb.os, hb.tape, hb.output, hb.size, fun k hk _ => hb.block k hk⟩, fun _ h => .inl h, fun _ h => by cases h⟩
theorem RApPost.copy {B b size q d n cc : Nat} {r r2 : Option Nat} {all bs : List UInt8} {A : Option Addr} {t : St} {w W3 w2 wz : World} (h : WinR w B b r size all) (hB : Below w.heap.size w W3) (hR : RCopyRel B b size r all d W3 n A cc r2 w2) (hq : w.heap.size ≤ q) (hq2 : q < W3.heap.size) (hz : Fr (fun k => k = q) w2 wz) (hbs : (ext d n all).drop all.length = bs) :
    RApPost size B b r all bs t 0 w (.returned (.tuple #[.slice A n cc, .agg (stC t.n t.a t.b t.c t.d), .int .i64 0])) wz := by
  obtain rfl : n = bs.length := by rw [← hbs, List.length_drop, ext_length]; omega
  have hall : ext d bs.length all = all ++ bs := by
    have := ext_all d bs.length all
    rw [hbs] at this
    exact this
  have hb := h.lt.1
  have hr : ∀ g, r = some g → g < w.heap.size := fun g hg => (h.lt.2 g hg).2
  have hOwn := hR.own
  rw [hbs] at hOwn
  refine ⟨A, cc, r2, rfl, ?_, ?_, ?_, ?_, ?_⟩
  · have := hR.win
    rw [hall] at this
    refine this.fr hz (by omega) (fun g hg e => ?_)
    rcases hR.at_ g hg with h1 | h1
    · have := hr _ h1; omega
    · omega
  · exact own_mono (own_same hOwn (fun g hg => hz.block _ (own_lt hOwn hg).2 (by have := (own_lt hOwn hg).1; omega))) hB.size
  · have hFr : Fr (fun k => k = b ∨ some k = r) w w2 := (⟨hB.os, hB.tape, hB.output, hB.size, fun k hk _ => hB.block k hk⟩ : Fr (fun k => k = b ∨ some k = r) w _).trans hR.fr
    exact hFr.trans' hz (fun i hi e => by omega)
  · intro g hg
    rcases hR.at_ g hg with h1 | h1
    · exact .inl h1
    · exact .inr (Nat.le_trans hB.size h1)
  · exact fun g hg e => hR.ne g e hg
theorem RCopyRel.keeps {B b size d n cc : Nat} {r r2 : Option Nat} {all : List UInt8} {A : Option Addr} {W3 w2 : World} (hR : RCopyRel B b size r all d W3 n A cc r2 w2) {g : Nat} (hg : g < W3.heap.size) (h1 : g ≠ b) (h2 : ∀ k, r = some k → g ≠ k) : w2.heap[g]? = W3.heap[g]? :=
  hR.fr.block g hg (by
    rintro (e | e)
    · exact h1 e
    · exact h2 _ e.symm rfl)
set_option maxHeartbeats 2000000 in
theorem RApply_bad (B b size : Nat) (r : Option Nat) (all : List UInt8) (s : St) (y : Sy) (w : World) (h : WinR w B b r size all) (he : ¬ nextE s y = 0) :
    Calls Tryd.prog 14 #[.pointer (some ⟨b, 0, none⟩), s.v, y.v] w (RApPost size B b r all [] St.zero (nextE s y) w) := by
  have hn := Next_r s y
  rw [show nextS s y = St.zero by unfold nextS; rw [if_neg he], show St.zero.v = .agg (stC 0 0 0 0 0) from rfl] at hn
  obtain ⟨f, hf⟩ : ∃ f, nextE s y = f := ⟨_, rfl⟩
  rw [hf] at hn he ⊢
  obtain ⟨n, a, b', c, d⟩ := s
  obtain ⟨k, z, l, x⟩ := y
  have h3 := three_new 35 w n a b' c d k (z.toNat : Int) l x
  unfold St.v Sy.v at hn ⊢
  unfold Sy.cs at hn ⊢
  simp only [] at hn ⊢
  obtain ⟨w0, hw0⟩ : ∃ w0, (((w.alloc (.cells (stC n a b' c d) 35)).alloc (.cells #[.int .i64 k, .int .u8 (z.toNat : Int), .int .i64 l, .int .i64 x] 38)).alloc (.cells (stC 0 0 0 0 0) 35)) = w0 := ⟨_, rfl⟩
  rw [hw0] at h3
  have hcc := hn w0
  clear hn
  have he1 : (f == 0) = false := beq_eq_false_iff_ne.2 he
  have he2 : (f != 0) = true := bne_iff_ne.2 he
  go_enter Tryd.func14, Tryd.ntmps14
  obtain ⟨⟨s0, s1, s2, s3, s4⟩, ⟨y0, y1, y2, y3⟩, ⟨r0, r1, r2, r3, r4⟩, ⟨f0, f1, f2, f3, f4⟩, ⟨g0, g1, g2, g3, g4⟩⟩ := h3.cells
  go_wp2_with (go_at_call 38; first | (rw [hw0]; refine hcc.mono ?_) | refine hcc.mono ?_; rintro e w1 ⟨rfl, hb1⟩; clear s0 s1 s2 s3 s4 y0 y1 y2 y3 r0 r1 r2 r3 r4 f0 f1 f2 f3 f4 g0 g1 g2 g3 g4; have h31 := (h3.below hb1).below ((Below.refl _ _).alloc (Nat.le_refl _) (.cells (stC 0 0 0 0 0) 35)); have hB := h31.2.2.2; obtain ⟨⟨s0, s1, s2, s3, s4⟩, ⟨y0, y1, y2, y3⟩, ⟨r0, r1, r2, r3, r4⟩, ⟨f0, f1, f2, f3, f4⟩, ⟨g0, g1, g2, g3, g4⟩⟩ := h31.cells; clear h3 hw0)
  refine bodyPost_ret (v := .tuple #[.slice none 0 0, .agg (stC 0 0 0 0 0), .int .i64 f]) (by simp [results, Tryd.results14, go_sem, *]) rfl (RApPost.nil h (below5 hB (up2 _) _ _ _ _ _))
set_option maxHeartbeats 2000000 in
theorem RApply_lit (B b size : Nat) (r : Option Nat) (all : List UInt8) (s : St) (y : Sy) (w : World) (h : WinR w B b r size all) (he : nextE s y = 0) (hk : y.k = 1) (hlen : all.length + 1 < 140737488355328) :
    Calls Tryd.prog 14 #[.pointer (some ⟨b, 0, none⟩), s.v, y.v] w (RApPost size B b r all [y.y] (nextS s y) 0 w) := by
  have hn := Next_r s y
  rw [he] at hn
  obtain ⟨t, ht⟩ : ∃ t, nextS s y = t := ⟨_, rfl⟩
  rw [ht] at hn ⊢
  clear ht he
  obtain ⟨n', a', b'', c', d'⟩ := t
  obtain ⟨n, a, b', c, d⟩ := s
  obtain ⟨k, z, l, x⟩ := y
  simp only [] at hk
  subst hk
  have h3 := three_new 35 w n a b' c d 1 (z.toNat : Int) l x
  unfold St.v Sy.v at hn
  unfold Sy.cs at hn
  unfold St.v Sy.v Sy.cs
  simp only [] at hn ⊢
  obtain ⟨w0, hw0⟩ : ∃ w0, (((w.alloc (.cells (stC n a b' c d) 35)).alloc (.cells #[.int .i64 1, .int .u8 (z.toNat : Int), .int .i64 l, .int .i64 x] 38)).alloc (.cells (stC 0 0 0 0 0) 35)) = w0 := ⟨_, rfl⟩
  rw [hw0] at h3
  have hcc := hn w0
  clear hn
  go_enter Tryd.func14, Tryd.ntmps14
  obtain ⟨⟨s0, s1, s2, s3, s4⟩, ⟨y0, y1, y2, y3⟩, ⟨r0, r1, r2, r3, r4⟩, ⟨f0, f1, f2, f3, f4⟩, ⟨g0, g1, g2, g3, g4⟩⟩ := h3.cells
  go_wp2_with (go_at_call 38; first | (rw [hw0]; refine hcc.mono ?_) | refine hcc.mono ?_; rintro e w1 ⟨rfl, hb1⟩; clear s0 s1 s2 s3 s4 y0 y1 y2 y3 r0 r1 r2 r3 r4 f0 f1 f2 f3 f4 g0 g1 g2 g3 g4; have h31 := (h3.below hb1).below ((Below.refl _ _).alloc (Nat.le_refl _) (.cells (stC n' a' b'' c' d') 35)); have hB := h31.2.2.2; have hN := Blk.new w1 35 (stC n' a' b'' c' d'); obtain ⟨⟨s0, s1, s2, s3, s4⟩, ⟨y0, y1, y2, y3⟩, ⟨r0, r1, r2, r3, r4⟩, ⟨f0, f1, f2, f3, f4⟩, ⟨g0, g1, g2, g3, g4⟩⟩ := h31.cells; clear hw0)
  have hz1 : w.heap.size ≤ w1.heap.size := Nat.le_trans h3.2.2.2.size hb1.size
  have hW1 := h.below hB
  have hW2 := hW1.below ((Below.refl _ _).alloc (Nat.le_refl _) (.cells #[.int .u8 (z.toNat : Int)] 5))
  refine (RPut_any B b size r all _ 1 1 [z] _ hW2 ⟨rfl, fun _ => ⟨_, rfl, by have := World.news_of_block (heap_alloc_new (w1.alloc (.cells (stC n' a' b'' c' d') 35)) (.cells #[.int .u8 (z.toNat : Int)] 5)); simp only [World.size_alloc] at this; exact this⟩⟩ hlen).mono ?_
  rintro e w2 ⟨rfl, r2, hW, hF, hA⟩
  have hb0 : b < w.heap.size := h.lt.1
  have hr0 : ∀ g, r = some g → g < w.heap.size := fun g hg => (h.lt.2 g hg).2
  have hNx := (hN.alloc (.cells #[.int .u8 (z.toNat : Int)] 5)).same (hF.block _ (by simp only [World.size_alloc]; omega) (by
    rintro (e | e)
    · omega
    · have := hr0 _ e.symm; omega))
  have hOwn := own_same (w' := w2) (lit_own (B := w.heap.size) (w1.alloc (.cells (stC n' a' b'' c' d') 35)) z (by simp only [World.size_alloc]; omega)) (fun g hg => by
    have hg' : g = w1.heap.size + 1 := by simp [Value.ownBlock, World.size_alloc] at hg; omega
    subst hg'
    exact (hF.block _ (by simp only [World.size_alloc]; omega) (by
      rintro (e | e)
      · omega
      · have := hr0 _ e.symm; omega)))
  simp only [World.size_alloc] at hOwn
  have hB3 : Below w.heap.size w ((w1.alloc (.cells (stC n' a' b'' c' d') 35)).alloc (.cells #[.int .u8 (z.toNat : Int)] 5)) := hB.alloc hB.size _
  have hFr : Fr (fun k => k = b ∨ some k = r) w w2 := (⟨hB3.os, hB3.tape, hB3.output, hB3.size, fun k hk _ => hB3.block k hk⟩ : Fr (fun k => k = b ∨ some k = r) w _).trans hF
  simp only [World.size_alloc] at hA
  have c0 := hNx.cell 0; have c1 := hNx.cell 1; have c2 := hNx.cell 2; have c3 := hNx.cell 3; have c4 := hNx.cell 4
  simp at c0 c1 c2 c3 c4
  have hRs := (h31.2.2.1.alloc (.cells #[.int .u8 (z.toNat : Int)] 5)).same (hF.block _ (by simp only [World.size_alloc]; have := hb1.size; have := h3.2.2.1.lt; omega) (by
    rintro (e | e)
    · omega
    · have := hr0 _ e.symm; omega))
  obtain ⟨⟨q0, q1, q2, q3, q4⟩, ⟨u0, u1, u2, u3, u4⟩⟩ := st_five hRs
  have hq3 : w.heap.size + 1 + 1 < w1.heap.size := Nat.lt_of_lt_of_le h3.2.2.1.lt hb1.size
  have hPost : ∀ wz, Fr (fun k => k = w.heap.size + 1 + 1) w2 wz → RApPost size B b r all [z] ⟨n', a', b'', c', d'⟩ 0 w (.returned (.tuple #[.slice (some ⟨w1.heap.size + 1, 0, none⟩) 1 1, .agg (stC n' a' b'' c' d'), .int .i64 0])) wz := fun wz hz =>
    ⟨_, _, r2, rfl, hW.fr hz (by omega) (fun g hg e => by
      rcases hA g hg with h | h
      · have := hr0 _ h; omega
      · omega), own_same hOwn (fun g hg => hz.block _ (own_lt hOwn hg).2 (by simp [Value.ownBlock] at hg; omega)), hFr.trans' hz (fun i hi e => by omega), fun g hg => by
      rcases hA g hg with h | h
      · exact .inl h
      · exact .inr (by omega), fun g hg e => by
      simp [Value.ownBlock] at hg
      rcases hA g e with h | h
      · have := hr0 _ h; omega
      · omega⟩
  clear hOwn hFr hW hF hNx hB3 hW2 hW1 hN hB h31 h hb0 hlen s0 s1 s2 s3 s4 y0 y1 y2 y3 r0 r1 r2 r3 r4 f0 f1 f2 f3 f4 g0 g1 g2 g3 g4 h3 hcc hRs hr0 hA
  go_wp2_with fail
  go_region
  go_wp2_with fail
  exact bodyPost_ret (v := .tuple #[.slice (some ⟨w1.heap.size + 1, 0, none⟩) 1 1, .agg (stC n' a' b'' c' d'), .int .i64 0]) (by simp [results, Tryd.results14, go_sem, *]) rfl (hPost _ (fr5 _ _ _ _ _ _ _).drew)
theorem dist_bad {s : St} {y : Sy} {all : List UInt8} {size : Nat} (hno : ¬ (1 ≤ distOf s y ∧ distOf s y ≤ full size all)) : ¬ (1 ≤ distOf s y ∧ distOf s y ≤ full size all ∧ 0 ≤ szF y ∧ szF y ≤ 273) := fun h => hno ⟨h.1, h.2.1⟩
set_option maxHeartbeats 4000000 in
theorem RApply_copy (B b size : Nat) (r : Option Nat) (all : List UInt8) (s : St) (y : Sy) (w : World) (h : WinR w B b r size all) (he : nextE s y = 0) (hk : ¬ y.k = 1) (dd nn : Nat) (hd : distOf s y = (dd : Int)) (hnn : szF y = (nn : Int)) (h273 : nn ≤ 273) (hd1 : 1 ≤ dd) (hd2 : dd ≤ full size all) (hlen : all.length + 274 < 140737488355328) :
    Calls Tryd.prog 14 #[.pointer (some ⟨b, 0, none⟩), s.v, y.v] w (RApPost size B b r all ((ext dd nn all).drop all.length) (nextS s y) 0 w) := by
  have hn := Next_r s y
  rw [he] at hn
  have hx3 : y.k = 3 → repOk y.x := fun h3 => by
    rcases formedN_zero (nextE_zero he).2 with h1 | h1 | h1 | h1
    · omega
    · omega
    · omega
    · exact h1.2.2
  obtain ⟨t, ht⟩ : ∃ t, nextS s y = t := ⟨_, rfl⟩
  rw [ht] at hn ⊢
  clear ht he
  obtain ⟨n', a', b'', c', d'⟩ := t
  obtain ⟨n, a, b', c, d⟩ := s
  obtain ⟨k, z, l, x⟩ := y
  simp only [] at hk hx3 hd hnn
  have hkd : (k == 1) = false := beq_eq_false_iff_ne.2 hk
  have hDi := fun w => RDist_any n a b' c d k l x z w hx3
  have hSi := RSize_any k l x z
  rw [hd] at hDi
  rw [hnn] at hSi
  clear hd hnn
  have HDi := Lib.hid hDi
  have HSi := Lib.hid hSi
  have h3 := three_new 35 w n a b' c d k (z.toNat : Int) l x
  unfold St.v Sy.v at hn
  unfold Sy.cs at hn
  unfold St.v Sy.v Sy.cs
  simp only [] at hn ⊢
  obtain ⟨w0, hw0⟩ : ∃ w0, (((w.alloc (.cells (stC n a b' c d) 35)).alloc (.cells #[.int .i64 k, .int .u8 (z.toNat : Int), .int .i64 l, .int .i64 x] 38)).alloc (.cells (stC 0 0 0 0 0) 35)) = w0 := ⟨_, rfl⟩
  rw [hw0] at h3
  have hcc := hn w0
  have H := Lib.hid h
  clear hn hk hx3 hDi hSi h
  go_enter Tryd.func14, Tryd.ntmps14
  obtain ⟨⟨s0, s1, s2, s3, s4⟩, ⟨y0, y1, y2, y3⟩, ⟨r0, r1, r2, r3, r4⟩, ⟨f0, f1, f2, f3, f4⟩, ⟨g0, g1, g2, g3, g4⟩⟩ := h3.cells
  go_wp2_with (go_at_call 38; first | (rw [hw0]; refine hcc.mono ?_) | refine hcc.mono ?_; rintro e w1 ⟨rfl, hb1⟩; clear s0 s1 s2 s3 s4 y0 y1 y2 y3 r0 r1 r2 r3 r4 f0 f1 f2 f3 f4 g0 g1 g2 g3 g4; have h31 := (h3.below hb1).below ((Below.refl _ _).alloc (Nat.le_refl _) (.cells (stC n' a' b'' c' d') 35)); have hB := h31.2.2.2; have hN := Blk.new w1 35 (stC n' a' b'' c' d'); obtain ⟨⟨s0, s1, s2, s3, s4⟩, ⟨y0, y1, y2, y3⟩, ⟨r0, r1, r2, r3, r4⟩, ⟨f0, f1, f2, f3, f4⟩, ⟨g0, g1, g2, g3, g4⟩⟩ := h31.cells; clear hw0)
  have hz0 : w.heap.size + 1 + 1 < w1.heap.size := Nat.lt_of_lt_of_le h3.2.2.1.lt hb1.size
  obtain ⟨W3, hW3⟩ : ∃ W3, (w1.alloc (.cells (stC n' a' b'' c' d') 35)) = W3 := ⟨_, rfl⟩
  have hs4 : W3.heap.size = w1.heap.size + 1 := by rw [← hW3]; simp
  rw [hW3] at hN hB h31 s0 s1 s2 s3 s4 y0 y1 y2 y3 r0 r1 r2 r3 r4 f0 f1 f2 f3 f4 g0 g1 g2 g3 g4 ⊢
  clear hW3
  have HW := Lib.hid (H.out.below hB)
  have Hq : Hid (∀ w', Below W3.heap.size W3 w' → w'.cell? ⟨w.heap.size, 0, none⟩ = some (.int .i64 n) ∧ w'.cell? ⟨w.heap.size, 1, none⟩ = some (.int .i64 a) ∧ w'.cell? ⟨w.heap.size, 2, none⟩ = some (.int .i64 b') ∧ w'.cell? ⟨w.heap.size, 3, none⟩ = some (.int .i64 c) ∧ w'.cell? ⟨w.heap.size, 4, none⟩ = some (.int .i64 d) ∧ w'.cell? ⟨w.heap.size + 1, 0, none⟩ = some (.int .i64 k) ∧ w'.cell? ⟨w.heap.size + 1, 1, none⟩ = some (.int .u8 (z.toNat : Int)) ∧ w'.cell? ⟨w.heap.size + 1, 2, none⟩ = some (.int .i64 l) ∧ w'.cell? ⟨w.heap.size + 1, 3, none⟩ = some (.int .i64 x)) := fun w' hb => by
    obtain ⟨⟨e0, e1, e2, e3, e4⟩, ⟨i0, i1, i2, i3⟩, _⟩ := (h31.below hb).cells
    exact ⟨e0, e1, e2, e3, e4, i0, i1, i2, i3⟩
  have Hk : Hid (∀ Wc, Below W3.heap.size W3 Wc → ∀ A cc r2 w', RCopyRel B b size r all dd Wc nn A cc r2 w' → (w'.cell? ⟨w.heap.size, 0, none⟩ = some (.int .i64 n) ∧ w'.cell? ⟨w.heap.size, 1, none⟩ = some (.int .i64 a) ∧ w'.cell? ⟨w.heap.size, 2, none⟩ = some (.int .i64 b') ∧ w'.cell? ⟨w.heap.size, 3, none⟩ = some (.int .i64 c) ∧ w'.cell? ⟨w.heap.size, 4, none⟩ = some (.int .i64 d) ∧ w'.cell? ⟨w.heap.size + 1, 0, none⟩ = some (.int .i64 k) ∧ w'.cell? ⟨w.heap.size + 1, 1, none⟩ = some (.int .u8 (z.toNat : Int)) ∧ w'.cell? ⟨w.heap.size + 1, 2, none⟩ = some (.int .i64 l) ∧ w'.cell? ⟨w.heap.size + 1, 3, none⟩ = some (.int .i64 x)) ∧ Blk w' w1.heap.size 35 (stC n' a' b'' c' d') ∧ Blk w' (w.heap.size + 1 + 1) 35 (stC 0 0 0 0 0) ∧
      (∀ wz, Fr (fun k => k = w.heap.size + 1 + 1) w' wz → RApPost size B b r all ((ext dd nn all).drop all.length) ⟨n', a', b'', c', d'⟩ 0 w (.returned (.tuple #[.slice A nn cc, .agg (stC n' a' b'' c' d'), .int .i64 0])) wz)) := fun Wc hbc A cc r2 w' hR => by
    have hb0 : b < w.heap.size := H.out.lt.1
    have hr0 : ∀ g, r = some g → g < w.heap.size := fun g hg => (H.out.lt.2 g hg).2
    have hsc := hbc.size
    have k := fun g (hg1 : w.heap.size ≤ g) (hg2 : g < Wc.heap.size) => hR.keeps hg2 (by omega) (fun k hk => by have := hr0 _ hk; omega)
    have h32 := h31.below hbc
    have b0 := h32.1.same (k _ (Nat.le_refl _) h32.1.lt)
    have b1 := h32.2.1.same (k _ (by omega) h32.2.1.lt)
    have b2 := h32.2.2.1.same (k _ (by omega) h32.2.2.1.lt)
    have bn := (hN.below hbc).same (k _ (by omega) (hN.below hbc).lt)
    exact ⟨⟨b0.cell 0, b0.cell 1, b0.cell 2, b0.cell 3, b0.cell 4, b1.cell 0, b1.cell 1, b1.cell 2, b1.cell 3⟩, bn, b2, fun wz hz => RApPost.copy (t := ⟨n', a', b'', c', d'⟩) H.out h32.2.2.2 hR (by omega) (by omega) hz rfl⟩
  clear hN r0 r1 r2 r3 r4 f0 f1 f2 f3 f4 g0 g1 g2 g3 g4 hB h31 hcc h3
  go_wp2_with fail
  go_region_held3 (fun w' => w'.cell? ⟨w.heap.size, 0, none⟩ = some (.int .i64 n) ∧ w'.cell? ⟨w.heap.size, 1, none⟩ = some (.int .i64 a) ∧ w'.cell? ⟨w.heap.size, 2, none⟩ = some (.int .i64 b') ∧ w'.cell? ⟨w.heap.size, 3, none⟩ = some (.int .i64 c) ∧ w'.cell? ⟨w.heap.size, 4, none⟩ = some (.int .i64 d) ∧ w'.cell? ⟨w.heap.size + 1, 0, none⟩ = some (.int .i64 k) ∧ w'.cell? ⟨w.heap.size + 1, 1, none⟩ = some (.int .u8 (z.toNat : Int)) ∧ w'.cell? ⟨w.heap.size + 1, 2, none⟩ = some (.int .i64 l) ∧ w'.cell? ⟨w.heap.size + 1, 3, none⟩ = some (.int .i64 x))
    (first | (with_reducible exact ⟨s0, s1, s2, s3, s4, y0, y1, y2, y3⟩) | (with_reducible exact ⟨p0, p1, p2, p3, p4, p5, p6, p7, p8⟩) | (with_reducible exact ⟨q0, q1, q2, q3, q4, q5, q6, q7, q8⟩) | (with_reducible exact ⟨o0, o1, o2, o3, o4, o5, o6, o7, o8⟩) | go_keep)
    (first | (go_at_call 40; refine (HDi.out _).mono ?_; rintro e wq ⟨rfl, hbq⟩; have hbd : Below W3.heap.size W3 wq := (by first | (with_reducible exact bd1 hbq) | (with_reducible exact bup hbs hbq)); have hWd := HW.out.below hbd; obtain ⟨p0, p1, p2, p3, p4, p5, p6, p7, p8⟩ := Hq.out wq hbd) | (go_at_call 34; refine (HSi.out _).mono ?_; rintro e ws ⟨rfl, hbz⟩; have hbs : Below W3.heap.size W3 ws := (by first | (with_reducible exact bd1 hbz) | (with_reducible exact bup hbd hbz)); have hWs := HW.out.below hbs; obtain ⟨q0, q1, q2, q3, q4, q5, q6, q7, q8⟩ := Hq.out ws hbs) | (go_at_call 39; refine (RCopy_yes B b size r all dd nn _ (by first | (with_reducible exact hWd) | (with_reducible exact hWs)) hd1 hd2 h273 hlen).mono ?_; rintro e w2 ⟨A, cc, r2', rfl, hR⟩; obtain ⟨⟨o0, o1, o2, o3, o4, o5, o6, o7, o8⟩, hNx, hRs, hPost⟩ := Hk.out _ (by first | (with_reducible exact hbd) | (with_reducible exact hbs)) _ _ _ _ hR))
  all_goals
    obtain ⟨⟨c0, c1, c2, c3, c4⟩, _⟩ := st_five hNx
    obtain ⟨⟨e0, e1, e2, e3, e4⟩, ⟨u0, u1, u2, u3, u4⟩⟩ := st_five hRs
    clear hNx hRs
    go_wp2_with fail
    go_region
    go_wp2_with fail
    exact bodyPost_ret (v := .tuple #[.slice A nn cc, .agg (stC n' a' b'' c' d'), .int .i64 0]) (by simp [results, Tryd.results14, go_sem, *]) rfl (hPost _ (fr5 _ _ _ _ _ _ _).drew)
set_option maxHeartbeats 4000000 in
theorem RApply_copy_no (B b size : Nat) (r : Option Nat) (all : List UInt8) (s : St) (y : Sy) (w : World) (h : WinR w B b r size all) (he : nextE s y = 0) (hk : ¬ y.k = 1) (hno : ¬ (1 ≤ distOf s y ∧ distOf s y ≤ full size all)) :
    Calls Tryd.prog 14 #[.pointer (some ⟨b, 0, none⟩), s.v, y.v] w (RApPost size B b r all [] St.zero 7 w) := by
  have hn := Next_r s y
  rw [he] at hn
  have hx3 : y.k = 3 → repOk y.x := fun h3 => by
    rcases formedN_zero (nextE_zero he).2 with h1 | h1 | h1 | h1
    · omega
    · omega
    · omega
    · exact h1.2.2
  have hno2 := dist_bad hno
  clear hno
  obtain ⟨t, ht⟩ : ∃ t, nextS s y = t := ⟨_, rfl⟩
  rw [ht] at hn
  clear ht he
  obtain ⟨n', a', b'', c', d'⟩ := t
  obtain ⟨n, a, b', c, d⟩ := s
  obtain ⟨k, z, l, x⟩ := y
  simp only [] at hk hx3
  have hkd : (k == 1) = false := beq_eq_false_iff_ne.2 hk
  have hDi := fun w => RDist_any n a b' c d k l x z w hx3
  have hSi := RSize_any k l x z
  obtain ⟨dv, hdv⟩ : ∃ dv, distOf ⟨n, a, b', c, d⟩ ⟨k, z, l, x⟩ = dv := ⟨_, rfl⟩
  obtain ⟨zv, hzv⟩ : ∃ zv, szF ⟨k, z, l, x⟩ = zv := ⟨_, rfl⟩
  rw [hdv] at hDi hno2
  rw [hzv] at hSi hno2
  have Hno := Lib.hid hno2
  clear hdv hzv hno2
  have HDi := Lib.hid hDi
  have HSi := Lib.hid hSi
  have h3 := three_new 35 w n a b' c d k (z.toNat : Int) l x
  unfold St.v Sy.v at hn
  unfold Sy.cs at hn
  unfold St.v Sy.v Sy.cs
  simp only [] at hn ⊢
  obtain ⟨w0, hw0⟩ : ∃ w0, (((w.alloc (.cells (stC n a b' c d) 35)).alloc (.cells #[.int .i64 k, .int .u8 (z.toNat : Int), .int .i64 l, .int .i64 x] 38)).alloc (.cells (stC 0 0 0 0 0) 35)) = w0 := ⟨_, rfl⟩
  rw [hw0] at h3
  have hcc := hn w0
  have H := Lib.hid h
  clear hn hk hx3 hDi hSi h
  go_enter Tryd.func14, Tryd.ntmps14
  obtain ⟨⟨s0, s1, s2, s3, s4⟩, ⟨y0, y1, y2, y3⟩, ⟨r0, r1, r2, r3, r4⟩, ⟨f0, f1, f2, f3, f4⟩, ⟨g0, g1, g2, g3, g4⟩⟩ := h3.cells
  go_wp2_with (go_at_call 38; first | (rw [hw0]; refine hcc.mono ?_) | refine hcc.mono ?_; rintro e w1 ⟨rfl, hb1⟩; clear s0 s1 s2 s3 s4 y0 y1 y2 y3 r0 r1 r2 r3 r4 f0 f1 f2 f3 f4 g0 g1 g2 g3 g4; have h31 := (h3.below hb1).below ((Below.refl _ _).alloc (Nat.le_refl _) (.cells (stC n' a' b'' c' d') 35)); have hB := h31.2.2.2; have hN := Blk.new w1 35 (stC n' a' b'' c' d'); obtain ⟨⟨s0, s1, s2, s3, s4⟩, ⟨y0, y1, y2, y3⟩, ⟨r0, r1, r2, r3, r4⟩, ⟨f0, f1, f2, f3, f4⟩, ⟨g0, g1, g2, g3, g4⟩⟩ := h31.cells; clear hw0)
  have hz0 : w.heap.size + 1 + 1 < w1.heap.size := Nat.lt_of_lt_of_le h3.2.2.1.lt hb1.size
  obtain ⟨W3, hW3⟩ : ∃ W3, (w1.alloc (.cells (stC n' a' b'' c' d') 35)) = W3 := ⟨_, rfl⟩
  have hs4 : W3.heap.size = w1.heap.size + 1 := by rw [← hW3]; simp
  rw [hW3] at hN hB h31 s0 s1 s2 s3 s4 y0 y1 y2 y3 r0 r1 r2 r3 r4 f0 f1 f2 f3 f4 g0 g1 g2 g3 g4 ⊢
  clear hW3
  have HW := Lib.hid (H.out.below hB)
  have Hq : Hid (∀ w', Below W3.heap.size W3 w' → w'.cell? ⟨w.heap.size, 0, none⟩ = some (.int .i64 n) ∧ w'.cell? ⟨w.heap.size, 1, none⟩ = some (.int .i64 a) ∧ w'.cell? ⟨w.heap.size, 2, none⟩ = some (.int .i64 b') ∧ w'.cell? ⟨w.heap.size, 3, none⟩ = some (.int .i64 c) ∧ w'.cell? ⟨w.heap.size, 4, none⟩ = some (.int .i64 d) ∧ w'.cell? ⟨w.heap.size + 1, 0, none⟩ = some (.int .i64 k) ∧ w'.cell? ⟨w.heap.size + 1, 1, none⟩ = some (.int .u8 (z.toNat : Int)) ∧ w'.cell? ⟨w.heap.size + 1, 2, none⟩ = some (.int .i64 l) ∧ w'.cell? ⟨w.heap.size + 1, 3, none⟩ = some (.int .i64 x)) := fun w' hb => by
    obtain ⟨⟨e0, e1, e2, e3, e4⟩, ⟨i0, i1, i2, i3⟩, _⟩ := (h31.below hb).cells
    exact ⟨e0, e1, e2, e3, e4, i0, i1, i2, i3⟩
  have Hr2 := Lib.hid h31.2.2.1
  have HB := Lib.hid hB
  clear hN r0 r1 r2 r3 r4 f0 f1 f2 f3 f4 g0 g1 g2 g3 g4 hB h31 hcc h3
  go_wp2_with fail
  go_region_held3 (fun w' => w'.cell? ⟨w.heap.size, 0, none⟩ = some (.int .i64 n) ∧ w'.cell? ⟨w.heap.size, 1, none⟩ = some (.int .i64 a) ∧ w'.cell? ⟨w.heap.size, 2, none⟩ = some (.int .i64 b') ∧ w'.cell? ⟨w.heap.size, 3, none⟩ = some (.int .i64 c) ∧ w'.cell? ⟨w.heap.size, 4, none⟩ = some (.int .i64 d) ∧ w'.cell? ⟨w.heap.size + 1, 0, none⟩ = some (.int .i64 k) ∧ w'.cell? ⟨w.heap.size + 1, 1, none⟩ = some (.int .u8 (z.toNat : Int)) ∧ w'.cell? ⟨w.heap.size + 1, 2, none⟩ = some (.int .i64 l) ∧ w'.cell? ⟨w.heap.size + 1, 3, none⟩ = some (.int .i64 x))
    (first | (with_reducible exact ⟨s0, s1, s2, s3, s4, y0, y1, y2, y3⟩) | (with_reducible exact ⟨p0, p1, p2, p3, p4, p5, p6, p7, p8⟩) | (with_reducible exact ⟨q0, q1, q2, q3, q4, q5, q6, q7, q8⟩) | (with_reducible exact ⟨o0, o1, o2, o3, o4, o5, o6, o7, o8⟩) | go_keep)
    (first | (go_at_call 40; refine (HDi.out _).mono ?_; rintro e wq ⟨rfl, hbq⟩; have hbd : Below W3.heap.size W3 wq := (by first | (with_reducible exact bd1 hbq) | (with_reducible exact bup hbs hbq)); have hWd := HW.out.below hbd; obtain ⟨p0, p1, p2, p3, p4, p5, p6, p7, p8⟩ := Hq.out wq hbd) | (go_at_call 34; refine (HSi.out _).mono ?_; rintro e ws ⟨rfl, hbz⟩; have hbs : Below W3.heap.size W3 ws := (by first | (with_reducible exact bd1 hbz) | (with_reducible exact bup hbd hbz)); have hWs := HW.out.below hbs; obtain ⟨q0, q1, q2, q3, q4, q5, q6, q7, q8⟩ := Hq.out ws hbs) | (go_at_call 39; refine (RCopy_no B b size r all _ _ _ (by first | (with_reducible exact hWd) | (with_reducible exact hWs)) Hno.out).mono ?_; rintro e w2 ⟨rfl, hdw⟩; have hb2 : Below W3.heap.size W3 w2 := (by obtain ⟨mq, hmq⟩ := hdw; subst hmq; first | (with_reducible exact below_drewN hbd mq) | (with_reducible exact below_drewN hbs mq)); obtain ⟨o0, o1, o2, o3, o4, o5, o6, o7, o8⟩ := Hq.out w2 hb2))
  all_goals
    obtain ⟨⟨e0, e1, e2, e3, e4⟩, ⟨u0, u1, u2, u3, u4⟩⟩ := st_five (Hr2.out.below hb2)
    go_wp2_with fail
    refine bodyPost_ret (v := .tuple #[.slice none 0 0, .agg (stC 0 0 0 0 0), .int .i64 7]) (by simp [results, Tryd.results14, go_sem, *]) rfl (RApPost.nil H.out (below5 (HB.out.trans (hb2.mono HB.out.size)) (up2 _) _ _ _ _ _))
end Go.Proofs.YthcgchkcanhmnaaDoor
