
/-
  Walk of symbol.Apply for matches, reps and short reps. Conditions: the window as Win says; the tables as Laid says; numbers that can be counted.
-/
import Derived.Test.YthcgchkcanhmnaaDoorSymA
import Derived.StillTailTactics
namespace Go.Proofs.YthcgchkcanhmnaaDoor
open Go.RowKit

theorem ApPost.copy {B b size q d n cc : Nat} {r r2 : Option Nat} {all bs : List UInt8} {A : Option Addr} {t : St} {w W3 w2 wz : World} (h : Win w B b r size all) (hB : Below w.heap.size w W3) (hR : CopyRel B b size r all d W3 n A cc r2 w2) (hq : w.heap.size ≤ q) (hq2 : q < W3.heap.size) (hz : Fr (fun k => k = q) w2 wz) (hbs : (ext d n all).drop all.length = bs) :
    ApPost size B b r all bs t 0 w (.returned (.tuple #[.slice A n cc, t.v, .int .i64 0])) wz := by
  obtain rfl : n = bs.length := by rw [← hbs, List.length_drop, ext_length]; omega
  have hall : ext d bs.length all = all ++ bs := by
    have := ext_all d bs.length all
    rw [hbs] at this
    exact this
  have hb := h.lt.1
  have hr : ∀ g, r = some g → g < w.heap.size := fun g hg => (h.lt.2 g hg).2
  have hOwn := hR.own
  rw [hbs] at hOwn
  refine ⟨A, cc, r2, rfl, ?_, ?_, ?_, ?_, ?_⟩
  · have := hR.win
    rw [hall] at this
    refine this.fr hz (by omega) (fun g hg e => ?_)
    rcases hR.at_ g hg with h1 | h1
    · have := hr _ h1; omega
    · omega
  · exact own_mono (own_same hOwn (fun g hg => hz.block _ (own_lt hOwn hg).2 (by have := (own_lt hOwn hg).1; omega))) hB.size
  · have hFr : Fr (fun k => k = b ∨ some k = r) w w2 := (⟨hB.os, hB.tape, hB.output, hB.size, fun k hk _ => hB.block k hk⟩ : Fr (fun k => k = b ∨ some k = r) w _).trans hR.fr
    exact hFr.trans' hz (fun i hi e => by omega)
  · intro g hg
    rcases hR.at_ g hg with h1 | h1
    · exact .inl h1
    · exact .inr (Nat.le_trans hB.size h1)
  · exact fun g hg e => hR.ne g e hg
/-- a block of before that Copy leaves alone -/
theorem CopyRel.keeps {B b size d n cc : Nat} {r r2 : Option Nat} {all : List UInt8} {A : Option Addr} {W3 w2 : World} (hR : CopyRel B b size r all d W3 n A cc r2 w2) {g : Nat} (hg : g < W3.heap.size) (h1 : g ≠ b) (h2 : ∀ k, r = some k → g ≠ k) : w2.heap[g]? = W3.heap[g]? :=
  hR.fr.block g hg (by
    rintro (e | e)
    · exact h1 e
    · exact h2 _ e.symm rfl)
set_option maxHeartbeats 2000000 in
theorem Apply_match (B b size : Nat) (r : Option Nat) (all : List UInt8) (s : St) (y : Sy) (w : World) (h : Win w B b r size all) (hl : Laid w) (he : nextE s y = 0) (hk : y.k = 2) (dd nn : Nat) (hd : y.x = (dd : Int)) (hnn : y.l = (nn : Int)) (h273 : nn ≤ 273) (hd1 : 1 ≤ dd) (hd2 : dd ≤ full size all) (hlen : all.length < 4611686018427380000) :
    Calls Tryd.prog 12 #[.pointer (some ⟨b, 0, none⟩), s.v, y.v] w (ApPost size B b r all ((ext dd nn all).drop all.length) (nextS s y) 0 w) := by
  have hn := Next_p s y
  rw [he] at hn
  obtain ⟨t, ht⟩ : ∃ t, nextS s y = t := ⟨_, rfl⟩
  rw [ht] at hn ⊢
  clear ht he
  obtain ⟨n', a', b'', c', d'⟩ := t
  obtain ⟨n, a, b', c, d⟩ := s
  obtain ⟨k, z, l, x⟩ := y
  simp only [] at hk hd hnn
  subst hk
  subst hd
  subst hnn
  have h3 := three_new 39 w n a b' c d 2 (z.toNat : Int) (nn : Int) (dd : Int)
  unfold St.v Sy.v at hn
  unfold Sy.cs at hn
  unfold St.v Sy.v Sy.cs
  simp only [] at hn ⊢
  obtain ⟨w0, hw0⟩ : ∃ w0, (((w.alloc (.cells (stC n a b' c d) 39)).alloc (.cells #[.int .i64 2, .int .u8 (z.toNat : Int), .int .i64 (nn : Int), .int .i64 (dd : Int)] 38)).alloc (.cells (stC 0 0 0 0 0) 39)) = w0 := ⟨_, rfl⟩
  rw [hw0] at h3
  have hcc := hn w0 (hl.below (h3.2.2.2))
  clear hn
  have H := Lib.hid h
  go_enter Tryd.func12, Tryd.ntmps12
  obtain ⟨⟨s0, s1, s2, s3, s4⟩, ⟨y0, y1, y2, y3⟩, ⟨r0, r1, r2, r3, r4⟩, ⟨f0, f1, f2, f3, f4⟩, ⟨g0, g1, g2, g3, g4⟩⟩ := h3.cells
  go_wp2_with (go_at_call 27; first | (rw [hw0]; refine hcc.mono ?_) | refine hcc.mono ?_; rintro e w1 ⟨rfl, hb1⟩; clear s0 s1 s2 s3 s4 y0 y1 y2 y3 r0 r1 r2 r3 r4 f0 f1 f2 f3 f4 g0 g1 g2 g3 g4; have h31 := (h3.below hb1).below ((Below.refl _ _).alloc (Nat.le_refl _) (.cells (stC n' a' b'' c' d') 39)); have hB := h31.2.2.2; have hN := Blk.new w1 39 (stC n' a' b'' c' d'); obtain ⟨⟨s0, s1, s2, s3, s4⟩, ⟨y0, y1, y2, y3⟩, ⟨r0, r1, r2, r3, r4⟩, ⟨f0, f1, f2, f3, f4⟩, ⟨g0, g1, g2, g3, g4⟩⟩ := h31.cells; clear hw0)
  have hz0 : w.heap.size + 1 + 1 < w1.heap.size := Nat.lt_of_lt_of_le h3.2.2.1.lt hb1.size
  have hb0 : b < w.heap.size := h.lt.1
  have hr0 : ∀ g, r = some g → g < w.heap.size := fun g hg => (h.lt.2 g hg).2
  have hW3 := h.below hB
  refine (Copy_yes B b size r all dd nn _ hW3 hd1 hd2 h273 hlen).mono ?_
  rintro e w2 ⟨A, cc, r2', rfl, hR⟩
  have hNx := hN.same (hR.keeps hN.lt (by omega) (fun k hk => by have := hr0 _ hk; omega))
  have hRs := h31.2.2.1.same (hR.keeps h31.2.2.1.lt (by omega) (fun k hk => by have := hr0 _ hk; omega))
  have c0 := hNx.cell 0; have c1 := hNx.cell 1; have c2 := hNx.cell 2; have c3 := hNx.cell 3; have c4 := hNx.cell 4
  simp at c0 c1 c2 c3 c4
  have q0 : w2.cell? ⟨w.heap.size + 1 + 1, 0, none⟩ = some (.int .i64 0) := hRs.cell 0
  have u0 : w2.frozen? ⟨w.heap.size + 1 + 1, 0, none⟩ = false := hRs.frozen 0
  have q1 : w2.cell? ⟨w.heap.size + 1 + 1, 1, none⟩ = some (.int .i64 0) := hRs.cell 1
  have u1 : w2.frozen? ⟨w.heap.size + 1 + 1, 1, none⟩ = false := hRs.frozen 1
  have q2 : w2.cell? ⟨w.heap.size + 1 + 1, 2, none⟩ = some (.int .i64 0) := hRs.cell 2
  have u2 : w2.frozen? ⟨w.heap.size + 1 + 1, 2, none⟩ = false := hRs.frozen 2
  have q3 : w2.cell? ⟨w.heap.size + 1 + 1, 3, none⟩ = some (.int .i64 0) := hRs.cell 3
  have u3 : w2.frozen? ⟨w.heap.size + 1 + 1, 3, none⟩ = false := hRs.frozen 3
  have q4 : w2.cell? ⟨w.heap.size + 1 + 1, 4, none⟩ = some (.int .i64 0) := hRs.cell 4
  have u4 : w2.frozen? ⟨w.heap.size + 1 + 1, 4, none⟩ = false := hRs.frozen 4
  have hPost : ∀ wz, Fr (fun k => k = w.heap.size + 1 + 1) w2 wz → ApPost size B b r all ((ext dd nn all).drop all.length) ⟨n', a', b'', c', d'⟩ 0 w (.returned (.tuple #[.slice A nn cc, .agg (stC n' a' b'' c' d'), .int .i64 0])) wz := fun wz hz =>
    ApPost.copy (t := ⟨n', a', b'', c', d'⟩) h hB hR (by omega) (by simp only [World.size_alloc]; omega) hz rfl
  clear hNx hRs hW3 hN hB h31 h hl hb0 hlen s0 s1 s2 s3 s4 y0 y1 y2 y3 r0 r1 r2 r3 r4 f0 f1 f2 f3 f4 g0 g1 g2 g3 g4 h3 hcc hr0 hR
  go_wp2_with fail
  go_region
  go_wp2_with fail
  exact bodyPost_ret (v := .tuple #[.slice A nn cc, .agg (stC n' a' b'' c' d'), .int .i64 0]) (by simp [results, Tryd.results12, go_sem, *]) rfl (hPost _ (fr5 _ _ _ _ _ _ _).drew)
set_option maxHeartbeats 2000000 in
theorem Apply_match_no (B b size : Nat) (r : Option Nat) (all : List UInt8) (s : St) (y : Sy) (w : World) (h : Win w B b r size all) (hl : Laid w) (he : nextE s y = 0) (hk : y.k = 2) (hno : ¬ (1 ≤ y.x ∧ y.x ≤ full size all ∧ 0 ≤ (y.l : Int) ∧ (y.l : Int) ≤ 273)) :
    Calls Tryd.prog 12 #[.pointer (some ⟨b, 0, none⟩), s.v, y.v] w (ApPost size B b r all [] St.zero 7 w) := by
  have hn := Next_p s y
  rw [he] at hn
  obtain ⟨t, ht⟩ : ∃ t, nextS s y = t := ⟨_, rfl⟩
  rw [ht] at hn
  clear ht he
  obtain ⟨n', a', b'', c', d'⟩ := t
  obtain ⟨n, a, b', c, d⟩ := s
  obtain ⟨k, z, l, x⟩ := y
  simp only [] at hk hno
  subst hk
  have h3 := three_new 39 w n a b' c d 2 (z.toNat : Int) l x
  unfold St.v Sy.v at hn
  unfold Sy.cs at hn
  unfold St.v Sy.v Sy.cs
  simp only [] at hn ⊢
  obtain ⟨w0, hw0⟩ : ∃ w0, (((w.alloc (.cells (stC n a b' c d) 39)).alloc (.cells #[.int .i64 2, .int .u8 (z.toNat : Int), .int .i64 l, .int .i64 x] 38)).alloc (.cells (stC 0 0 0 0 0) 39)) = w0 := ⟨_, rfl⟩
  rw [hw0] at h3
  have hcc := hn w0 (hl.below (h3.2.2.2))
  clear hn
  have H := Lib.hid h
  have Hno := Lib.hid hno
  clear hno
  go_enter Tryd.func12, Tryd.ntmps12
  obtain ⟨⟨s0, s1, s2, s3, s4⟩, ⟨y0, y1, y2, y3⟩, ⟨r0, r1, r2, r3, r4⟩, ⟨f0, f1, f2, f3, f4⟩, ⟨g0, g1, g2, g3, g4⟩⟩ := h3.cells
  go_wp2_with (go_at_call 27; first | (rw [hw0]; refine hcc.mono ?_) | refine hcc.mono ?_; rintro e w1 ⟨rfl, hb1⟩; clear s0 s1 s2 s3 s4 y0 y1 y2 y3 r0 r1 r2 r3 r4 f0 f1 f2 f3 f4 g0 g1 g2 g3 g4; have h31 := (h3.below hb1).below ((Below.refl _ _).alloc (Nat.le_refl _) (.cells (stC n' a' b'' c' d') 39)); have hB := h31.2.2.2; have hN := Blk.new w1 39 (stC n' a' b'' c' d'); obtain ⟨⟨s0, s1, s2, s3, s4⟩, ⟨y0, y1, y2, y3⟩, ⟨r0, r1, r2, r3, r4⟩, ⟨f0, f1, f2, f3, f4⟩, ⟨g0, g1, g2, g3, g4⟩⟩ := h31.cells; clear hw0)
  have hz0 : w.heap.size + 1 + 1 < w1.heap.size := Nat.lt_of_lt_of_le h3.2.2.1.lt hb1.size
  have hb0 : b < w.heap.size := h.lt.1
  have hr0 : ∀ g, r = some g → g < w.heap.size := fun g hg => (h.lt.2 g hg).2
  obtain ⟨⟨s0', s1', s2', s3', s4'⟩, ⟨y0', y1', y2', y3'⟩, ⟨r0', r1', r2', r3', r4'⟩, ⟨f0', f1', f2', f3', f4'⟩, ⟨g0', g1', g2', g3', g4'⟩⟩ := (h3.below hb1).cells
  have hW3 := H.out.below hB
  have hB0 := (h3.below hb1).2.2.2
  refine (Copy_no B b size r all _ _ _ hW3 Hno.out).mono ?_
  rintro e w2 ⟨rfl, rfl⟩
  go_wp2_with fail
  refine bodyPost_ret (v := .tuple #[.slice none 0 0, .agg (stC 0 0 0 0 0), .int .i64 7]) (by simp [results, Tryd.results12, go_sem, *]) rfl (ApPost.nil H.out ((below5 hB0 (up2 _) _ _ _ _ _).alloc (by simp [World.setCell]; omega) _))
set_option maxHeartbeats 2000000 in
theorem Apply_short (B b size : Nat) (r : Option Nat) (all : List UInt8) (s : St) (y : Sy) (w : World) (h : Win w B b r size all) (hl : Laid w) (he : nextE s y = 0) (hk : y.k = 4) (dd : Nat) (hd : s.a = (dd : Int)) (hd1 : 1 ≤ dd) (hd2 : dd ≤ full size all) (hlen : all.length < 4611686018427380000) :
    Calls Tryd.prog 12 #[.pointer (some ⟨b, 0, none⟩), s.v, y.v] w (ApPost size B b r all ((ext dd 1 all).drop all.length) (nextS s y) 0 w) := by
  have hn := Next_p s y
  rw [he] at hn
  obtain ⟨t, ht⟩ : ∃ t, nextS s y = t := ⟨_, rfl⟩
  rw [ht] at hn ⊢
  clear ht he
  obtain ⟨n', a', b'', c', d'⟩ := t
  obtain ⟨n, a, b', c, d⟩ := s
  obtain ⟨k, z, l, x⟩ := y
  simp only [] at hk hd
  subst hk
  subst hd
  have h3 := three_new 39 w n (dd : Int) b' c d 4 (z.toNat : Int) l x
  unfold St.v Sy.v at hn
  unfold Sy.cs at hn
  unfold St.v Sy.v Sy.cs
  simp only [] at hn ⊢
  obtain ⟨w0, hw0⟩ : ∃ w0, (((w.alloc (.cells (stC n (dd : Int) b' c d) 39)).alloc (.cells #[.int .i64 4, .int .u8 (z.toNat : Int), .int .i64 l, .int .i64 x] 38)).alloc (.cells (stC 0 0 0 0 0) 39)) = w0 := ⟨_, rfl⟩
  rw [hw0] at h3
  have hcc := hn w0 (hl.below (h3.2.2.2))
  clear hn
  have H := Lib.hid h
  go_enter Tryd.func12, Tryd.ntmps12
  obtain ⟨⟨s0, s1, s2, s3, s4⟩, ⟨y0, y1, y2, y3⟩, ⟨r0, r1, r2, r3, r4⟩, ⟨f0, f1, f2, f3, f4⟩, ⟨g0, g1, g2, g3, g4⟩⟩ := h3.cells
  go_wp2_with (go_at_call 27; first | (rw [hw0]; refine hcc.mono ?_) | refine hcc.mono ?_; rintro e w1 ⟨rfl, hb1⟩; clear s0 s1 s2 s3 s4 y0 y1 y2 y3 r0 r1 r2 r3 r4 f0 f1 f2 f3 f4 g0 g1 g2 g3 g4; have h31 := (h3.below hb1).below ((Below.refl _ _).alloc (Nat.le_refl _) (.cells (stC n' a' b'' c' d') 39)); have hB := h31.2.2.2; have hN := Blk.new w1 39 (stC n' a' b'' c' d'); obtain ⟨⟨s0, s1, s2, s3, s4⟩, ⟨y0, y1, y2, y3⟩, ⟨r0, r1, r2, r3, r4⟩, ⟨f0, f1, f2, f3, f4⟩, ⟨g0, g1, g2, g3, g4⟩⟩ := h31.cells; clear hw0)
  have hz0 : w.heap.size + 1 + 1 < w1.heap.size := Nat.lt_of_lt_of_le h3.2.2.1.lt hb1.size
  have hb0 : b < w.heap.size := h.lt.1
  have hr0 : ∀ g, r = some g → g < w.heap.size := fun g hg => (h.lt.2 g hg).2
  have hW3 := h.below hB
  refine (Copy_yes B b size r all dd 1 _ hW3 hd1 hd2 (by omega) hlen).mono ?_
  rintro e w2 ⟨A, cc, r2', rfl, hR⟩
  have hNx := hN.same (hR.keeps hN.lt (by omega) (fun k hk => by have := hr0 _ hk; omega))
  have hRs := h31.2.2.1.same (hR.keeps h31.2.2.1.lt (by omega) (fun k hk => by have := hr0 _ hk; omega))
  have c0 := hNx.cell 0; have c1 := hNx.cell 1; have c2 := hNx.cell 2; have c3 := hNx.cell 3; have c4 := hNx.cell 4
  simp at c0 c1 c2 c3 c4
  have q0 : w2.cell? ⟨w.heap.size + 1 + 1, 0, none⟩ = some (.int .i64 0) := hRs.cell 0
  have u0 : w2.frozen? ⟨w.heap.size + 1 + 1, 0, none⟩ = false := hRs.frozen 0
  have q1 : w2.cell? ⟨w.heap.size + 1 + 1, 1, none⟩ = some (.int .i64 0) := hRs.cell 1
  have u1 : w2.frozen? ⟨w.heap.size + 1 + 1, 1, none⟩ = false := hRs.frozen 1
  have q2 : w2.cell? ⟨w.heap.size + 1 + 1, 2, none⟩ = some (.int .i64 0) := hRs.cell 2
  have u2 : w2.frozen? ⟨w.heap.size + 1 + 1, 2, none⟩ = false := hRs.frozen 2
  have q3 : w2.cell? ⟨w.heap.size + 1 + 1, 3, none⟩ = some (.int .i64 0) := hRs.cell 3
  have u3 : w2.frozen? ⟨w.heap.size + 1 + 1, 3, none⟩ = false := hRs.frozen 3
  have q4 : w2.cell? ⟨w.heap.size + 1 + 1, 4, none⟩ = some (.int .i64 0) := hRs.cell 4
  have u4 : w2.frozen? ⟨w.heap.size + 1 + 1, 4, none⟩ = false := hRs.frozen 4
  have hPost : ∀ wz, Fr (fun k => k = w.heap.size + 1 + 1) w2 wz → ApPost size B b r all ((ext dd 1 all).drop all.length) ⟨n', a', b'', c', d'⟩ 0 w (.returned (.tuple #[.slice A 1 cc, .agg (stC n' a' b'' c' d'), .int .i64 0])) wz := fun wz hz =>
    ApPost.copy (t := ⟨n', a', b'', c', d'⟩) h hB hR (by omega) (by simp only [World.size_alloc]; omega) hz rfl
  clear hNx hRs hW3 hN hB h31 h hl hb0 hlen s0 s1 s2 s3 s4 y0 y1 y2 y3 r0 r1 r2 r3 r4 f0 f1 f2 f3 f4 g0 g1 g2 g3 g4 h3 hcc hr0 hR
  go_wp2_with fail
  go_region
  go_wp2_with fail
  exact bodyPost_ret (v := .tuple #[.slice A 1 cc, .agg (stC n' a' b'' c' d'), .int .i64 0]) (by simp [results, Tryd.results12, go_sem, *]) rfl (hPost _ (fr5 _ _ _ _ _ _ _).drew)
set_option maxHeartbeats 2000000 in
theorem Apply_short_no (B b size : Nat) (r : Option Nat) (all : List UInt8) (s : St) (y : Sy) (w : World) (h : Win w B b r size all) (hl : Laid w) (he : nextE s y = 0) (hk : y.k = 4) (hno : ¬ (1 ≤ s.a ∧ s.a ≤ full size all ∧ 0 ≤ (1 : Int) ∧ (1 : Int) ≤ 273)) :
    Calls Tryd.prog 12 #[.pointer (some ⟨b, 0, none⟩), s.v, y.v] w (ApPost size B b r all [] St.zero 7 w) := by
  have hn := Next_p s y
  rw [he] at hn
  obtain ⟨t, ht⟩ : ∃ t, nextS s y = t := ⟨_, rfl⟩
  rw [ht] at hn
  clear ht he
  obtain ⟨n', a', b'', c', d'⟩ := t
  obtain ⟨n, a, b', c, d⟩ := s
  obtain ⟨k, z, l, x⟩ := y
  simp only [] at hk hno
  subst hk
  have h3 := three_new 39 w n a b' c d 4 (z.toNat : Int) l x
  unfold St.v Sy.v at hn
  unfold Sy.cs at hn
  unfold St.v Sy.v Sy.cs
  simp only [] at hn ⊢
  obtain ⟨w0, hw0⟩ : ∃ w0, (((w.alloc (.cells (stC n a b' c d) 39)).alloc (.cells #[.int .i64 4, .int .u8 (z.toNat : Int), .int .i64 l, .int .i64 x] 38)).alloc (.cells (stC 0 0 0 0 0) 39)) = w0 := ⟨_, rfl⟩
  rw [hw0] at h3
  have hcc := hn w0 (hl.below (h3.2.2.2))
  clear hn
  have H := Lib.hid h
  have Hno := Lib.hid hno
  clear hno
  go_enter Tryd.func12, Tryd.ntmps12
  obtain ⟨⟨s0, s1, s2, s3, s4⟩, ⟨y0, y1, y2, y3⟩, ⟨r0, r1, r2, r3, r4⟩, ⟨f0, f1, f2, f3, f4⟩, ⟨g0, g1, g2, g3, g4⟩⟩ := h3.cells
  go_wp2_with (go_at_call 27; first | (rw [hw0]; refine hcc.mono ?_) | refine hcc.mono ?_; rintro e w1 ⟨rfl, hb1⟩; clear s0 s1 s2 s3 s4 y0 y1 y2 y3 r0 r1 r2 r3 r4 f0 f1 f2 f3 f4 g0 g1 g2 g3 g4; have h31 := (h3.below hb1).below ((Below.refl _ _).alloc (Nat.le_refl _) (.cells (stC n' a' b'' c' d') 39)); have hB := h31.2.2.2; have hN := Blk.new w1 39 (stC n' a' b'' c' d'); obtain ⟨⟨s0, s1, s2, s3, s4⟩, ⟨y0, y1, y2, y3⟩, ⟨r0, r1, r2, r3, r4⟩, ⟨f0, f1, f2, f3, f4⟩, ⟨g0, g1, g2, g3, g4⟩⟩ := h31.cells; clear hw0)
  have hz0 : w.heap.size + 1 + 1 < w1.heap.size := Nat.lt_of_lt_of_le h3.2.2.1.lt hb1.size
  have hb0 : b < w.heap.size := h.lt.1
  have hr0 : ∀ g, r = some g → g < w.heap.size := fun g hg => (h.lt.2 g hg).2
  obtain ⟨⟨s0', s1', s2', s3', s4'⟩, ⟨y0', y1', y2', y3'⟩, ⟨r0', r1', r2', r3', r4'⟩, ⟨f0', f1', f2', f3', f4'⟩, ⟨g0', g1', g2', g3', g4'⟩⟩ := (h3.below hb1).cells
  have hW3 := H.out.below hB
  have hB0 := (h3.below hb1).2.2.2
  refine (Copy_no B b size r all _ _ _ hW3 Hno.out).mono ?_
  rintro e w2 ⟨rfl, rfl⟩
  go_wp2_with fail
  refine bodyPost_ret (v := .tuple #[.slice none 0 0, .agg (stC 0 0 0 0 0), .int .i64 7]) (by simp [results, Tryd.results12, go_sem, *]) rfl (ApPost.nil H.out ((below5 hB0 (up2 _) _ _ _ _ _).alloc (by simp [World.setCell]; omega) _))
set_option maxHeartbeats 2000000 in
theorem Apply_rep0 (B b size : Nat) (r : Option Nat) (all : List UInt8) (s : St) (y : Sy) (w : World) (h : Win w B b r size all) (hl : Laid w) (he : nextE s y = 0) (hk : y.k = 3) (hx : y.x = 0) (dd nn : Nat) (hd : s.a = (dd : Int)) (hnn : y.l = (nn : Int)) (h273 : nn ≤ 273) (hd1 : 1 ≤ dd) (hd2 : dd ≤ full size all) (hlen : all.length < 4611686018427380000) :
    Calls Tryd.prog 12 #[.pointer (some ⟨b, 0, none⟩), s.v, y.v] w (ApPost size B b r all ((ext dd nn all).drop all.length) (nextS s y) 0 w) := by
  have hn := Next_p s y
  rw [he] at hn
  obtain ⟨t, ht⟩ : ∃ t, nextS s y = t := ⟨_, rfl⟩
  rw [ht] at hn ⊢
  clear ht he
  obtain ⟨n', a', b'', c', d'⟩ := t
  obtain ⟨n, a, b', c, d⟩ := s
  obtain ⟨k, z, l, x⟩ := y
  simp only [] at hk hx hd hnn
  subst hk
  subst hx
  subst hd
  subst hnn
  have h3 := three_new 39 w n (dd : Int) b' c d 3 (z.toNat : Int) (nn : Int) 0
  unfold St.v Sy.v at hn
  unfold Sy.cs at hn
  unfold St.v Sy.v Sy.cs
  simp only [] at hn ⊢
  obtain ⟨w0, hw0⟩ : ∃ w0, (((w.alloc (.cells (stC n (dd : Int) b' c d) 39)).alloc (.cells #[.int .i64 3, .int .u8 (z.toNat : Int), .int .i64 (nn : Int), .int .i64 0] 38)).alloc (.cells (stC 0 0 0 0 0) 39)) = w0 := ⟨_, rfl⟩
  rw [hw0] at h3
  have hcc := hn w0 (hl.below (h3.2.2.2))
  clear hn
  have H := Lib.hid h
  go_enter Tryd.func12, Tryd.ntmps12
  obtain ⟨⟨s0, s1, s2, s3, s4⟩, ⟨y0, y1, y2, y3⟩, ⟨r0, r1, r2, r3, r4⟩, ⟨f0, f1, f2, f3, f4⟩, ⟨g0, g1, g2, g3, g4⟩⟩ := h3.cells
  go_wp2_with (go_at_call 27; first | (rw [hw0]; refine hcc.mono ?_) | refine hcc.mono ?_; rintro e w1 ⟨rfl, hb1⟩; clear s0 s1 s2 s3 s4 y0 y1 y2 y3 r0 r1 r2 r3 r4 f0 f1 f2 f3 f4 g0 g1 g2 g3 g4; have h31 := (h3.below hb1).below ((Below.refl _ _).alloc (Nat.le_refl _) (.cells (stC n' a' b'' c' d') 39)); have hB := h31.2.2.2; have hN := Blk.new w1 39 (stC n' a' b'' c' d'); obtain ⟨⟨s0, s1, s2, s3, s4⟩, ⟨y0, y1, y2, y3⟩, ⟨r0, r1, r2, r3, r4⟩, ⟨f0, f1, f2, f3, f4⟩, ⟨g0, g1, g2, g3, g4⟩⟩ := h31.cells; clear hw0)
  have hz0 : w.heap.size + 1 + 1 < w1.heap.size := Nat.lt_of_lt_of_le h3.2.2.1.lt hb1.size
  have hb0 : b < w.heap.size := h.lt.1
  have hr0 : ∀ g, r = some g → g < w.heap.size := fun g hg => (h.lt.2 g hg).2
  obtain ⟨W3, hW3⟩ : ∃ W3, (w1.alloc (.cells (stC n' a' b'' c' d') 39)) = W3 := ⟨_, rfl⟩
  have hs3 : W3.drew.heap.size = w1.heap.size + 1 := by rw [← hW3]; simp
  have hs4 : W3.heap.size = w1.heap.size + 1 := hs3
  rw [hW3] at hN hB h31 s0 s1 s2 s3 s4 y0 y1 y2 y3 r0 r1 r2 r3 r4 f0 f1 f2 f3 f4 g0 g1 g2 g3 g4 ⊢
  clear hW3
  have hW3 := H.out.below (hB.drew)
  have Hq : Hid (∀ A cc r2 w2, CopyRel B b size r all dd W3.drew nn A cc r2 w2 → w2.cell? ⟨w.heap.size + 1, 3, none⟩ = some (.int .i64 0) ∧ w2.cell? ⟨w.heap.size + 1, 2, none⟩ = some (.int .i64 (nn : Int)) ∧ w2.cell? ⟨w.heap.size, 1, none⟩ = some (.int .i64 (dd : Int))) := fun A cc r2 w2 hR => ⟨((h31.drew.2.1.same (hR.keeps h31.drew.2.1.lt (by omega) (fun k hk => by have := hr0 _ hk; omega))).cell 3), ((h31.drew.2.1.same (hR.keeps h31.drew.2.1.lt (by omega) (fun k hk => by have := hr0 _ hk; omega))).cell 2), ((h31.drew.1.same (hR.keeps h31.drew.1.lt (by omega) (fun k hk => by have := hr0 _ hk; omega))).cell 1)⟩
  go_region_held3 (fun w' => w'.cell? ⟨w.heap.size + 1, 3, none⟩ = some (.int .i64 0) ∧ w'.cell? ⟨w.heap.size + 1, 2, none⟩ = some (.int .i64 (nn : Int)) ∧ w'.cell? ⟨w.heap.size, 1, none⟩ = some (.int .i64 (dd : Int)))
    (first | (with_reducible exact ⟨y3, y2, s1⟩) | (with_reducible exact ⟨p3, p2, ps⟩) | go_keep)
    (first | (go_at_call 37; refine (Copy_yes B b size r all dd nn _ hW3 hd1 hd2 h273 hlen).mono ?_; rintro e w2 ⟨A, cc, r2', rfl, hR⟩; obtain ⟨p3, p2, ps⟩ := Hq.out _ _ _ _ hR))
  have hNx := hN.same (hR.keeps hN.lt (by omega) (fun k hk => by have := hr0 _ hk; omega))
  have hRs := h31.2.2.1.same (hR.keeps h31.2.2.1.lt (by omega) (fun k hk => by have := hr0 _ hk; omega))
  have c0 := hNx.cell 0; have c1 := hNx.cell 1; have c2 := hNx.cell 2; have c3 := hNx.cell 3; have c4 := hNx.cell 4
  simp at c0 c1 c2 c3 c4
  have q0 : w2.cell? ⟨w.heap.size + 1 + 1, 0, none⟩ = some (.int .i64 0) := hRs.cell 0
  have u0 : w2.frozen? ⟨w.heap.size + 1 + 1, 0, none⟩ = false := hRs.frozen 0
  have q1 : w2.cell? ⟨w.heap.size + 1 + 1, 1, none⟩ = some (.int .i64 0) := hRs.cell 1
  have u1 : w2.frozen? ⟨w.heap.size + 1 + 1, 1, none⟩ = false := hRs.frozen 1
  have q2 : w2.cell? ⟨w.heap.size + 1 + 1, 2, none⟩ = some (.int .i64 0) := hRs.cell 2
  have u2 : w2.frozen? ⟨w.heap.size + 1 + 1, 2, none⟩ = false := hRs.frozen 2
  have q3 : w2.cell? ⟨w.heap.size + 1 + 1, 3, none⟩ = some (.int .i64 0) := hRs.cell 3
  have u3 : w2.frozen? ⟨w.heap.size + 1 + 1, 3, none⟩ = false := hRs.frozen 3
  have q4 : w2.cell? ⟨w.heap.size + 1 + 1, 4, none⟩ = some (.int .i64 0) := hRs.cell 4
  have u4 : w2.frozen? ⟨w.heap.size + 1 + 1, 4, none⟩ = false := hRs.frozen 4
  have hPost : ∀ wz, Fr (fun k => k = w.heap.size + 1 + 1) w2 wz → ApPost size B b r all ((ext dd nn all).drop all.length) ⟨n', a', b'', c', d'⟩ 0 w (.returned (.tuple #[.slice A nn cc, .agg (stC n' a' b'' c' d'), .int .i64 0])) wz := fun wz hz =>
    ApPost.copy (t := ⟨n', a', b'', c', d'⟩) h hB.drew hR (by omega) (by omega) hz rfl
  clear hNx hRs hW3 hN hB h31 h hl hb0 hlen s0 s1 s2 s3 s4 y0 y1 y2 y3 r0 r1 r2 r3 r4 f0 f1 f2 f3 f4 g0 g1 g2 g3 g4 h3 hcc hr0 hR
  go_wp2_with fail
  go_region
  go_wp2_with fail
  exact bodyPost_ret (v := .tuple #[.slice A nn cc, .agg (stC n' a' b'' c' d'), .int .i64 0]) (by simp [results, Tryd.results12, go_sem, *]) rfl (hPost _ (fr5 _ _ _ _ _ _ _).drew)
set_option maxHeartbeats 2000000 in
theorem Apply_rep0_no (B b size : Nat) (r : Option Nat) (all : List UInt8) (s : St) (y : Sy) (w : World) (h : Win w B b r size all) (hl : Laid w) (he : nextE s y = 0) (hk : y.k = 3) (hx : y.x = 0) (hno : ¬ (1 ≤ s.a ∧ s.a ≤ full size all ∧ 0 ≤ (y.l : Int) ∧ (y.l : Int) ≤ 273)) :
    Calls Tryd.prog 12 #[.pointer (some ⟨b, 0, none⟩), s.v, y.v] w (ApPost size B b r all [] St.zero 7 w) := by
  have hn := Next_p s y
  rw [he] at hn
  obtain ⟨t, ht⟩ : ∃ t, nextS s y = t := ⟨_, rfl⟩
  rw [ht] at hn
  clear ht he
  obtain ⟨n', a', b'', c', d'⟩ := t
  obtain ⟨n, a, b', c, d⟩ := s
  obtain ⟨k, z, l, x⟩ := y
  simp only [] at hk hx hno
  subst hk
  subst hx
  have h3 := three_new 39 w n a b' c d 3 (z.toNat : Int) l 0
  unfold St.v Sy.v at hn
  unfold Sy.cs at hn
  unfold St.v Sy.v Sy.cs
  simp only [] at hn ⊢
  obtain ⟨w0, hw0⟩ : ∃ w0, (((w.alloc (.cells (stC n a b' c d) 39)).alloc (.cells #[.int .i64 3, .int .u8 (z.toNat : Int), .int .i64 l, .int .i64 0] 38)).alloc (.cells (stC 0 0 0 0 0) 39)) = w0 := ⟨_, rfl⟩
  rw [hw0] at h3
  have hcc := hn w0 (hl.below (h3.2.2.2))
  clear hn
  have H := Lib.hid h
  have Hno := Lib.hid hno
  clear hno
  go_enter Tryd.func12, Tryd.ntmps12
  obtain ⟨⟨s0, s1, s2, s3, s4⟩, ⟨y0, y1, y2, y3⟩, ⟨r0, r1, r2, r3, r4⟩, ⟨f0, f1, f2, f3, f4⟩, ⟨g0, g1, g2, g3, g4⟩⟩ := h3.cells
  go_wp2_with (go_at_call 27; first | (rw [hw0]; refine hcc.mono ?_) | refine hcc.mono ?_; rintro e w1 ⟨rfl, hb1⟩; clear s0 s1 s2 s3 s4 y0 y1 y2 y3 r0 r1 r2 r3 r4 f0 f1 f2 f3 f4 g0 g1 g2 g3 g4; have h31 := (h3.below hb1).below ((Below.refl _ _).alloc (Nat.le_refl _) (.cells (stC n' a' b'' c' d') 39)); have hB := h31.2.2.2; have hN := Blk.new w1 39 (stC n' a' b'' c' d'); obtain ⟨⟨s0, s1, s2, s3, s4⟩, ⟨y0, y1, y2, y3⟩, ⟨r0, r1, r2, r3, r4⟩, ⟨f0, f1, f2, f3, f4⟩, ⟨g0, g1, g2, g3, g4⟩⟩ := h31.cells; clear hw0)
  have hz0 : w.heap.size + 1 + 1 < w1.heap.size := Nat.lt_of_lt_of_le h3.2.2.1.lt hb1.size
  have hb0 : b < w.heap.size := h.lt.1
  have hr0 : ∀ g, r = some g → g < w.heap.size := fun g hg => (h.lt.2 g hg).2
  obtain ⟨W3, hW3⟩ : ∃ W3, (w1.alloc (.cells (stC n' a' b'' c' d') 39)) = W3 := ⟨_, rfl⟩
  have hs3 : W3.drew.heap.size = w1.heap.size + 1 := by rw [← hW3]; simp
  have hs4 : W3.heap.size = w1.heap.size + 1 := hs3
  rw [hW3] at hN hB h31 s0 s1 s2 s3 s4 y0 y1 y2 y3 r0 r1 r2 r3 r4 f0 f1 f2 f3 f4 g0 g1 g2 g3 g4 ⊢
  clear hW3
  have hW3 := H.out.below (hB.drew)
  go_region_held3 (fun w' => w'.cell? ⟨w.heap.size + 1, 3, none⟩ = some (.int .i64 0) ∧ w'.cell? ⟨w.heap.size + 1, 2, none⟩ = some (.int .i64 l) ∧ w'.cell? ⟨w.heap.size, 1, none⟩ = some (.int .i64 a))
    (first | (with_reducible exact ⟨y3, y2, s1⟩) | go_keep)
    (first | (go_at_call 37; refine (Copy_no B b size r all _ _ _ hW3 Hno.out).mono ?_; rintro e w2 ⟨rfl, rfl⟩))
  go_wp2_with fail
  refine bodyPost_ret (v := .tuple #[.slice none 0 0, .agg (stC 0 0 0 0 0), .int .i64 7]) (by simp [results, Tryd.results12, go_sem, *]) rfl (ApPost.nil H.out (below5 hB (up2 _) _ _ _ _ _).drew)
set_option maxHeartbeats 2000000 in
theorem Apply_rep1 (B b size : Nat) (r : Option Nat) (all : List UInt8) (s : St) (y : Sy) (w : World) (h : Win w B b r size all) (hl : Laid w) (he : nextE s y = 0) (hk : y.k = 3) (hx : y.x = 1) (dd nn : Nat) (hd : s.b = (dd : Int)) (hnn : y.l = (nn : Int)) (h273 : nn ≤ 273) (hd1 : 1 ≤ dd) (hd2 : dd ≤ full size all) (hlen : all.length < 4611686018427380000) :
    Calls Tryd.prog 12 #[.pointer (some ⟨b, 0, none⟩), s.v, y.v] w (ApPost size B b r all ((ext dd nn all).drop all.length) (nextS s y) 0 w) := by
  have hn := Next_p s y
  rw [he] at hn
  obtain ⟨t, ht⟩ : ∃ t, nextS s y = t := ⟨_, rfl⟩
  rw [ht] at hn ⊢
  clear ht he
  obtain ⟨n', a', b'', c', d'⟩ := t
  obtain ⟨n, a, b', c, d⟩ := s
  obtain ⟨k, z, l, x⟩ := y
  simp only [] at hk hx hd hnn
  subst hk
  subst hx
  subst hd
  subst hnn
  have h3 := three_new 39 w n a (dd : Int) c d 3 (z.toNat : Int) (nn : Int) 1
  unfold St.v Sy.v at hn
  unfold Sy.cs at hn
  unfold St.v Sy.v Sy.cs
  simp only [] at hn ⊢
  obtain ⟨w0, hw0⟩ : ∃ w0, (((w.alloc (.cells (stC n a (dd : Int) c d) 39)).alloc (.cells #[.int .i64 3, .int .u8 (z.toNat : Int), .int .i64 (nn : Int), .int .i64 1] 38)).alloc (.cells (stC 0 0 0 0 0) 39)) = w0 := ⟨_, rfl⟩
  rw [hw0] at h3
  have hcc := hn w0 (hl.below (h3.2.2.2))
  clear hn
  have H := Lib.hid h
  go_enter Tryd.func12, Tryd.ntmps12
  obtain ⟨⟨s0, s1, s2, s3, s4⟩, ⟨y0, y1, y2, y3⟩, ⟨r0, r1, r2, r3, r4⟩, ⟨f0, f1, f2, f3, f4⟩, ⟨g0, g1, g2, g3, g4⟩⟩ := h3.cells
  go_wp2_with (go_at_call 27; first | (rw [hw0]; refine hcc.mono ?_) | refine hcc.mono ?_; rintro e w1 ⟨rfl, hb1⟩; clear s0 s1 s2 s3 s4 y0 y1 y2 y3 r0 r1 r2 r3 r4 f0 f1 f2 f3 f4 g0 g1 g2 g3 g4; have h31 := (h3.below hb1).below ((Below.refl _ _).alloc (Nat.le_refl _) (.cells (stC n' a' b'' c' d') 39)); have hB := h31.2.2.2; have hN := Blk.new w1 39 (stC n' a' b'' c' d'); obtain ⟨⟨s0, s1, s2, s3, s4⟩, ⟨y0, y1, y2, y3⟩, ⟨r0, r1, r2, r3, r4⟩, ⟨f0, f1, f2, f3, f4⟩, ⟨g0, g1, g2, g3, g4⟩⟩ := h31.cells; clear hw0)
  have hz0 : w.heap.size + 1 + 1 < w1.heap.size := Nat.lt_of_lt_of_le h3.2.2.1.lt hb1.size
  have hb0 : b < w.heap.size := h.lt.1
  have hr0 : ∀ g, r = some g → g < w.heap.size := fun g hg => (h.lt.2 g hg).2
  obtain ⟨W3, hW3⟩ : ∃ W3, (w1.alloc (.cells (stC n' a' b'' c' d') 39)) = W3 := ⟨_, rfl⟩
  have hs3 : W3.drew.heap.size = w1.heap.size + 1 := by rw [← hW3]; simp
  have hs4 : W3.heap.size = w1.heap.size + 1 := hs3
  rw [hW3] at hN hB h31 s0 s1 s2 s3 s4 y0 y1 y2 y3 r0 r1 r2 r3 r4 f0 f1 f2 f3 f4 g0 g1 g2 g3 g4 ⊢
  clear hW3
  have hW3 := H.out.below (hB.drew)
  have Hq : Hid (∀ A cc r2 w2, CopyRel B b size r all dd W3.drew nn A cc r2 w2 → w2.cell? ⟨w.heap.size + 1, 3, none⟩ = some (.int .i64 1) ∧ w2.cell? ⟨w.heap.size + 1, 2, none⟩ = some (.int .i64 (nn : Int)) ∧ w2.cell? ⟨w.heap.size, 2, none⟩ = some (.int .i64 (dd : Int))) := fun A cc r2 w2 hR => ⟨((h31.drew.2.1.same (hR.keeps h31.drew.2.1.lt (by omega) (fun k hk => by have := hr0 _ hk; omega))).cell 3), ((h31.drew.2.1.same (hR.keeps h31.drew.2.1.lt (by omega) (fun k hk => by have := hr0 _ hk; omega))).cell 2), ((h31.drew.1.same (hR.keeps h31.drew.1.lt (by omega) (fun k hk => by have := hr0 _ hk; omega))).cell 2)⟩
  go_region_held3 (fun w' => w'.cell? ⟨w.heap.size + 1, 3, none⟩ = some (.int .i64 1) ∧ w'.cell? ⟨w.heap.size + 1, 2, none⟩ = some (.int .i64 (nn : Int)) ∧ w'.cell? ⟨w.heap.size, 2, none⟩ = some (.int .i64 (dd : Int)))
    (first | (with_reducible exact ⟨y3, y2, s2⟩) | (with_reducible exact ⟨p3, p2, ps⟩) | go_keep)
    (first | (go_at_call 37; refine (Copy_yes B b size r all dd nn _ hW3 hd1 hd2 h273 hlen).mono ?_; rintro e w2 ⟨A, cc, r2', rfl, hR⟩; obtain ⟨p3, p2, ps⟩ := Hq.out _ _ _ _ hR))
  have hNx := hN.same (hR.keeps hN.lt (by omega) (fun k hk => by have := hr0 _ hk; omega))
  have hRs := h31.2.2.1.same (hR.keeps h31.2.2.1.lt (by omega) (fun k hk => by have := hr0 _ hk; omega))
  have c0 := hNx.cell 0; have c1 := hNx.cell 1; have c2 := hNx.cell 2; have c3 := hNx.cell 3; have c4 := hNx.cell 4
  simp at c0 c1 c2 c3 c4
  have q0 : w2.cell? ⟨w.heap.size + 1 + 1, 0, none⟩ = some (.int .i64 0) := hRs.cell 0
  have u0 : w2.frozen? ⟨w.heap.size + 1 + 1, 0, none⟩ = false := hRs.frozen 0
  have q1 : w2.cell? ⟨w.heap.size + 1 + 1, 1, none⟩ = some (.int .i64 0) := hRs.cell 1
  have u1 : w2.frozen? ⟨w.heap.size + 1 + 1, 1, none⟩ = false := hRs.frozen 1
  have q2 : w2.cell? ⟨w.heap.size + 1 + 1, 2, none⟩ = some (.int .i64 0) := hRs.cell 2
  have u2 : w2.frozen? ⟨w.heap.size + 1 + 1, 2, none⟩ = false := hRs.frozen 2
  have q3 : w2.cell? ⟨w.heap.size + 1 + 1, 3, none⟩ = some (.int .i64 0) := hRs.cell 3
  have u3 : w2.frozen? ⟨w.heap.size + 1 + 1, 3, none⟩ = false := hRs.frozen 3
  have q4 : w2.cell? ⟨w.heap.size + 1 + 1, 4, none⟩ = some (.int .i64 0) := hRs.cell 4
  have u4 : w2.frozen? ⟨w.heap.size + 1 + 1, 4, none⟩ = false := hRs.frozen 4
  have hPost : ∀ wz, Fr (fun k => k = w.heap.size + 1 + 1) w2 wz → ApPost size B b r all ((ext dd nn all).drop all.length) ⟨n', a', b'', c', d'⟩ 0 w (.returned (.tuple #[.slice A nn cc, .agg (stC n' a' b'' c' d'), .int .i64 0])) wz := fun wz hz =>
    ApPost.copy (t := ⟨n', a', b'', c', d'⟩) h hB.drew hR (by omega) (by omega) hz rfl
  clear hNx hRs hW3 hN hB h31 h hl hb0 hlen s0 s1 s2 s3 s4 y0 y1 y2 y3 r0 r1 r2 r3 r4 f0 f1 f2 f3 f4 g0 g1 g2 g3 g4 h3 hcc hr0 hR
  go_wp2_with fail
  go_region
  go_wp2_with fail
  exact bodyPost_ret (v := .tuple #[.slice A nn cc, .agg (stC n' a' b'' c' d'), .int .i64 0]) (by simp [results, Tryd.results12, go_sem, *]) rfl (hPost _ (fr5 _ _ _ _ _ _ _).drew)
set_option maxHeartbeats 2000000 in
theorem Apply_rep1_no (B b size : Nat) (r : Option Nat) (all : List UInt8) (s : St) (y : Sy) (w : World) (h : Win w B b r size all) (hl : Laid w) (he : nextE s y = 0) (hk : y.k = 3) (hx : y.x = 1) (hno : ¬ (1 ≤ s.b ∧ s.b ≤ full size all ∧ 0 ≤ (y.l : Int) ∧ (y.l : Int) ≤ 273)) :
    Calls Tryd.prog 12 #[.pointer (some ⟨b, 0, none⟩), s.v, y.v] w (ApPost size B b r all [] St.zero 7 w) := by
  have hn := Next_p s y
  rw [he] at hn
  obtain ⟨t, ht⟩ : ∃ t, nextS s y = t := ⟨_, rfl⟩
  rw [ht] at hn
  clear ht he
  obtain ⟨n', a', b'', c', d'⟩ := t
  obtain ⟨n, a, b', c, d⟩ := s
  obtain ⟨k, z, l, x⟩ := y
  simp only [] at hk hx hno
  subst hk
  subst hx
  have h3 := three_new 39 w n a b' c d 3 (z.toNat : Int) l 1
  unfold St.v Sy.v at hn
  unfold Sy.cs at hn
  unfold St.v Sy.v Sy.cs
  simp only [] at hn ⊢
  obtain ⟨w0, hw0⟩ : ∃ w0, (((w.alloc (.cells (stC n a b' c d) 39)).alloc (.cells #[.int .i64 3, .int .u8 (z.toNat : Int), .int .i64 l, .int .i64 1] 38)).alloc (.cells (stC 0 0 0 0 0) 39)) = w0 := ⟨_, rfl⟩
  rw [hw0] at h3
  have hcc := hn w0 (hl.below (h3.2.2.2))
  clear hn
  have H := Lib.hid h
  have Hno := Lib.hid hno
  clear hno
  go_enter Tryd.func12, Tryd.ntmps12
  obtain ⟨⟨s0, s1, s2, s3, s4⟩, ⟨y0, y1, y2, y3⟩, ⟨r0, r1, r2, r3, r4⟩, ⟨f0, f1, f2, f3, f4⟩, ⟨g0, g1, g2, g3, g4⟩⟩ := h3.cells
  go_wp2_with (go_at_call 27; first | (rw [hw0]; refine hcc.mono ?_) | refine hcc.mono ?_; rintro e w1 ⟨rfl, hb1⟩; clear s0 s1 s2 s3 s4 y0 y1 y2 y3 r0 r1 r2 r3 r4 f0 f1 f2 f3 f4 g0 g1 g2 g3 g4; have h31 := (h3.below hb1).below ((Below.refl _ _).alloc (Nat.le_refl _) (.cells (stC n' a' b'' c' d') 39)); have hB := h31.2.2.2; have hN := Blk.new w1 39 (stC n' a' b'' c' d'); obtain ⟨⟨s0, s1, s2, s3, s4⟩, ⟨y0, y1, y2, y3⟩, ⟨r0, r1, r2, r3, r4⟩, ⟨f0, f1, f2, f3, f4⟩, ⟨g0, g1, g2, g3, g4⟩⟩ := h31.cells; clear hw0)
  have hz0 : w.heap.size + 1 + 1 < w1.heap.size := Nat.lt_of_lt_of_le h3.2.2.1.lt hb1.size
  have hb0 : b < w.heap.size := h.lt.1
  have hr0 : ∀ g, r = some g → g < w.heap.size := fun g hg => (h.lt.2 g hg).2
  obtain ⟨W3, hW3⟩ : ∃ W3, (w1.alloc (.cells (stC n' a' b'' c' d') 39)) = W3 := ⟨_, rfl⟩
  have hs3 : W3.drew.heap.size = w1.heap.size + 1 := by rw [← hW3]; simp
  have hs4 : W3.heap.size = w1.heap.size + 1 := hs3
  rw [hW3] at hN hB h31 s0 s1 s2 s3 s4 y0 y1 y2 y3 r0 r1 r2 r3 r4 f0 f1 f2 f3 f4 g0 g1 g2 g3 g4 ⊢
  clear hW3
  have hW3 := H.out.below (hB.drew)
  go_region_held3 (fun w' => w'.cell? ⟨w.heap.size + 1, 3, none⟩ = some (.int .i64 1) ∧ w'.cell? ⟨w.heap.size + 1, 2, none⟩ = some (.int .i64 l) ∧ w'.cell? ⟨w.heap.size, 2, none⟩ = some (.int .i64 b'))
    (first | (with_reducible exact ⟨y3, y2, s2⟩) | go_keep)
    (first | (go_at_call 37; refine (Copy_no B b size r all _ _ _ hW3 Hno.out).mono ?_; rintro e w2 ⟨rfl, rfl⟩))
  go_wp2_with fail
  refine bodyPost_ret (v := .tuple #[.slice none 0 0, .agg (stC 0 0 0 0 0), .int .i64 7]) (by simp [results, Tryd.results12, go_sem, *]) rfl (ApPost.nil H.out (below5 hB (up2 _) _ _ _ _ _).drew)
set_option maxHeartbeats 2000000 in
theorem Apply_rep2 (B b size : Nat) (r : Option Nat) (all : List UInt8) (s : St) (y : Sy) (w : World) (h : Win w B b r size all) (hl : Laid w) (he : nextE s y = 0) (hk : y.k = 3) (hx : y.x = 2) (dd nn : Nat) (hd : s.c = (dd : Int)) (hnn : y.l = (nn : Int)) (h273 : nn ≤ 273) (hd1 : 1 ≤ dd) (hd2 : dd ≤ full size all) (hlen : all.length < 4611686018427380000) :
    Calls Tryd.prog 12 #[.pointer (some ⟨b, 0, none⟩), s.v, y.v] w (ApPost size B b r all ((ext dd nn all).drop all.length) (nextS s y) 0 w) := by
  have hn := Next_p s y
  rw [he] at hn
  obtain ⟨t, ht⟩ : ∃ t, nextS s y = t := ⟨_, rfl⟩
  rw [ht] at hn ⊢
  clear ht he
  obtain ⟨n', a', b'', c', d'⟩ := t
  obtain ⟨n, a, b', c, d⟩ := s
  obtain ⟨k, z, l, x⟩ := y
  simp only [] at hk hx hd hnn
  subst hk
  subst hx
  subst hd
  subst hnn
  have h3 := three_new 39 w n a b' (dd : Int) d 3 (z.toNat : Int) (nn : Int) 2
  unfold St.v Sy.v at hn
  unfold Sy.cs at hn
  unfold St.v Sy.v Sy.cs
  simp only [] at hn ⊢
  obtain ⟨w0, hw0⟩ : ∃ w0, (((w.alloc (.cells (stC n a b' (dd : Int) d) 39)).alloc (.cells #[.int .i64 3, .int .u8 (z.toNat : Int), .int .i64 (nn : Int), .int .i64 2] 38)).alloc (.cells (stC 0 0 0 0 0) 39)) = w0 := ⟨_, rfl⟩
  rw [hw0] at h3
  have hcc := hn w0 (hl.below (h3.2.2.2))
  clear hn
  have H := Lib.hid h
  go_enter Tryd.func12, Tryd.ntmps12
  obtain ⟨⟨s0, s1, s2, s3, s4⟩, ⟨y0, y1, y2, y3⟩, ⟨r0, r1, r2, r3, r4⟩, ⟨f0, f1, f2, f3, f4⟩, ⟨g0, g1, g2, g3, g4⟩⟩ := h3.cells
  go_wp2_with (go_at_call 27; first | (rw [hw0]; refine hcc.mono ?_) | refine hcc.mono ?_; rintro e w1 ⟨rfl, hb1⟩; clear s0 s1 s2 s3 s4 y0 y1 y2 y3 r0 r1 r2 r3 r4 f0 f1 f2 f3 f4 g0 g1 g2 g3 g4; have h31 := (h3.below hb1).below ((Below.refl _ _).alloc (Nat.le_refl _) (.cells (stC n' a' b'' c' d') 39)); have hB := h31.2.2.2; have hN := Blk.new w1 39 (stC n' a' b'' c' d'); obtain ⟨⟨s0, s1, s2, s3, s4⟩, ⟨y0, y1, y2, y3⟩, ⟨r0, r1, r2, r3, r4⟩, ⟨f0, f1, f2, f3, f4⟩, ⟨g0, g1, g2, g3, g4⟩⟩ := h31.cells; clear hw0)
  have hz0 : w.heap.size + 1 + 1 < w1.heap.size := Nat.lt_of_lt_of_le h3.2.2.1.lt hb1.size
  have hb0 : b < w.heap.size := h.lt.1
  have hr0 : ∀ g, r = some g → g < w.heap.size := fun g hg => (h.lt.2 g hg).2
  obtain ⟨W3, hW3⟩ : ∃ W3, (w1.alloc (.cells (stC n' a' b'' c' d') 39)) = W3 := ⟨_, rfl⟩
  have hs3 : W3.drew.heap.size = w1.heap.size + 1 := by rw [← hW3]; simp
  have hs4 : W3.heap.size = w1.heap.size + 1 := hs3
  rw [hW3] at hN hB h31 s0 s1 s2 s3 s4 y0 y1 y2 y3 r0 r1 r2 r3 r4 f0 f1 f2 f3 f4 g0 g1 g2 g3 g4 ⊢
  clear hW3
  have hW3 := H.out.below (hB.drew)
  have Hq : Hid (∀ A cc r2 w2, CopyRel B b size r all dd W3.drew nn A cc r2 w2 → w2.cell? ⟨w.heap.size + 1, 3, none⟩ = some (.int .i64 2) ∧ w2.cell? ⟨w.heap.size + 1, 2, none⟩ = some (.int .i64 (nn : Int)) ∧ w2.cell? ⟨w.heap.size, 3, none⟩ = some (.int .i64 (dd : Int))) := fun A cc r2 w2 hR => ⟨((h31.drew.2.1.same (hR.keeps h31.drew.2.1.lt (by omega) (fun k hk => by have := hr0 _ hk; omega))).cell 3), ((h31.drew.2.1.same (hR.keeps h31.drew.2.1.lt (by omega) (fun k hk => by have := hr0 _ hk; omega))).cell 2), ((h31.drew.1.same (hR.keeps h31.drew.1.lt (by omega) (fun k hk => by have := hr0 _ hk; omega))).cell 3)⟩
  go_region_held3 (fun w' => w'.cell? ⟨w.heap.size + 1, 3, none⟩ = some (.int .i64 2) ∧ w'.cell? ⟨w.heap.size + 1, 2, none⟩ = some (.int .i64 (nn : Int)) ∧ w'.cell? ⟨w.heap.size, 3, none⟩ = some (.int .i64 (dd : Int)))
    (first | (with_reducible exact ⟨y3, y2, s3⟩) | (with_reducible exact ⟨p3, p2, ps⟩) | go_keep)
    (first | (go_at_call 37; refine (Copy_yes B b size r all dd nn _ hW3 hd1 hd2 h273 hlen).mono ?_; rintro e w2 ⟨A, cc, r2', rfl, hR⟩; obtain ⟨p3, p2, ps⟩ := Hq.out _ _ _ _ hR))
  have hNx := hN.same (hR.keeps hN.lt (by omega) (fun k hk => by have := hr0 _ hk; omega))
  have hRs := h31.2.2.1.same (hR.keeps h31.2.2.1.lt (by omega) (fun k hk => by have := hr0 _ hk; omega))
  have c0 := hNx.cell 0; have c1 := hNx.cell 1; have c2 := hNx.cell 2; have c3 := hNx.cell 3; have c4 := hNx.cell 4
  simp at c0 c1 c2 c3 c4
  have q0 : w2.cell? ⟨w.heap.size + 1 + 1, 0, none⟩ = some (.int .i64 0) := hRs.cell 0
  have u0 : w2.frozen? ⟨w.heap.size + 1 + 1, 0, none⟩ = false := hRs.frozen 0
  have q1 : w2.cell? ⟨w.heap.size + 1 + 1, 1, none⟩ = some (.int .i64 0) := hRs.cell 1
  have u1 : w2.frozen? ⟨w.heap.size + 1 + 1, 1, none⟩ = false := hRs.frozen 1
  have q2 : w2.cell? ⟨w.heap.size + 1 + 1, 2, none⟩ = some (.int .i64 0) := hRs.cell 2
  have u2 : w2.frozen? ⟨w.heap.size + 1 + 1, 2, none⟩ = false := hRs.frozen 2
  have q3 : w2.cell? ⟨w.heap.size + 1 + 1, 3, none⟩ = some (.int .i64 0) := hRs.cell 3
  have u3 : w2.frozen? ⟨w.heap.size + 1 + 1, 3, none⟩ = false := hRs.frozen 3
  have q4 : w2.cell? ⟨w.heap.size + 1 + 1, 4, none⟩ = some (.int .i64 0) := hRs.cell 4
  have u4 : w2.frozen? ⟨w.heap.size + 1 + 1, 4, none⟩ = false := hRs.frozen 4
  have hPost : ∀ wz, Fr (fun k => k = w.heap.size + 1 + 1) w2 wz → ApPost size B b r all ((ext dd nn all).drop all.length) ⟨n', a', b'', c', d'⟩ 0 w (.returned (.tuple #[.slice A nn cc, .agg (stC n' a' b'' c' d'), .int .i64 0])) wz := fun wz hz =>
    ApPost.copy (t := ⟨n', a', b'', c', d'⟩) h hB.drew hR (by omega) (by omega) hz rfl
  clear hNx hRs hW3 hN hB h31 h hl hb0 hlen s0 s1 s2 s3 s4 y0 y1 y2 y3 r0 r1 r2 r3 r4 f0 f1 f2 f3 f4 g0 g1 g2 g3 g4 h3 hcc hr0 hR
  go_wp2_with fail
  go_region
  go_wp2_with fail
  exact bodyPost_ret (v := .tuple #[.slice A nn cc, .agg (stC n' a' b'' c' d'), .int .i64 0]) (by simp [results, Tryd.results12, go_sem, *]) rfl (hPost _ (fr5 _ _ _ _ _ _ _).drew)
set_option maxHeartbeats 2000000 in
theorem Apply_rep2_no (B b size : Nat) (r : Option Nat) (all : List UInt8) (s : St) (y : Sy) (w : World) (h : Win w B b r size all) (hl : Laid w) (he : nextE s y = 0) (hk : y.k = 3) (hx : y.x = 2) (hno : ¬ (1 ≤ s.c ∧ s.c ≤ full size all ∧ 0 ≤ (y.l : Int) ∧ (y.l : Int) ≤ 273)) :
    Calls Tryd.prog 12 #[.pointer (some ⟨b, 0, none⟩), s.v, y.v] w (ApPost size B b r all [] St.zero 7 w) := by
  have hn := Next_p s y
  rw [he] at hn
  obtain ⟨t, ht⟩ : ∃ t, nextS s y = t := ⟨_, rfl⟩
  rw [ht] at hn
  clear ht he
  obtain ⟨n', a', b'', c', d'⟩ := t
  obtain ⟨n, a, b', c, d⟩ := s
  obtain ⟨k, z, l, x⟩ := y
  simp only [] at hk hx hno
  subst hk
  subst hx
  have h3 := three_new 39 w n a b' c d 3 (z.toNat : Int) l 2
  unfold St.v Sy.v at hn
  unfold Sy.cs at hn
  unfold St.v Sy.v Sy.cs
  simp only [] at hn ⊢
  obtain ⟨w0, hw0⟩ : ∃ w0, (((w.alloc (.cells (stC n a b' c d) 39)).alloc (.cells #[.int .i64 3, .int .u8 (z.toNat : Int), .int .i64 l, .int .i64 2] 38)).alloc (.cells (stC 0 0 0 0 0) 39)) = w0 := ⟨_, rfl⟩
  rw [hw0] at h3
  have hcc := hn w0 (hl.below (h3.2.2.2))
  clear hn
  have H := Lib.hid h
  have Hno := Lib.hid hno
  clear hno
  go_enter Tryd.func12, Tryd.ntmps12
  obtain ⟨⟨s0, s1, s2, s3, s4⟩, ⟨y0, y1, y2, y3⟩, ⟨r0, r1, r2, r3, r4⟩, ⟨f0, f1, f2, f3, f4⟩, ⟨g0, g1, g2, g3, g4⟩⟩ := h3.cells
  go_wp2_with (go_at_call 27; first | (rw [hw0]; refine hcc.mono ?_) | refine hcc.mono ?_; rintro e w1 ⟨rfl, hb1⟩; clear s0 s1 s2 s3 s4 y0 y1 y2 y3 r0 r1 r2 r3 r4 f0 f1 f2 f3 f4 g0 g1 g2 g3 g4; have h31 := (h3.below hb1).below ((Below.refl _ _).alloc (Nat.le_refl _) (.cells (stC n' a' b'' c' d') 39)); have hB := h31.2.2.2; have hN := Blk.new w1 39 (stC n' a' b'' c' d'); obtain ⟨⟨s0, s1, s2, s3, s4⟩, ⟨y0, y1, y2, y3⟩, ⟨r0, r1, r2, r3, r4⟩, ⟨f0, f1, f2, f3, f4⟩, ⟨g0, g1, g2, g3, g4⟩⟩ := h31.cells; clear hw0)
  have hz0 : w.heap.size + 1 + 1 < w1.heap.size := Nat.lt_of_lt_of_le h3.2.2.1.lt hb1.size
  have hb0 : b < w.heap.size := h.lt.1
  have hr0 : ∀ g, r = some g → g < w.heap.size := fun g hg => (h.lt.2 g hg).2
  obtain ⟨W3, hW3⟩ : ∃ W3, (w1.alloc (.cells (stC n' a' b'' c' d') 39)) = W3 := ⟨_, rfl⟩
  have hs3 : W3.drew.heap.size = w1.heap.size + 1 := by rw [← hW3]; simp
  have hs4 : W3.heap.size = w1.heap.size + 1 := hs3
  rw [hW3] at hN hB h31 s0 s1 s2 s3 s4 y0 y1 y2 y3 r0 r1 r2 r3 r4 f0 f1 f2 f3 f4 g0 g1 g2 g3 g4 ⊢
  clear hW3
  have hW3 := H.out.below (hB.drew)
  go_region_held3 (fun w' => w'.cell? ⟨w.heap.size + 1, 3, none⟩ = some (.int .i64 2) ∧ w'.cell? ⟨w.heap.size + 1, 2, none⟩ = some (.int .i64 l) ∧ w'.cell? ⟨w.heap.size, 3, none⟩ = some (.int .i64 c))
    (first | (with_reducible exact ⟨y3, y2, s3⟩) | go_keep)
    (first | (go_at_call 37; refine (Copy_no B b size r all _ _ _ hW3 Hno.out).mono ?_; rintro e w2 ⟨rfl, rfl⟩))
  go_wp2_with fail
  refine bodyPost_ret (v := .tuple #[.slice none 0 0, .agg (stC 0 0 0 0 0), .int .i64 7]) (by simp [results, Tryd.results12, go_sem, *]) rfl (ApPost.nil H.out (below5 hB (up2 _) _ _ _ _ _).drew)
set_option maxHeartbeats 2000000 in
theorem Apply_rep3 (B b size : Nat) (r : Option Nat) (all : List UInt8) (s : St) (y : Sy) (w : World) (h : Win w B b r size all) (hl : Laid w) (he : nextE s y = 0) (hk : y.k = 3) (hx : y.x = 3) (dd nn : Nat) (hd : s.d = (dd : Int)) (hnn : y.l = (nn : Int)) (h273 : nn ≤ 273) (hd1 : 1 ≤ dd) (hd2 : dd ≤ full size all) (hlen : all.length < 4611686018427380000) :
    Calls Tryd.prog 12 #[.pointer (some ⟨b, 0, none⟩), s.v, y.v] w (ApPost size B b r all ((ext dd nn all).drop all.length) (nextS s y) 0 w) := by
  have hn := Next_p s y
  rw [he] at hn
  obtain ⟨t, ht⟩ : ∃ t, nextS s y = t := ⟨_, rfl⟩
  rw [ht] at hn ⊢
  clear ht he
  obtain ⟨n', a', b'', c', d'⟩ := t
  obtain ⟨n, a, b', c, d⟩ := s
  obtain ⟨k, z, l, x⟩ := y
  simp only [] at hk hx hd hnn
  subst hk
  subst hx
  subst hd
  subst hnn
  have h3 := three_new 39 w n a b' c (dd : Int) 3 (z.toNat : Int) (nn : Int) 3
  unfold St.v Sy.v at hn
  unfold Sy.cs at hn
  unfold St.v Sy.v Sy.cs
  simp only [] at hn ⊢
  obtain ⟨w0, hw0⟩ : ∃ w0, (((w.alloc (.cells (stC n a b' c (dd : Int)) 39)).alloc (.cells #[.int .i64 3, .int .u8 (z.toNat : Int), .int .i64 (nn : Int), .int .i64 3] 38)).alloc (.cells (stC 0 0 0 0 0) 39)) = w0 := ⟨_, rfl⟩
  rw [hw0] at h3
  have hcc := hn w0 (hl.below (h3.2.2.2))
  clear hn
  have H := Lib.hid h
  go_enter Tryd.func12, Tryd.ntmps12
  obtain ⟨⟨s0, s1, s2, s3, s4⟩, ⟨y0, y1, y2, y3⟩, ⟨r0, r1, r2, r3, r4⟩, ⟨f0, f1, f2, f3, f4⟩, ⟨g0, g1, g2, g3, g4⟩⟩ := h3.cells
  go_wp2_with (go_at_call 27; first | (rw [hw0]; refine hcc.mono ?_) | refine hcc.mono ?_; rintro e w1 ⟨rfl, hb1⟩; clear s0 s1 s2 s3 s4 y0 y1 y2 y3 r0 r1 r2 r3 r4 f0 f1 f2 f3 f4 g0 g1 g2 g3 g4; have h31 := (h3.below hb1).below ((Below.refl _ _).alloc (Nat.le_refl _) (.cells (stC n' a' b'' c' d') 39)); have hB := h31.2.2.2; have hN := Blk.new w1 39 (stC n' a' b'' c' d'); obtain ⟨⟨s0, s1, s2, s3, s4⟩, ⟨y0, y1, y2, y3⟩, ⟨r0, r1, r2, r3, r4⟩, ⟨f0, f1, f2, f3, f4⟩, ⟨g0, g1, g2, g3, g4⟩⟩ := h31.cells; clear hw0)
  have hz0 : w.heap.size + 1 + 1 < w1.heap.size := Nat.lt_of_lt_of_le h3.2.2.1.lt hb1.size
  have hb0 : b < w.heap.size := h.lt.1
  have hr0 : ∀ g, r = some g → g < w.heap.size := fun g hg => (h.lt.2 g hg).2
  obtain ⟨W3, hW3⟩ : ∃ W3, (w1.alloc (.cells (stC n' a' b'' c' d') 39)) = W3 := ⟨_, rfl⟩
  have hs3 : W3.drew.heap.size = w1.heap.size + 1 := by rw [← hW3]; simp
  have hs4 : W3.heap.size = w1.heap.size + 1 := hs3
  rw [hW3] at hN hB h31 s0 s1 s2 s3 s4 y0 y1 y2 y3 r0 r1 r2 r3 r4 f0 f1 f2 f3 f4 g0 g1 g2 g3 g4 ⊢
  clear hW3
  have hW3 := H.out.below (hB.drew)
  have Hq : Hid (∀ A cc r2 w2, CopyRel B b size r all dd W3.drew nn A cc r2 w2 → w2.cell? ⟨w.heap.size + 1, 3, none⟩ = some (.int .i64 3) ∧ w2.cell? ⟨w.heap.size + 1, 2, none⟩ = some (.int .i64 (nn : Int)) ∧ w2.cell? ⟨w.heap.size, 4, none⟩ = some (.int .i64 (dd : Int))) := fun A cc r2 w2 hR => ⟨((h31.drew.2.1.same (hR.keeps h31.drew.2.1.lt (by omega) (fun k hk => by have := hr0 _ hk; omega))).cell 3), ((h31.drew.2.1.same (hR.keeps h31.drew.2.1.lt (by omega) (fun k hk => by have := hr0 _ hk; omega))).cell 2), ((h31.drew.1.same (hR.keeps h31.drew.1.lt (by omega) (fun k hk => by have := hr0 _ hk; omega))).cell 4)⟩
  go_region_held3 (fun w' => w'.cell? ⟨w.heap.size + 1, 3, none⟩ = some (.int .i64 3) ∧ w'.cell? ⟨w.heap.size + 1, 2, none⟩ = some (.int .i64 (nn : Int)) ∧ w'.cell? ⟨w.heap.size, 4, none⟩ = some (.int .i64 (dd : Int)))
    (first | (with_reducible exact ⟨y3, y2, s4⟩) | (with_reducible exact ⟨p3, p2, ps⟩) | go_keep)
    (first | (go_at_call 37; refine (Copy_yes B b size r all dd nn _ hW3 hd1 hd2 h273 hlen).mono ?_; rintro e w2 ⟨A, cc, r2', rfl, hR⟩; obtain ⟨p3, p2, ps⟩ := Hq.out _ _ _ _ hR))
  have hNx := hN.same (hR.keeps hN.lt (by omega) (fun k hk => by have := hr0 _ hk; omega))
  have hRs := h31.2.2.1.same (hR.keeps h31.2.2.1.lt (by omega) (fun k hk => by have := hr0 _ hk; omega))
  have c0 := hNx.cell 0; have c1 := hNx.cell 1; have c2 := hNx.cell 2; have c3 := hNx.cell 3; have c4 := hNx.cell 4
  simp at c0 c1 c2 c3 c4
  have q0 : w2.cell? ⟨w.heap.size + 1 + 1, 0, none⟩ = some (.int .i64 0) := hRs.cell 0
  have u0 : w2.frozen? ⟨w.heap.size + 1 + 1, 0, none⟩ = false := hRs.frozen 0
  have q1 : w2.cell? ⟨w.heap.size + 1 + 1, 1, none⟩ = some (.int .i64 0) := hRs.cell 1
  have u1 : w2.frozen? ⟨w.heap.size + 1 + 1, 1, none⟩ = false := hRs.frozen 1
  have q2 : w2.cell? ⟨w.heap.size + 1 + 1, 2, none⟩ = some (.int .i64 0) := hRs.cell 2
  have u2 : w2.frozen? ⟨w.heap.size + 1 + 1, 2, none⟩ = false := hRs.frozen 2
  have q3 : w2.cell? ⟨w.heap.size + 1 + 1, 3, none⟩ = some (.int .i64 0) := hRs.cell 3
  have u3 : w2.frozen? ⟨w.heap.size + 1 + 1, 3, none⟩ = false := hRs.frozen 3
  have q4 : w2.cell? ⟨w.heap.size + 1 + 1, 4, none⟩ = some (.int .i64 0) := hRs.cell 4
  have u4 : w2.frozen? ⟨w.heap.size + 1 + 1, 4, none⟩ = false := hRs.frozen 4
  have hPost : ∀ wz, Fr (fun k => k = w.heap.size + 1 + 1) w2 wz → ApPost size B b r all ((ext dd nn all).drop all.length) ⟨n', a', b'', c', d'⟩ 0 w (.returned (.tuple #[.slice A nn cc, .agg (stC n' a' b'' c' d'), .int .i64 0])) wz := fun wz hz =>
    ApPost.copy (t := ⟨n', a', b'', c', d'⟩) h hB.drew hR (by omega) (by omega) hz rfl
  clear hNx hRs hW3 hN hB h31 h hl hb0 hlen s0 s1 s2 s3 s4 y0 y1 y2 y3 r0 r1 r2 r3 r4 f0 f1 f2 f3 f4 g0 g1 g2 g3 g4 h3 hcc hr0 hR
  go_wp2_with fail
  go_region
  go_wp2_with fail
  exact bodyPost_ret (v := .tuple #[.slice A nn cc, .agg (stC n' a' b'' c' d'), .int .i64 0]) (by simp [results, Tryd.results12, go_sem, *]) rfl (hPost _ (fr5 _ _ _ _ _ _ _).drew)
set_option maxHeartbeats 2000000 in
theorem Apply_rep3_no (B b size : Nat) (r : Option Nat) (all : List UInt8) (s : St) (y : Sy) (w : World) (h : Win w B b r size all) (hl : Laid w) (he : nextE s y = 0) (hk : y.k = 3) (hx : y.x = 3) (hno : ¬ (1 ≤ s.d ∧ s.d ≤ full size all ∧ 0 ≤ (y.l : Int) ∧ (y.l : Int) ≤ 273)) :
    Calls Tryd.prog 12 #[.pointer (some ⟨b, 0, none⟩), s.v, y.v] w (ApPost size B b r all [] St.zero 7 w) := by
  have hn := Next_p s y
  rw [he] at hn
  obtain ⟨t, ht⟩ : ∃ t, nextS s y = t := ⟨_, rfl⟩
  rw [ht] at hn
  clear ht he
  obtain ⟨n', a', b'', c', d'⟩ := t
  obtain ⟨n, a, b', c, d⟩ := s
  obtain ⟨k, z, l, x⟩ := y
  simp only [] at hk hx hno
  subst hk
  subst hx
  have h3 := three_new 39 w n a b' c d 3 (z.toNat : Int) l 3
  unfold St.v Sy.v at hn
  unfold Sy.cs at hn
  unfold St.v Sy.v Sy.cs
  simp only [] at hn ⊢
  obtain ⟨w0, hw0⟩ : ∃ w0, (((w.alloc (.cells (stC n a b' c d) 39)).alloc (.cells #[.int .i64 3, .int .u8 (z.toNat : Int), .int .i64 l, .int .i64 3] 38)).alloc (.cells (stC 0 0 0 0 0) 39)) = w0 := ⟨_, rfl⟩
  rw [hw0] at h3
  have hcc := hn w0 (hl.below (h3.2.2.2))
  clear hn
  have H := Lib.hid h
  have Hno := Lib.hid hno
  clear hno
  go_enter Tryd.func12, Tryd.ntmps12
  obtain ⟨⟨s0, s1, s2, s3, s4⟩, ⟨y0, y1, y2, y3⟩, ⟨r0, r1, r2, r3, r4⟩, ⟨f0, f1, f2, f3, f4⟩, ⟨g0, g1, g2, g3, g4⟩⟩ := h3.cells
  go_wp2_with (go_at_call 27; first | (rw [hw0]; refine hcc.mono ?_) | refine hcc.mono ?_; rintro e w1 ⟨rfl, hb1⟩; clear s0 s1 s2 s3 s4 y0 y1 y2 y3 r0 r1 r2 r3 r4 f0 f1 f2 f3 f4 g0 g1 g2 g3 g4; have h31 := (h3.below hb1).below ((Below.refl _ _).alloc (Nat.le_refl _) (.cells (stC n' a' b'' c' d') 39)); have hB := h31.2.2.2; have hN := Blk.new w1 39 (stC n' a' b'' c' d'); obtain ⟨⟨s0, s1, s2, s3, s4⟩, ⟨y0, y1, y2, y3⟩, ⟨r0, r1, r2, r3, r4⟩, ⟨f0, f1, f2, f3, f4⟩, ⟨g0, g1, g2, g3, g4⟩⟩ := h31.cells; clear hw0)
  have hz0 : w.heap.size + 1 + 1 < w1.heap.size := Nat.lt_of_lt_of_le h3.2.2.1.lt hb1.size
  have hb0 : b < w.heap.size := h.lt.1
  have hr0 : ∀ g, r = some g → g < w.heap.size := fun g hg => (h.lt.2 g hg).2
  obtain ⟨W3, hW3⟩ : ∃ W3, (w1.alloc (.cells (stC n' a' b'' c' d') 39)) = W3 := ⟨_, rfl⟩
  have hs3 : W3.drew.heap.size = w1.heap.size + 1 := by rw [← hW3]; simp
  have hs4 : W3.heap.size = w1.heap.size + 1 := hs3
  rw [hW3] at hN hB h31 s0 s1 s2 s3 s4 y0 y1 y2 y3 r0 r1 r2 r3 r4 f0 f1 f2 f3 f4 g0 g1 g2 g3 g4 ⊢
  clear hW3
  have hW3 := H.out.below (hB.drew)
  go_region_held3 (fun w' => w'.cell? ⟨w.heap.size + 1, 3, none⟩ = some (.int .i64 3) ∧ w'.cell? ⟨w.heap.size + 1, 2, none⟩ = some (.int .i64 l) ∧ w'.cell? ⟨w.heap.size, 4, none⟩ = some (.int .i64 d))
    (first | (with_reducible exact ⟨y3, y2, s4⟩) | go_keep)
    (first | (go_at_call 37; refine (Copy_no B b size r all _ _ _ hW3 Hno.out).mono ?_; rintro e w2 ⟨rfl, rfl⟩))
  go_wp2_with fail
  refine bodyPost_ret (v := .tuple #[.slice none 0 0, .agg (stC 0 0 0 0 0), .int .i64 7]) (by simp [results, Tryd.results12, go_sem, *]) rfl (ApPost.nil H.out (below5 hB (up2 _) _ _ _ _ _).drew)
end Go.Proofs.YthcgchkcanhmnaaDoor
