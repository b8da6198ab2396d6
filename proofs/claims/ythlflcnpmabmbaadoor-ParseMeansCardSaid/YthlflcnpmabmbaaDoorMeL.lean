/-
  Walk of ParseMeans: it answers true. Conditions: the data lie in memory; the tables as Laid says.
-/
import Derived.Test.YthlflcnpmabmbaaDoorMeM
namespace Go.Proofs.YthlflcnpmabmbaaDoor
open Go.RowKit Go.Shelf
attribute [local go_sem] Oper.semAt_some
set_option maxRecDepth 100000

/-- writing a whole piece over a piece -/
theorem set9_q {w : World} {g t : Nat} {u0 u1 u2 u3 u4 u5 u6 u7 u8 : Value} (h : Blk w g t #[u0, u1, u2, u3, u4, u5, u6, u7, u8]) (v0 v1 v2 v3 v4 v5 v6 v7 v8 : Value) :
    Blk (((((((((w.setCell ⟨g, 0, none⟩ v0).setCell ⟨g, 1, none⟩ v1).setCell ⟨g, 2, none⟩ v2).setCell ⟨g, 3, none⟩ v3).setCell ⟨g, 4, none⟩ v4).setCell ⟨g, 5, none⟩ v5).setCell ⟨g, 6, none⟩ v6).setCell ⟨g, 7, none⟩ v7).setCell ⟨g, 8, none⟩ v8) g t #[v0, v1, v2, v3, v4, v5, v6, v7, v8] := by
  have h0 : Blk (w.setCell ⟨g, 0, none⟩ v0) g t #[v0, u1, u2, u3, u4, u5, u6, u7, u8] := h.set_ 0 v0
  have h1 : Blk ((w.setCell ⟨g, 0, none⟩ v0).setCell ⟨g, 1, none⟩ v1) g t #[v0, v1, u2, u3, u4, u5, u6, u7, u8] := h0.set_ 1 v1
  have h2 : Blk (((w.setCell ⟨g, 0, none⟩ v0).setCell ⟨g, 1, none⟩ v1).setCell ⟨g, 2, none⟩ v2) g t #[v0, v1, v2, u3, u4, u5, u6, u7, u8] := h1.set_ 2 v2
  have h3 : Blk ((((w.setCell ⟨g, 0, none⟩ v0).setCell ⟨g, 1, none⟩ v1).setCell ⟨g, 2, none⟩ v2).setCell ⟨g, 3, none⟩ v3) g t #[v0, v1, v2, v3, u4, u5, u6, u7, u8] := h2.set_ 3 v3
  have h4 : Blk (((((w.setCell ⟨g, 0, none⟩ v0).setCell ⟨g, 1, none⟩ v1).setCell ⟨g, 2, none⟩ v2).setCell ⟨g, 3, none⟩ v3).setCell ⟨g, 4, none⟩ v4) g t #[v0, v1, v2, v3, v4, u5, u6, u7, u8] := h3.set_ 4 v4
  have h5 : Blk ((((((w.setCell ⟨g, 0, none⟩ v0).setCell ⟨g, 1, none⟩ v1).setCell ⟨g, 2, none⟩ v2).setCell ⟨g, 3, none⟩ v3).setCell ⟨g, 4, none⟩ v4).setCell ⟨g, 5, none⟩ v5) g t #[v0, v1, v2, v3, v4, v5, u6, u7, u8] := h4.set_ 5 v5
  have h6 : Blk (((((((w.setCell ⟨g, 0, none⟩ v0).setCell ⟨g, 1, none⟩ v1).setCell ⟨g, 2, none⟩ v2).setCell ⟨g, 3, none⟩ v3).setCell ⟨g, 4, none⟩ v4).setCell ⟨g, 5, none⟩ v5).setCell ⟨g, 6, none⟩ v6) g t #[v0, v1, v2, v3, v4, v5, v6, u7, u8] := h5.set_ 6 v6
  have h7 : Blk ((((((((w.setCell ⟨g, 0, none⟩ v0).setCell ⟨g, 1, none⟩ v1).setCell ⟨g, 2, none⟩ v2).setCell ⟨g, 3, none⟩ v3).setCell ⟨g, 4, none⟩ v4).setCell ⟨g, 5, none⟩ v5).setCell ⟨g, 6, none⟩ v6).setCell ⟨g, 7, none⟩ v7) g t #[v0, v1, v2, v3, v4, v5, v6, v7, u8] := h6.set_ 7 v7
  have h8 : Blk (((((((((w.setCell ⟨g, 0, none⟩ v0).setCell ⟨g, 1, none⟩ v1).setCell ⟨g, 2, none⟩ v2).setCell ⟨g, 3, none⟩ v3).setCell ⟨g, 4, none⟩ v4).setCell ⟨g, 5, none⟩ v5).setCell ⟨g, 6, none⟩ v6).setCell ⟨g, 7, none⟩ v7).setCell ⟨g, 8, none⟩ v8) g t #[v0, v1, v2, v3, v4, v5, v6, v7, v8] := h7.set_ 8 v8
  exact h8
theorem set9_below {a w : World} {g : Nat} (h : Below a.heap.size a w) (hg : a.heap.size ≤ g) (v0 v1 v2 v3 v4 v5 v6 v7 v8 : Value) :
    Below a.heap.size a (((((((((w.setCell ⟨g, 0, none⟩ v0).setCell ⟨g, 1, none⟩ v1).setCell ⟨g, 2, none⟩ v2).setCell ⟨g, 3, none⟩ v3).setCell ⟨g, 4, none⟩ v4).setCell ⟨g, 5, none⟩ v5).setCell ⟨g, 6, none⟩ v6).setCell ⟨g, 7, none⟩ v7).setCell ⟨g, 8, none⟩ v8) :=
  ((((((((h.setCell (p := ⟨g, 0, none⟩) hg _).setCell (p := ⟨g, 1, none⟩) hg _).setCell (p := ⟨g, 2, none⟩) hg _).setCell (p := ⟨g, 3, none⟩) hg _).setCell (p := ⟨g, 4, none⟩) hg _).setCell (p := ⟨g, 5, none⟩) hg _).setCell (p := ⟨g, 6, none⟩) hg _).setCell (p := ⟨g, 7, none⟩) hg _).setCell (p := ⟨g, 8, none⟩) hg _
theorem makes_len {l : List UInt8} {hi : Nat} {dict : Int} {r : List Sy} : ∀ {p : Nat} {s t : St}, makes l hi dict p s r t → p + r.length ≤ hi := by
  induction r with
  | nil => intro p s t h; exact Nat.le_of_eq h.1
  | cons y r ih => intro p s t h; have := ih h.2; have := ysz_pos y; rw [List.length_cons]; omega
set_option maxHeartbeats 8000000 in
theorem means_law (A : Option Addr) (m c : Nat) (l : List UInt8) (fr tz di : Int) (s : St) (w : World) (h : In w A m l) (hmc : m ≤ c) (h0 : m = 0 → A = none ∧ c = 0 ∨ ∃ a, A = some a) (hl : Laid w) :
    Calls Tryd.prog 7 #[.agg (pcC A m c fr tz di s)] w fun e w' => e = .returned (.bool true) ∧ Below w.heap.size w w' := by
  have hgo := good_any A m c fr tz di s
  obtain ⟨nu, ra, rb, rc, rd⟩ := s
  unfold pcC at hgo ⊢
  simp only [] at hgo ⊢
  obtain ⟨B, hB⟩ : ∃ B, w.heap.size = B := ⟨_, rfl⟩
  obtain ⟨w1, hw1⟩ : ∃ w1, w.alloc (.cells #[.slice A m c, .int .i64 fr, .int .i64 tz, .int .i64 di, .int .i64 nu, .int .i64 ra, .int .i64 rb, .int .i64 rc, .int .i64 rd] 45) = w1 := ⟨_, rfl⟩
  have hb1 : Below w.heap.size w w1 := by rw [← hw1]; exact (Below.refl _ _).alloc (Nat.le_refl _) _
  have hP1 : Blk w1 B 45 #[.slice A m c, .int .i64 fr, .int .i64 tz, .int .i64 di, .int .i64 nu, .int .i64 ra, .int .i64 rb, .int .i64 rc, .int .i64 rd] := by rw [← hw1]; exact Blk.new_at hB.symm
  obtain ⟨⟨c0, c1, c2, c3, c4, c5, c6, c7, c8⟩, _, _⟩ := hP1.nine
  have H1 := Lib.hid (And.intro hb1 hP1)
  have HG := Lib.hid (fun w => hgo w hmc)
  have HI := Lib.hid (And.intro h (And.intro hl h0))
  have HBe := Lib.hid hB
  clear h hl h0 hb1 hP1 hgo
  go_enter Tryd.func7, Tryd.ntmps7
  go_wp2_with fail
  clear hw1 hB
  refine (HG.out w1).mono ?_
  rintro e w2 ⟨m', f, t, d, s', rfl, hgp, hb2⟩
  obtain ⟨n', a', b', c', d'⟩ := s'
  simp only []
  have hP2 := H1.out.2.below hb2
  obtain ⟨⟨x0, x1, x2, x3, x4, x5, x6, x7, x8⟩, ⟨f0, f1, f2, f3, f4, f5, f6, f7, f8⟩, fl⟩ := hP2.nine
  obtain ⟨w3, hw3⟩ : ∃ w3, ((((((((w2.setCell ⟨B, 0, none⟩ (.slice A m' c)).setCell ⟨B, 1, none⟩ (.int .i64 f)).setCell ⟨B, 2, none⟩ (.int .i64 t)).setCell ⟨B, 3, none⟩ (.int .i64 d)).setCell ⟨B, 4, none⟩ (.int .i64 n')).setCell ⟨B, 5, none⟩ (.int .i64 a')).setCell ⟨B, 6, none⟩ (.int .i64 b')).setCell ⟨B, 7, none⟩ (.int .i64 c')).setCell ⟨B, 8, none⟩ (.int .i64 d') = w3 := ⟨_, rfl⟩
  have hP3 := set9_q hP2 (.slice A m' c) (.int .i64 f) (.int .i64 t) (.int .i64 d) (.int .i64 n') (.int .i64 a') (.int .i64 b') (.int .i64 c') (.int .i64 d')
  have hB3 := set9_below (g := B) (bup H1.out.1 hb2) (by have := HBe.out; omega) (.slice A m' c) (.int .i64 f) (.int .i64 t) (.int .i64 d) (.int .i64 n') (.int .i64 a') (.int .i64 b') (.int .i64 c') (.int .i64 d')
  rw [hw3] at hP3 hB3
  obtain ⟨g1, g2, g3, g4, g5, g6⟩ := hgp
  have hIn : In w3 A m' (l.take m') := (HI.out.1.below hB3).take (by omega)
  have H3 := Lib.hid (And.intro hP3 (And.intro hB3 (And.intro hIn (And.intro g1 g6))))
  have hm6 : m' ≤ 600 := by omega
  have hmc' : m' ≤ c := by omega
  clear hb2 hP2 hP3 hB3 hIn g1 g6 HG H1
  go_upto_region 2 with (fail)
  try simp only [hw3]
  clear hw3 x0 x1 x2 x3 x4 x5 x6 x7 x8 f0 f1 f2 f3 f4 f5 f6 f7 f8 fl c0 c1 c2 c3 c4 c5 c6 c7 c8
  go_wp2_with fail
  refine (known16_any w3 (HI.out.2.1.below H3.out.2.1)).mono ?_
  rintro e w4 ⟨rfl, hb4⟩
  have H4 : Hid (Blk w4 B 45 #[.slice A m' c, .int .i64 f, .int .i64 t, .int .i64 d, .int .i64 n', .int .i64 a', .int .i64 b', .int .i64 c', .int .i64 d'] ∧ Below w.heap.size w w4 ∧ In w4 A m' (l.take m')) := ⟨H3.out.1.below hb4, bup H3.out.2.1 hb4, H3.out.2.2.1.below hb4⟩
  obtain ⟨⟨c0, c1, c2, c3, c4, c5, c6, c7, c8⟩, _, _⟩ := H4.out.1.nine
  have Hgr : Hid (m' = min m 600 ∧ (⟨n', a', b', c', d'⟩ : St).right) := H3.out.2.2.2
  clear hb4 H3
  obtain ⟨ld, hld⟩ : ∃ ld, l.take m' = ld := ⟨_, rfl⟩
  rw [hld] at H4
  have hmk1 := greedy_makes ld t (d : Int) (by omega) (t - f) f ⟨n', a', b', c', d'⟩ (Nat.le_refl _) g2 Hgr.out.2
  have hst := path_steps ld t (d : Int) (t - f) f (Nat.le_refl _) g2
  have hmk2 := cheap_makes ld t (d : Int) (by omega) _ f ⟨n', a', b', c', d'⟩ hst Hgr.out.2
  have hmk3 := plan_makes ld t (d : Int) (by omega) _ f ⟨n', a', b', c', d'⟩ hst Hgr.out.2
  have h00 : m' = 0 → A = none ∧ c = 0 ∨ ∃ a, A = some a := fun h => HI.out.2.2 (by have := Hgr.out.1; omega)
  have hdd : (1 : Int) ≤ (d : Int) ∧ (d : Int) ≤ 4294967295 := by omega
  have HGr := Lib.hid (fun W (hW : Below w4.heap.size w4 W) => Greedy_ok A m' c ld f t (d : Int) ⟨n', a', b', c', d'⟩ W (H4.out.2.2.below hW) h00 hmc' (by omega) g2 g3 hdd Hgr.out.2 (HI.out.2.1.below (bup H4.out.2.1 hW)))
  have HCh := Lib.hid (fun W (hW : Below w4.heap.size w4 W) => Cheap_ok A m' c ld f t (d : Int) ⟨n', a', b', c', d'⟩ W (H4.out.2.2.below hW) h00 hmc' (by omega) g2 g3 hdd Hgr.out.2 (HI.out.2.1.below (bup H4.out.2.1 hW)))
  have HPl := Lib.hid (fun W (hW : Below w4.heap.size w4 W) => Plan_ok A m' c ld f t (d : Int) W (H4.out.2.2.below hW) h00 hmc' (by omega) g2 g3 hdd (HI.out.2.1.below (bup H4.out.2.1 hW)))
  have hPLe : pathGo (fun p => (planT ld t (d : Int) p).1) t (t - f) f = planL ld f t (d : Int) := rfl
  rw [hPLe] at hst hmk2 hmk3
  have hcl := cheapS_len ld t (d : Int) (planL ld f t (d : Int)) f ⟨n', a', b', c', d'⟩
  obtain ⟨PL, hPL⟩ : ∃ PL, planL ld f t (d : Int) = PL := ⟨_, rfl⟩
  obtain ⟨⟨G1, G2⟩, hG⟩ : ∃ G, greedyGo ld t (d : Int) (t - f) f ⟨n', a', b', c', d'⟩ = G := ⟨_, rfl⟩
  rw [hPL] at HCh HPl hmk2 hmk3 hst hcl
  obtain ⟨⟨C1, C2⟩, hC⟩ : ∃ C, cheapS ld t (d : Int) f ⟨n', a', b', c', d'⟩ PL = C := ⟨_, rfl⟩
  rw [hG] at HGr hmk1
  rw [hC] at HCh hmk2 hcl
  simp only [] at HGr HCh hmk1 hmk2 hcl
  obtain ⟨gn, ga, gb, gc, gd⟩ := G2
  obtain ⟨en, ea, eb, ec, ed⟩ := C2
  simp only [St.v, stC] at HGr HCh
  have hl1 := makes_len hmk1
  have hl2 := makes_len hmk2
  have hl3 := makes_len hmk3
  have HMk := Lib.hid (And.intro hmk1 (And.intro hmk2 (And.intro hmk3 (And.intro hst hcl))))
  have HMe : Hid (∀ (W : World) (L : Option Addr) (n lc : Nat) (ls : List Sy) (T : St), Below w4.heap.size w4 W → InS W L n ls → makes ld t (d : Int) f ⟨n', a', b', c', d'⟩ ls T → Calls Tryd.prog 32 #[.agg #[.slice A m' c, .int .i64 f, .int .i64 t, .int .i64 d, .int .i64 n', .int .i64 a', .int .i64 b', .int .i64 c', .int .i64 d'], .slice L n lc, .agg (stC T.n T.a T.b T.c T.d)] W fun e w' => e = .returned (.bool true) ∧ Below W.heap.size W w') := fun W L n lc ls T hW hIS hmk =>
    means_any A m' c ld f t d ⟨n', a', b', c', d'⟩ L n lc ls T W (H4.out.2.2.below hW) hmc' hm6 g2 g3 ⟨g4, g5⟩ hIS hmk (HI.out.2.1.below (bup H4.out.2.1 hW))
  have hl1' : G1.length ≤ 600 := by omega
  have hl2' : C1.length ≤ 600 := by omega
  have hl3' : PL.length ≤ 600 := by omega
  clear hmk1 hmk2 hmk3 hst hPLe hPL hG hC hld hl1 hl2 hl3 hdd h00 hcl
  go_upto_region 5 with (fail)
  obtain ⟨w5, hw5⟩ : ∃ w5, w4.alloc (.cells #[.int .i64 n', .int .i64 a', .int .i64 b', .int .i64 c', .int .i64 d'] 37) = w5 := ⟨_, rfl⟩
  obtain ⟨S3, hS3⟩ : ∃ S3, w4.heap.size = S3 := ⟨_, rfl⟩
  have hb5 : Below w4.heap.size w4 w5 := by rw [← hw5]; exact (Below.refl _ _).alloc (Nat.le_refl _) _
  have hs5 : Blk w5 S3 37 #[.int .i64 n', .int .i64 a', .int .i64 b', .int .i64 c', .int .i64 d'] := by rw [← hw5]; exact Blk.new_at hS3.symm
  simp only [hw5, hS3]
  have H5 := Lib.hid (And.intro hb5 (And.intro (H4.out.1.below hb5) hs5))
  obtain ⟨⟨c0, c1, c2, c3, c4, c5, c6, c7, c8⟩, _, _⟩ := H5.out.2.1.nine
  obtain ⟨⟨s0, s1, s2, s3, s4⟩, _⟩ := st_five H5.out.2.2
  clear hw5 hb5 hs5 hS3
  go_wp2_with fail
  refine (HGr.out w5 H5.out.1).mono ?_
  rintro e w6 ⟨L1, lc1, rfl, ho1, hb6⟩
  have H6 := Lib.hid (And.intro (bup H5.out.1 hb6) (And.intro (H5.out.2.1.below hb6) (And.intro (H5.out.2.2.below hb6) (InS.of_own ho1 (by omega)))))
  clear ho1 hb6 H5 c0 c1 c2 c3 c4 c5 c6 c7 c8 s0 s1 s2 s3 s4
  go_upto_region 6 with (fail)
  obtain ⟨w7, hw7⟩ : ∃ w7, w6.alloc (.cells #[.int .i64 gn, .int .i64 ga, .int .i64 gb, .int .i64 gc, .int .i64 gd] 37) = w7 := ⟨_, rfl⟩
  obtain ⟨S5, hS5⟩ : ∃ S5, w6.heap.size = S5 := ⟨_, rfl⟩
  have hb7 : Below w6.heap.size w6 w7 := by rw [← hw7]; exact (Below.refl _ _).alloc (Nat.le_refl _) _
  have hs7 : Blk w7 S5 37 #[.int .i64 gn, .int .i64 ga, .int .i64 gb, .int .i64 gc, .int .i64 gd] := by rw [← hw7]; exact Blk.new_at hS5.symm
  simp only [hw7, hS5]
  have H7 := Lib.hid (And.intro (bup H6.out.1 hb7) (And.intro (H6.out.2.1.below hb7) (And.intro (H6.out.2.2.1.below hb7) (And.intro (H6.out.2.2.2.below hb7) hs7))))
  obtain ⟨⟨c0, c1, c2, c3, c4, c5, c6, c7, c8⟩, _, _⟩ := H7.out.2.1.nine
  obtain ⟨⟨s0, s1, s2, s3, s4⟩, _⟩ := st_five H7.out.2.2.1
  clear hw7 hb7 hs7 hS5 H6
  go_wp2_with fail
  refine (HCh.out w7 H7.out.1).mono ?_
  rintro e w8 ⟨L2, lc2, rfl, ho2, hb8⟩
  rw [← HMk.out.2.2.2.2] at ho2 ⊢
  have H8 := Lib.hid (And.intro (bup H7.out.1 hb8) (And.intro (H7.out.2.1.below hb8) (And.intro (H7.out.2.2.1.below hb8) (And.intro (H7.out.2.2.2.1.below hb8) (And.intro (H7.out.2.2.2.2.below hb8) (InS.of_own ho2 (by omega)))))))
  clear ho2 hb8 H7 c0 c1 c2 c3 c4 c5 c6 c7 c8 s0 s1 s2 s3 s4
  go_upto_region 7 with (fail)
  obtain ⟨w9, hw9⟩ : ∃ w9, w8.alloc (.cells #[.int .i64 en, .int .i64 ea, .int .i64 eb, .int .i64 ec, .int .i64 ed] 37) = w9 := ⟨_, rfl⟩
  obtain ⟨S8, hS8⟩ : ∃ S8, w8.heap.size = S8 := ⟨_, rfl⟩
  have hb9 : Below w8.heap.size w8 w9 := by rw [← hw9]; exact (Below.refl _ _).alloc (Nat.le_refl _) _
  have hs9 : Blk w9 S8 37 #[.int .i64 en, .int .i64 ea, .int .i64 eb, .int .i64 ec, .int .i64 ed] := by rw [← hw9]; exact Blk.new_at hS8.symm
  simp only [hw9, hS8]
  have H9 := Lib.hid (And.intro (bup H8.out.1 hb9) (And.intro (H8.out.2.1.below hb9) (And.intro (H8.out.2.2.1.below hb9) (And.intro (H8.out.2.2.2.1.below hb9) (And.intro (H8.out.2.2.2.2.1.below hb9) (And.intro (H8.out.2.2.2.2.2.below hb9) hs9))))))
  obtain ⟨⟨c0, c1, c2, c3, c4, c5, c6, c7, c8⟩, _, _⟩ := H9.out.2.1.nine
  clear hw9 hb9 hs9 hS8 H8
  go_wp2_with fail
  refine (HPl.out w9 H9.out.1).mono ?_
  rintro e w10 ⟨L3, lc3, rfl, ho3, hb10⟩
  have H10 : Hid (∀ W, Below w10.heap.size w10 W → Below w4.heap.size w4 W ∧ Blk W B 45 #[.slice A m' c, .int .i64 f, .int .i64 t, .int .i64 d, .int .i64 n', .int .i64 a', .int .i64 b', .int .i64 c', .int .i64 d'] ∧ Blk W S3 37 #[.int .i64 n', .int .i64 a', .int .i64 b', .int .i64 c', .int .i64 d'] ∧ InS W L1 G1.length G1 ∧ Blk W S5 37 #[.int .i64 gn, .int .i64 ga, .int .i64 gb, .int .i64 gc, .int .i64 gd] ∧ InS W L2 C1.length C1 ∧ Blk W S8 37 #[.int .i64 en, .int .i64 ea, .int .i64 eb, .int .i64 ec, .int .i64 ed] ∧ InS W L3 PL.length PL) := fun W hW => by
    have hx := bup hb10 hW
    exact ⟨bup H9.out.1 hx, H9.out.2.1.below hx, H9.out.2.2.1.below hx, H9.out.2.2.2.1.below hx, H9.out.2.2.2.2.1.below hx, H9.out.2.2.2.2.2.1.below hx, H9.out.2.2.2.2.2.2.below hx, (InS.of_own ho3 (by omega)).below hW⟩
  clear ho3 hb10 H9 c0 c1 c2 c3 c4 c5 c6 c7 c8 HGr HCh HPl
  obtain ⟨k1, k2, k3, k4, k5, k6, k7, k8⟩ := H10.out w10 (Below.refl _ _)
  obtain ⟨⟨c0, c1, c2, c3, c4, c5, c6, c7, c8⟩, _, _⟩ := k2.nine
  obtain ⟨⟨s0, s1, s2, s3, s4⟩, _⟩ := st_five k5
  have HM1 := Lib.hid (HMe.out w10 L1 G1.length lc1 G1 ⟨gn, ga, gb, gc, gd⟩ k1 k4 HMk.out.1)
  clear k1 k2 k3 k4 k5 k6 k7 k8
  simp only [stC] at HM1
  go_upto_region 10 with (first | (go_at_call 32; with_reducible refine HM1.out.mono ?_; rintro e w11 ⟨rfl, hb11⟩; obtain ⟨k1, k2, k3, k4, k5, k6, k7, k8⟩ := H10.out w11 hb11; obtain ⟨⟨c0', c1', c2', c3', c4', c5', c6', c7', c8'⟩, _, _⟩ := k2.nine; obtain ⟨⟨e0, e1, e2, e3, e4⟩, _⟩ := st_five k7; have HM2 := Lib.hid (HMe.out w11 L2 C1.length lc2 C1 ⟨en, ea, eb, ec, ed⟩ k1 k6 HMk.out.2.1); simp only [stC] at HM2) | (go_at_call 32; with_reducible refine HM2.out.mono ?_; rintro e w12 ⟨rfl, hb12⟩))
  have hb12' := bup hb11 hb12
  clear c0 c1 c2 c3 c4 c5 c6 c7 c8 c0' c1' c2' c3' c4' c5' c6' c7' c8' e0 e1 e2 e3 e4 s0 s1 s2 s3 s4 k1 k2 k3 k4 k5 k6 k7 k8 HM1 HM2 hb11 hb12
  obtain ⟨k1, k2, k3, k4, k5, k6, k7, k8⟩ := H10.out w12 hb12'
  obtain ⟨⟨s0, s1, s2, s3, s4⟩, _⟩ := st_five k3
  go_upto_region 11 with (fail)
  obtain ⟨S, hS⟩ : ∃ S, w12.heap.size = S := ⟨_, rfl⟩
  obtain ⟨w13, hw13⟩ : ∃ w13, w12.alloc (.cells #[.int .i64 n', .int .i64 a', .int .i64 b', .int .i64 c', .int .i64 d'] 37) = w13 := ⟨_, rfl⟩
  have hb13 : Below w12.heap.size w12 w13 := by rw [← hw13]; exact (Below.refl _ _).alloc (Nat.le_refl _) _
  have hS13 : Blk w13 S 37 #[.int .i64 n', .int .i64 a', .int .i64 b', .int .i64 c', .int .i64 d'] := by rw [← hw13]; exact Blk.new_at hS.symm
  have hwS : Hid (w4.heap.size ≤ S ∧ w10.heap.size ≤ S ∧ w.heap.size ≤ w4.heap.size) := ⟨by rw [← hS]; exact k1.size, by rw [← hS]; exact hb12'.size, H4.out.2.1.size⟩
  simp only [hw13, hS]
  have H13 : Hid (Blk w13 S 37 (stC n' a' b' c' d') ∧ Below w10.heap.size w10 w13) := ⟨hS13, bup hb12' hb13⟩
  clear hw13 hS hb13 hS13 hb12' s0 s1 s2 s3 s4 k1 k2 k3 k4 k5 k6 k7 k8
  go_wp2_with fail
  go_loopw [93] (fun s93 wr => ∃ (i p : Nat) (T : St), s93 = .int .i64 (i : Int) ∧ i ≤ PL.length ∧ p ≤ t ∧ Hid (T.right ∧ steps ld t (d : Int) p (PL.drop i) ∧ nexts ⟨n', a', b', c', d'⟩ PL = nexts T (PL.drop i)) ∧ Hid (Blk wr S 37 (stC T.n T.a T.b T.c T.d) ∧ Below w10.heap.size w10 wr)) (fun s93 _ => PL.length - (intOf s93).toNat)
  case atStart => exact ⟨0, f, ⟨n', a', b', c', d'⟩, rfl, Nat.zero_le _, g2, ⟨Hgr.out.2, HMk.out.2.2.2.1, rfl⟩, H13.out⟩
  case round =>
    clear H13
    obtain ⟨i, p, T, rfl, hi, hp, HT, HJ⟩ := hrel
    by_cases him : i < PL.length
    · have him' : (i : Int) < (PL.length : Int) := by omega
      obtain ⟨k1, k2, k3, k4, k5, k6, k7, k8⟩ := H10.out wr HJ.out.2
      obtain ⟨yb, yo, y, rfl, hy, hyb, y0, y1, y2, y3⟩ := k8.at him
      rw [← Nat.add_assoc] at y1 y2 y3
      obtain ⟨hr, hst, hnx⟩ := HT.out
      rw [drop_at hy] at hst hnx
      obtain ⟨p1, p2, p3⟩ := hst
      have hok := match_ok hr (by omega) p1 p2
      have hN := Next_p T y
      have hrt := nextS_right hok.1
      rw [hok.1] at hN
      have hk12 : (y.k = 1) ∨ (y.k = 2) := by
        rcases p1 with rfl | ⟨n, d, rfl, _⟩
        · exact .inl rfl
        · exact .inr rfl
      have HT2 : Hid ((nextS T y).right ∧ steps ld t (d : Int) (p + ysz y) (PL.drop (i + 1)) ∧ nexts ⟨n', a', b', c', d'⟩ PL = nexts (nextS T y) (PL.drop (i + 1))) := ⟨hrt, p3, hnx⟩
      obtain ⟨U, hU⟩ : ∃ U, nextS T y = U := ⟨_, rfl⟩
      rw [hU] at hN HT2
      obtain ⟨z, hz⟩ : ∃ z, ysz y = z := ⟨_, rfl⟩
      rw [hz] at HT2 p2
      obtain ⟨yk, yy, yl, yx⟩ := y
      obtain ⟨tn, ta, tb, tc, td⟩ := T
      obtain ⟨un, ua, ub, uc, ud⟩ := U
      unfold St.v Sy.v Sy.cs stC at hN
      simp only [] at hN y0 y1 y2 y3 hk12
      have HN := Lib.hid (fun W (hW : Below wr.heap.size wr W) => hN W (HI.out.2.1.below (bup H4.out.2.1 (bup (H10.out wr HJ.out.2).1 hW))))
      clear k1 k2 k3 k4 k5 k6 k7 k8 hr hnx p1 p3 hok hN hrt hU hz hy
      go_upto_region 13 with (fail)
      go_cut [14] (fun s14 wy => ∃ Yb, s14 = .pointer (some ⟨Yb, 0, none⟩) ∧ Hid (Below wr.heap.size wr wy ∧ Blk wy Yb 24 #[.int .i64 yk, .int .u8 (yy.toNat : Int), .int .i64 yl, .int .i64 yx]))
      case first =>
        go_wp2_with fail
        go_meet
        exact ⟨_, rfl, (Below.refl _ _).alloc (Nat.le_refl _) _, Blk.new _ _ _⟩
      obtain ⟨Yb, rfl, HY⟩ := hcut
      clear y0 y1 y2 y3
      obtain ⟨wd, rfl⟩ : ∃ wd, wd = wc := ⟨_, rfl⟩
      obtain ⟨y0, y1, y2, y3⟩ := HY.out.2.four
      go_step
      go_step
      go_cut [] (fun wy => wy = wd)
      case first =>
        rcases hk12 with rfl | rfl
        · go_wp2_with fail
          go_meet
          rfl
        · go_wp2_with fail
          go_meet
          rfl
      obtain rfl := hcut
      clear hk12
      obtain ⟨⟨b0, b1, b2, b3, b4⟩, _⟩ := st_five (HJ.out.1.below HY.out.1)
      go_wp2_with fail
      refine (HN.out _ HY.out.1).mono ?_
      rintro e wn ⟨rfl, hbn⟩
      obtain ⟨T3, hT3⟩ : ∃ T3, wn.heap.size = T3 := ⟨_, rfl⟩
      obtain ⟨wu, hwu⟩ : ∃ wu, wn.alloc (.cells #[.int .i64 un, .int .i64 ua, .int .i64 ub, .int .i64 uc, .int .i64 ud] 37) = wu := ⟨_, rfl⟩
      have hbu : Below wr.heap.size wr wu := by rw [← hwu]; exact bmk (bup HY.out.1 hbn) _
      have hTu : Blk wu T3 37 #[.int .i64 un, .int .i64 ua, .int .i64 ub, .int .i64 uc, .int .i64 ud] := by rw [← hwu]; exact Blk.new_at hT3.symm
      have hSu := HJ.out.1.below hbu
      have Hu := Lib.hid (And.intro hbu hSu)
      clear b0 b1 b2 b3 b4 y0 y1 y2 y3 hbn HN
      go_upto_region 17 with (fail)
      try simp only [hwu, hT3]
      obtain ⟨⟨t0, t1, t2, t3, t4⟩, _⟩ := st_five hTu
      obtain ⟨⟨b0, b1, b2, b3, b4⟩, ⟨f0, f1, f2, f3, f4⟩⟩ := st_five hSu
      have hSl := hSu.lt
      clear hwu hT3 hbu hTu hSu
      go_wp2_with fail
      go_roundw
      case rel =>
        have h5 := set5_st Hu.out.2 un ua ub uc ud
        have hF : Fr (fun k => k = S) wu (((((wu.setCell ⟨S, 0, none⟩ (.int .i64 un)).setCell ⟨S, 1, none⟩ (.int .i64 ua)).setCell ⟨S, 2, none⟩ (.int .i64 ub)).setCell ⟨S, 3, none⟩ (.int .i64 uc)).setCell ⟨S, 4, none⟩ (.int .i64 ud)) := win.fr5 S wu _ _ _ _ _
        have hbb := bup HJ.out.2 Hu.out.1
        exact ⟨i + 1, p + z, ⟨un, ua, ub, uc, ud⟩, by go_num, by omega, p2, HT2.out, h5, hbb.trans (hF.below hbb.size (fun k e => by have := hwS.out.2.1; omega))⟩
      case measure => simp [intOf]; omega
    · obtain rfl : i = PL.length := by omega
      have hge : ¬ (PL.length : Int) < (PL.length : Int) := by omega
      obtain ⟨k1, k2, k3, k4, k5, k6, k7, k8⟩ := H10.out wr HJ.out.2
      obtain ⟨hr, hst, hnx⟩ := HT.out
      rw [List.drop_of_length_le (Nat.le_refl _)] at hnx
      have hmk : makes ld t (d : Int) f ⟨n', a', b', c', d'⟩ PL T := by
        have := HMk.out.2.2.1
        rw [hnx] at this
        exact this
      have HM3 := Lib.hid (HMe.out wr L3 PL.length lc3 PL T k1 k8 hmk)
      obtain ⟨tn, ta, tb, tc, td⟩ := T
      simp only [stC] at HM3
      obtain ⟨⟨c0, c1, c2, c3, c4, c5, c6, c7, c8⟩, _, _⟩ := k2.nine
      have hTJ := HJ.out.1
      simp only [stC] at hTJ
      obtain ⟨⟨t0, t1, t2, t3, t4⟩, _⟩ := st_five hTJ
      have HF : Hid (Below w.heap.size w wr) := bup H4.out.2.1 k1
      clear k1 k2 k3 k4 k5 k6 k7 k8 hr hst hnx hmk hTJ HT HJ
      go_wp2_with fail
      refine HM3.out.mono ?_
      rintro e wz ⟨rfl, hbz⟩
      go_wp2_with fail
      go_ret
      exact ⟨rfl, bup HF.out hbz⟩
end Go.Proofs.YthlflcnpmabmbaaDoor
