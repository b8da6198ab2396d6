/-
  Walks of rep and first. Conditions: the piece lies in memory, its finder at the place.
-/
import Derived.Test.YthlflcnpmabmbaaDoorPaA
namespace Go.Proofs.YthlflcnpmabmbaaDoor
open Go.RowKit Go.Shelf
attribute [local go_sem] Oper.semAt_some
set_option maxRecDepth 100000

/-- the longest run of the distances, one after the other -/
def repStep (l : List UInt8) (hi : Nat) (dict : Int) (p : Nat) (b : Nat × Nat) (i : Nat) (d : Int) : Nat × Nat := if 2 ≤ runP l hi dict p d ∧ b.1 < runP l hi dict p d then (runP l hi dict p d, i) else b
def repGo (l : List UInt8) (hi : Nat) (dict : Int) (p : Nat) (s : St) : Nat → Nat × Nat
  | 0 => (0, 0)
  | i + 1 => repStep l hi dict p (repGo l hi dict p s i) i (s.rep (i : Int))
def repP (l : List UInt8) (hi : Nat) (dict : Int) (p : Nat) (s : St) : Nat × Nat := repGo l hi dict p s 4
theorem repGo_bd (l : List UInt8) (hi : Nat) (dict : Int) (p : Nat) (s : St) : ∀ i, (repGo l hi dict p s i).1 ≤ pmost hi p ∧ ((repGo l hi dict p s i).1 = 0 ∨ 2 ≤ (repGo l hi dict p s i).1) ∧ ((repGo l hi dict p s i).2 < i ∨ (repGo l hi dict p s i).2 = 0) := by
  intro i
  induction i with
  | zero => exact ⟨Nat.zero_le _, .inl rfl, .inr rfl⟩
  | succ i ih =>
    unfold repGo repStep
    split
    · exact ⟨runP_le _ _ _ _ _, .inr (by rename_i h; exact h.1), .inl (by show i < i + 1; omega)⟩
    · exact ⟨ih.1, ih.2.1, by rcases ih.2.2 with h | h; exact .inl (by omega); exact .inr h⟩
set_option maxHeartbeats 4000000 in
theorem rep_any (x : Pc) (pos p : Nat) (s : St) (w : World) (h : PIn x pos w) (hp : p ≤ x.hi) :
    Calls Tryd.prog 64 #[.pointer (some ⟨x.cb, 0, none⟩), .int .i64 p, s.v] w fun e w' => e = .returned (.tuple #[.int .i64 ((repP x.l x.hi x.dict p s).1 : Int), .int .i64 ((repP x.l x.hi x.dict p s).2 : Int)]) ∧ Below w.heap.size w w' := by
  have hR : ∀ i, i < 4 → repGo x.l x.hi x.dict p s (i + 1) = repStep x.l x.hi x.dict p (repGo x.l x.hi x.dict p s i) i (s.rep (i : Int)) := fun i _ => rfl
  have hbd := repGo_bd x.l x.hi x.dict p s
  obtain ⟨n, a, b, c, d⟩ := s
  obtain ⟨w1, hw1⟩ : ∃ w1, w.alloc (.cells #[.int .i64 n, .int .i64 a, .int .i64 b, .int .i64 c, .int .i64 d] 37) = w1 := ⟨_, rfl⟩
  have hb1 : Below w.heap.size w w1 := by rw [← hw1]; exact (Below.refl _ _).alloc (Nat.le_refl _) _
  obtain ⟨B, hB⟩ : ∃ B, w.heap.size = B := ⟨_, rfl⟩
  have hBl : Blk w1 B 37 #[.int .i64 n, .int .i64 a, .int .i64 b, .int .i64 c, .int .i64 d] := by rw [← hw1]; exact Blk.new_at hB.symm
  have HP := Lib.hid (h.below hb1)
  have HB1 := Lib.hid hb1
  obtain ⟨⟨y0, y1, y2, y3, y4⟩, _⟩ := st_five hBl
  obtain ⟨G, hG⟩ : ∃ G : Nat → Nat × Nat, repGo x.l x.hi x.dict p ⟨n, a, b, c, d⟩ = G := ⟨_, rfl⟩
  rw [hG] at hR hbd
  have h0 : G 0 = (0, 0) := by rw [← hG]; rfl
  unfold repP
  rw [hG]
  unfold St.v stC
  simp only []
  have HR := Lib.hid hR
  have Hbd := Lib.hid hbd
  have H0 := Lib.hid h0
  have hpb : p ≤ 1073741824 := by have := h.le; omega
  clear h hb1 hBl hG h0 hR hbd
  go_enter Tryd.func64, Tryd.ntmps64
  go_wp2_with fail
  clear hw1 hB
  go_loopw [8, 9, 15] (fun s8 s9 s15 wr => ∃ i : Nat, s15 = .int .i64 (i : Int) ∧ s8 = .int .i64 ((G i).1 : Int) ∧ s9 = .int .i64 ((G i).2 : Int) ∧ i ≤ 4 ∧ ∃ k, wr = w1.drewN k) (fun _ _ s15 _ => 4 - (intOf s15).toNat)
  case atStart => exact ⟨0, rfl, by rw [H0.out]; rfl, by rw [H0.out]; rfl, by omega, 0, rfl⟩
  case round =>
    obtain ⟨i, rfl, rfl, rfl, hi, k0, rfl⟩ := hrel
    by_cases hlt : i < 4
    · have hlt' : (i : Int) < 4 := by omega
      have hst := HR.out i hlt
      unfold repStep at hst
      obtain ⟨di, hdi⟩ : ∃ di, St.rep ⟨n, a, b, c, d⟩ (i : Int) = di := ⟨_, rfl⟩
      have HRn := Lib.hid (prun_any x pos p di (w1.drewN k0) (HP.out.drewN k0) hp)
      rw [hdi] at hst
      obtain ⟨r, hr⟩ : ∃ r, runP x.l x.hi x.dict p di = r := ⟨_, rfl⟩
      rw [hr] at hst HRn
      have hrb : r ≤ 273 := by rw [← hr]; exact Nat.le_trans (runP_le _ _ _ _ _) (by unfold pmost; omega)
      obtain ⟨g1, hg1⟩ : ∃ g1, (G i).1 = g1 := ⟨_, rfl⟩
      obtain ⟨g2, hg2⟩ : ∃ g2, (G i).2 = g2 := ⟨_, rfl⟩
      rw [hg1] at hst
      rw [hg1, hg2]
      have Hst := Lib.hid hst
      have Hg1 := Lib.hid hg1
      have Hg2 := Lib.hid hg2
      clear hr hst hg1 hg2
      have hdv : (i = 0 ∧ di = a) ∨ (i = 1 ∧ di = b) ∨ (i = 2 ∧ di = c) ∨ (i = 3 ∧ di = d) := by
        rcases (by omega : i = 0 ∨ i = 1 ∨ i = 2 ∨ i = 3) with rfl | rfl | rfl | rfl
        · exact .inl ⟨rfl, hdi.symm⟩
        · exact .inr (.inl ⟨rfl, hdi.symm⟩)
        · exact .inr (.inr (.inl ⟨rfl, hdi.symm⟩))
        · exact .inr (.inr (.inr ⟨rfl, hdi.symm⟩))
      clear hdi
      have hix : ∀ (u : World), (Instr.index 35 (.agg #[.int .i64 a, .int .i64 b, .int .i64 c, .int .i64 d]) (.int .i64 (i : Int))).run Tryd.prog u = .ok (.int .i64 di) u := fun u => by
        rcases hdv with ⟨rfl, rfl⟩ | ⟨rfl, rfl⟩ | ⟨rfl, rfl⟩ | ⟨rfl, rfl⟩ <;> kernel_rfl
      clear hdv
      go_wp2_with fail
      refine HRn.out.mono ?_
      rintro e w2 ⟨rfl, k1, rfl⟩
      rw [World.drewN_drewN]
      rcases (by omega : (2 ≤ r ∧ g1 < r) ∨ (¬ 2 ≤ r) ∨ (2 ≤ r ∧ ¬ g1 < r)) with ⟨h2, h3⟩ | h2 | ⟨h2, h3⟩
      · have h2' : (2 : Int) ≤ (r : Int) := by omega
        have h3' : (g1 : Int) < (r : Int) := by omega
        have Hn : Hid (G (i + 1) = (r, i)) := by have := Hst.out; rw [if_pos ⟨h2, h3⟩] at this; exact this
        go_wp2_with fail
        go_roundw
        case rel => exact ⟨i + 1, by go_num, by rw [Hn.out], by rw [Hn.out], by omega, _, rfl⟩
        case measure => simp [intOf]; omega
      · have h2' : ¬ (2 : Int) ≤ (r : Int) := by omega
        have Hn : Hid (G (i + 1) = G i) := by have := Hst.out; rw [if_neg (fun e => h2 e.1)] at this; exact this
        go_wp2_with fail
        go_roundw
        case rel => exact ⟨i + 1, by go_num, by rw [Hn.out, Hg1.out], by rw [Hn.out, Hg2.out], by omega, _, rfl⟩
        case measure => simp [intOf]; omega
      · have h2' : (2 : Int) ≤ (r : Int) := by omega
        have h3' : ¬ (g1 : Int) < (r : Int) := by omega
        have Hn : Hid (G (i + 1) = G i) := by have := Hst.out; rw [if_neg (fun e => h3 e.2)] at this; exact this
        go_wp2_with fail
        go_roundw
        case rel => exact ⟨i + 1, by go_num, by rw [Hn.out, Hg1.out], by rw [Hn.out, Hg2.out], by omega, _, rfl⟩
        case measure => simp [intOf]; omega
    · have h4 : i = 4 := by omega
      have hge : ¬ (i : Int) < 4 := by omega
      have H4 := Lib.hid h4
      clear h4
      go_wp2_with fail
      go_ret2
      obtain rfl := H4.out
      exact ⟨rfl, below_drewN HB1.out k0⟩
/-! ### first -/
def firstP (l : List UInt8) (hi : Nat) (dict : Int) (p : Nat) (s : St) : Sy :=
  if (repP l hi dict p s).1 ≠ 0 ∧ (bestL (mats l dict p (pmost hi p : Int))).1 ≤ (repP l hi dict p s).1 + 1 then ⟨3, 0, ((repP l hi dict p s).1 : Int), ((repP l hi dict p s).2 : Int)⟩
  else if (bestL (mats l dict p (pmost hi p : Int))).1 ≠ 0 then ⟨2, 0, ((bestL (mats l dict p (pmost hi p : Int))).1 : Int), ((bestL (mats l dict p (pmost hi p : Int))).2 : Int)⟩
  else if 0 < runP l hi dict p s.a then ⟨4, 0, 0, 0⟩ else ⟨1, l.getD p 0, 0, 0⟩
theorem bestL_mem {l : List (Nat × Nat)} : bestL l = (0, 0) ∨ bestL l ∈ l := by
  unfold bestL
  have : ∀ (l : List (Nat × Nat)) (b : Nat × Nat), (l.foldl (fun b m => if b.1 < m.1 then m else b) b) = b ∨ (l.foldl (fun b m => if b.1 < m.1 then m else b) b) ∈ l := by
    intro l
    induction l with
    | nil => intro b; exact .inl rfl
    | cons m l ih =>
      intro b
      simp only [List.foldl_cons]
      rcases ih (if b.1 < m.1 then m else b) with h | h
      · rw [h]
        split
        · exact .inr (List.mem_cons_self ..)
        · exact .inl rfl
      · exact .inr (List.mem_cons_of_mem _ h)
  exact this l (0, 0)
theorem mats_mem {l : List UInt8} {dict : Int} {p : Nat} {most : Int} {m : Nat × Nat} (h : m ∈ mats l dict p most) : 1 ≤ m.2 ∧ m.2 ≤ p ∧ (m.2 : Int) ≤ dict ∧ 3 ≤ m.1 ∧ m.1 ≤ lft l p most := by
  obtain ⟨i, hi⟩ := List.getElem?_of_mem h
  obtain ⟨h1, h2, h3, _, h5, h6, _⟩ := mats_at hi
  exact ⟨h1, h2, h3, h5, by rw [h6]; exact ext_le _ _ _ _⟩
theorem best_bd (l : List UInt8) (dict : Int) (p : Nat) (most : Int) : bestL (mats l dict p most) = (0, 0) ∨ (3 ≤ (bestL (mats l dict p most)).1 ∧ (bestL (mats l dict p most)).1 ≤ lft l p most ∧ 1 ≤ (bestL (mats l dict p most)).2 ∧ (bestL (mats l dict p most)).2 ≤ p ∧ ((bestL (mats l dict p most)).2 : Int) ≤ dict) := by
  rcases bestL_mem (l := mats l dict p most) with h | h
  · exact .inl h
  · obtain ⟨h1, h2, h3, h4, h5⟩ := mats_mem h
    exact .inr ⟨h4, h5, h1, h2, h3⟩
/-- what comes first can be told by any right state -/
theorem firstP_ok (l : List UInt8) (hi : Nat) (dict : Int) (p : Nat) (s : St) (h : s.right) (hd : dict ≤ 4294967295) : nextE s (firstP l hi dict p s) = 0 ∧ max 1 (firstP l hi dict p s).l ≤ max 1 (pmost hi p : Int) ∧ 0 ≤ (firstP l hi dict p s).l := by
  have hE : ∀ y : Sy, nextE s y = formedN y.k y.l y.x := fun y => by unfold nextE; rw [if_pos h]
  obtain ⟨b1, b2, b3⟩ := repGo_bd l hi dict p s 4
  have hm := best_bd l dict p (pmost hi p : Int)
  have hlf : lft l p (pmost hi p : Int) ≤ pmost hi p := by unfold lft; omega
  have hpm : pmost hi p ≤ 273 := by unfold pmost; omega
  rw [hE]
  unfold firstP
  have e4 : repP l hi dict p s = repGo l hi dict p s 4 := rfl
  rw [e4]
  split
  · rename_i h1
    simp only []
    refine ⟨?_, by omega, by omega⟩
    unfold formedN
    rw [if_neg (by decide), if_neg (by decide), if_neg (by decide), if_pos rfl, if_pos ⟨by unfold isL; omega, by unfold repOk; omega⟩]
  · split
    · rename_i h2
      simp only []
      rcases hm with hm | ⟨m1, m2, m3, m4, m5⟩
      · rw [hm] at h2; exact absurd rfl h2
      · refine ⟨?_, by omega, by omega⟩
        unfold formedN
        rw [if_neg (by decide), if_neg (by decide), if_pos rfl, if_pos ⟨by unfold isL; omega, by unfold isD; omega⟩]
    · split
      · exact ⟨rfl, by simp only []; omega, by simp⟩
      · exact ⟨rfl, by simp only []; omega, by simp⟩
set_option maxHeartbeats 4000000 in
theorem first_any (x : Pc) (p : Nat) (s : St) (w : World) (h : PIn x p w) (hp : p < x.hi) :
    Calls Tryd.prog 42 #[.pointer (some ⟨x.cb, 0, none⟩), .int .i64 p, s.v] w fun e w' => e = .returned (firstP x.l x.hi x.dict p s).v ∧ Below w.heap.size w w' := by
  obtain ⟨R, hR⟩ : ∃ R, repP x.l x.hi x.dict p s = R := ⟨_, rfl⟩
  obtain ⟨M, hM⟩ : ∃ M, bestL (mats x.l x.dict p (pmost x.hi p : Int)) = M := ⟨_, rfl⟩
  obtain ⟨V, hV⟩ : ∃ V, runP x.l x.hi x.dict p s.a = V := ⟨_, rfl⟩
  have hF : firstP x.l x.hi x.dict p s = if R.1 ≠ 0 ∧ M.1 ≤ R.1 + 1 then ⟨3, 0, (R.1 : Int), (R.2 : Int)⟩ else if M.1 ≠ 0 then ⟨2, 0, (M.1 : Int), (M.2 : Int)⟩ else if 0 < V then ⟨4, 0, 0, 0⟩ else ⟨1, x.l.getD p 0, 0, 0⟩ := by
    unfold firstP; rw [hR, hM, hV]
  have hRb := repGo_bd x.l x.hi x.dict p s 4
  have hRe : repGo x.l x.hi x.dict p s 4 = R := hR
  rw [hRe] at hRb
  have hR273 : R.1 ≤ 273 := Nat.le_trans hRb.1 (by unfold pmost; omega)
  obtain ⟨r1, r2⟩ := R
  obtain ⟨m1, m2⟩ := M
  obtain ⟨Yv, hYv⟩ : ∃ Yv, firstP x.l x.hi x.dict p s = Yv := ⟨_, rfl⟩
  rw [hYv] at hF ⊢
  simp only [] at hR273 hF
  have HF := Lib.hid hF
  clear hF hRb hRe hYv
  have hlen : x.l.length = x.m := h.len
  have hmx := h.le
  obtain ⟨fe, hfe⟩ : ∃ fe, x.q.fb = fe := ⟨_, rfl⟩
  obtain ⟨w1, hw1⟩ : ∃ w1, w.alloc (.cells (stC s.n s.a s.b s.c s.d) 37) = w1 := ⟨_, rfl⟩
  have hb1 : Below w.heap.size w w1 := by rw [← hw1]; exact (Below.refl _ _).alloc (Nat.le_refl _) _
  have hP1 := h.below hb1
  have HRp : Hid (∀ W, Below w.heap.size w W → Calls Tryd.prog 64 #[.pointer (some ⟨x.cb, 0, none⟩), .int .i64 p, s.v] W fun e w' => e = .returned (.tuple #[.int .i64 (r1 : Int), .int .i64 (r2 : Int)]) ∧ Below W.heap.size W w') := fun W hW => by
    have := rep_any x p p s W (h.below hW) (by omega)
    rw [hR] at this
    exact this
  have HMo : Hid (∀ W, Below w.heap.size w W → Calls Tryd.prog 66 #[.pointer (some ⟨x.cb, 0, none⟩), .int .i64 p] W fun e w' => e = .returned (.int .i64 (pmost x.hi p)) ∧ W = w') := fun W hW => most_any x p p W (h.below hW) (by omega)
  have HBe : Hid (∀ W, Below w.heap.size w W → Calls Tryd.prog 65 #[.pointer (some ⟨fe, 0, none⟩), .int .i64 (pmost x.hi p)] W fun e w' => e = .returned (.agg #[.int .i64 (m1 : Int), .int .i64 (m2 : Int)]) ∧ Below W.heap.size W w') := fun W hW => by
    have := Best_any x.q p (pmost x.hi p) W (h.below hW).f (by rw [h.ql, hlen]; omega) (by rw [h.ql, hlen]; omega) (by rw [h.qd]; exact h.di)
    rw [h.ql, h.qd, hM, hfe] at this
    exact this
  have HRu : Hid (∀ W, Below w.heap.size w W → Calls Tryd.prog 67 #[.pointer (some ⟨x.cb, 0, none⟩), .int .i64 p, .int .i64 s.a] W fun e w' => e = .returned (.int .i64 (V : Int)) ∧ ∃ k, w' = W.drewN k) := fun W hW => by
    have := prun_any x p p s.a W (h.below hW) (by omega)
    rw [hV] at this
    exact this
  have HC : Hid (∀ W, Below w.heap.size w W → W.cell? ⟨x.cb, 3, none⟩ = some (.pointer (some ⟨fe, 0, none⟩)) ∧ W.cell? ⟨x.cb, 0, none⟩ = some (.slice x.A x.m x.c)) := fun W hW => ⟨by rw [← hfe]; exact (h.below hW).b.cell 3, (h.below hW).b.cell 0⟩
  have HI : Hid (∀ W, Below w.heap.size w W → In W x.A x.m x.l) := fun W hW => (h.below hW).d
  have HCB : Hid (∀ W, Below w.heap.size w W → x.cb < W.heap.size) := fun W hW => (h.below hW).b.lt
  have hto : x.hi ≤ 1073741824 := by omega
  have hpm : p < x.m := by omega
  obtain ⟨pm, hpmo⟩ : ∃ pm, pmost x.hi p = pm := ⟨_, rfl⟩
  rw [hpmo] at HMo HBe
  obtain ⟨n, a, b, c, d⟩ := s
  unfold St.v stC at HRp
  simp only [] at HRp HRu
  unfold St.v stC
  simp only []
  obtain ⟨w2, hw2⟩ : ∃ w2, (w.alloc (.cells #[.int .i64 n, .int .i64 a, .int .i64 b, .int .i64 c, .int .i64 d] 37)).alloc (.cells #[.int .i64 0, .int .u8 0, .int .i64 0, .int .i64 0] 24) = w2 := ⟨_, rfl⟩
  obtain ⟨B, hB⟩ : ∃ B, w.heap.size = B := ⟨_, rfl⟩
  have hb2 : Below w.heap.size w w2 := by rw [← hw2]; exact ((Below.refl _ _).alloc (Nat.le_refl _) _).alloc (by simp) _
  have hS2 : Blk w2 B 37 #[.int .i64 n, .int .i64 a, .int .i64 b, .int .i64 c, .int .i64 d] := by rw [← hw2]; exact (Blk.new_at hB.symm).alloc _
  have hY2 : Blk w2 (B + 1) 24 #[.int .i64 0, .int .u8 0, .int .i64 0, .int .i64 0] := by rw [← hw2]; exact Blk.new_at (by simp [hB])
  have HB2 := Lib.hid hb2
  have HS2 := Lib.hid hS2
  have HY2 := Lib.hid hY2
  obtain ⟨⟨y0, y1, y2, y3, y4⟩, _⟩ := st_five hS2
  have HBe2 := Lib.hid hB
  clear hR hM hV h hP1 hb1 hw1 hb2 hS2 hY2 hfe hpmo
  go_enter Tryd.func42, Tryd.ntmps42
  go_wp2_with fail
  refine (HRp.out _ HB2.out).mono ?_
  rintro e w3 ⟨rfl, hb3⟩
  have HB3 := Lib.hid (bup HB2.out hb3)
  have HS3 := Lib.hid (HS2.out.below hb3)
  have HY3 := Lib.hid (HY2.out.below hb3)
  obtain ⟨x3, x0⟩ := HC.out w3 HB3.out
  clear y0 y1 y2 y3 y4 hb3 hw2 hB HS2 HY2 HRp
  go_upto_region 2 with (fail)
  have hcb : x.cb < w3.heap.size := HCB.out w3 HB3.out
  have nx : ¬ x.cb = w3.heap.size := by omega
  have nx' : ¬ w3.heap.size = x.cb := by omega
  go_cut [9] from 17 to 24 (fun s9 wy => ∃ X, s9 = .pointer (some ⟨X, 0, none⟩) ∧ Hid (w3.heap.size ≤ X ∧ Blk wy X 98 #[.int .i64 (m1 : Int), .int .i64 (m2 : Int)] ∧ Below w3.heap.size w3 wy))
  case first =>
    go_region_held3 (fun w' => w'.cell? ⟨x.cb, 3, none⟩ = some (.pointer (some ⟨fe, 0, none⟩)))
      (first | (with_reducible exact x3) | (with_reducible exact q3) | go_keep)
      (first | (go_at_call 66; refine (HMo.out _ (by first | (with_reducible exact HB3.out.drew) | (with_reducible exact (bmk HB3.out _).drew))).mono ?_; rintro en wp ⟨rfl, rfl⟩) | (go_at_call 65; refine (HBe.out _ (by first | (with_reducible exact HB3.out.drew) | (with_reducible exact (bmk HB3.out _).drew))).mono ?_; rintro en w4 ⟨rfl, hb4⟩; have hb34 : Below w3.heap.size w3 w4 := (by first | (with_reducible exact bd1 hb4) | (with_reducible exact bd2 hb4)); have q3 : w4.cell? ⟨x.cb, 3, none⟩ = some (.pointer (some ⟨fe, 0, none⟩)) := (HC.out w4 (bup HB3.out hb34)).1; (try (have hz : Blk w4 w3.heap.size 98 #[.int .i64 0, .int .i64 0] := (by with_reducible exact (Blk.new w3 98 #[.int .i64 0, .int .i64 0]).drew.below hb4); have z0 := hz.cell 0; have z1 := hz.cell 1; have f0 := hz.frozen 0; have f1 := hz.frozen 1; have fl := hz.lt))))
    all_goals go_wp2_with fail
    all_goals go_meet
    · exact ⟨_, rfl, hb34.size, Blk.new _ _ _, bmk hb34 _⟩
    · exact ⟨_, rfl, Nat.le_refl _, (hz.set_ 0 _).set_ 1 _, (hb34.setCell (p := ⟨w3.heap.size, 0, none⟩) (Nat.le_refl _) _).setCell (p := ⟨w3.heap.size, 1, none⟩) (Nat.le_refl _) _⟩
    · exact ⟨_, rfl, Nat.le_refl _, (hz.set_ 0 _).set_ 1 _, (hb34.setCell (p := ⟨w3.heap.size, 0, none⟩) (Nat.le_refl _) _).setCell (p := ⟨w3.heap.size, 1, none⟩) (Nat.le_refl _) _⟩
  case rest =>
    obtain ⟨X, rfl, hX⟩ := hcut
    have HBc := Lib.hid (bup HB3.out hX.out.2.2)
    have hY := HY3.out.below hX.out.2.2
    have hS := HS3.out.below hX.out.2.2
    obtain ⟨m0', m1'⟩ := hX.out.2.1.two
    obtain ⟨y0, y1, y2, y3⟩ := hY.four
    obtain ⟨f0, f1, f2, f3⟩ := hY.four_f
    have hyl := hY.lt
    have sa : wc.cell? ⟨B, 1, none⟩ = some (.int .i64 a) := hS.cell 1
    have HY := Lib.hid hY
    have HRc := Lib.hid (HRu.out wc HBc.out)
    obtain ⟨ad, hA, z1⟩ := (HI.out wc HBc.out).at_ (j := p) hpm
    have c0 := (HC.out wc HBc.out).2
    rw [hA] at c0
    have hp0 : (p : Int) < (x.m : Int) := by omega
    have HA := Lib.hid hA
    have HSn := Lib.hid (And.intro HB2.out.size HB3.out.size)
    clear hY hS hX x3 x0 hA HC HI HCB HMo HBe HRu HS3 HY3 hcb nx nx' HB3
    have HBel : Hid (∀ u0 u1 u2 u3 : Value, Below w.heap.size w ((((wc.setCell ⟨B + 1, 0, none⟩ u0).setCell ⟨B + 1, 1, none⟩ u1).setCell ⟨B + 1, 2, none⟩ u2).setCell ⟨B + 1, 3, none⟩ u3)) := fun u0 u1 u2 u3 => by
      have hB : w.heap.size ≤ B + 1 := by have := HBe2.out; omega
      exact (((HBc.out.setCell (p := ⟨B + 1, 0, none⟩) hB _).setCell (p := ⟨B + 1, 1, none⟩) hB _).setCell (p := ⟨B + 1, 2, none⟩) hB _).setCell (p := ⟨B + 1, 3, none⟩) hB _
    have HBew : Hid (∀ (k : Nat) (u0 u1 u2 u3 : Value), Below w.heap.size w (((((wc.drewN k).setCell ⟨B + 1, 0, none⟩ u0).setCell ⟨B + 1, 1, none⟩ u1).setCell ⟨B + 1, 2, none⟩ u2).setCell ⟨B + 1, 3, none⟩ u3)) := fun k u0 u1 u2 u3 => by
      have hB : w.heap.size ≤ B + 1 := by have := HBe2.out; omega
      exact ((((below_drewN HBc.out k).setCell (p := ⟨B + 1, 0, none⟩) hB _).setCell (p := ⟨B + 1, 1, none⟩) hB _).setCell (p := ⟨B + 1, 2, none⟩) hB _).setCell (p := ⟨B + 1, 3, none⟩) hB _
    rcases (by omega : (r1 ≠ 0 ∧ m1 ≤ r1 + 1) ∨ (r1 ≠ 0 ∧ ¬ m1 ≤ r1 + 1) ∨ (r1 = 0 ∧ m1 ≠ 0) ∨ (r1 = 0 ∧ m1 = 0 ∧ 0 < V) ∨ (r1 = 0 ∧ m1 = 0 ∧ V = 0)) with hr | hr | hr | hr | hr
    · have e : Hid (Yv = ⟨3, 0, (r1 : Int), (r2 : Int)⟩) := by show _ = _; rw [HF.out, if_pos hr]
      have hr0 : ((r1 : Int) != 0) = true := by simp; omega
      have hr1 : (m1 : Int) ≤ (r1 : Int) + 1 := by omega
      clear hr
      go_wp2_with fail
      exact bodyPost_ret (v := .agg #[.int .i64 3, .int .u8 0, .int .i64 (r1 : Int), .int .i64 (r2 : Int)]) (by simp [results, Tryd.results42, go_sem, *]) rfl ⟨by rw [e.out]; rfl, HBel.out _ _ _ _⟩
    · have e : Hid (Yv = ⟨2, 0, (m1 : Int), (m2 : Int)⟩) := by show _ = _; rw [HF.out, if_neg (fun h => hr.2 h.2), if_pos (by omega)]
      have hr0 : ((r1 : Int) != 0) = true := by simp; omega
      have hr1 : ¬ (m1 : Int) ≤ (r1 : Int) + 1 := by omega
      have hm0 : ((m1 : Int) != 0) = true := by simp; omega
      clear hr
      go_wp2_with fail
      exact bodyPost_ret (v := .agg #[.int .i64 2, .int .u8 0, .int .i64 (m1 : Int), .int .i64 (m2 : Int)]) (by simp [results, Tryd.results42, go_sem, *]) rfl ⟨by rw [e.out]; rfl, HBel.out _ _ _ _⟩
    · have e : Hid (Yv = ⟨2, 0, (m1 : Int), (m2 : Int)⟩) := by show _ = _; rw [HF.out, if_neg (fun h => h.1 hr.1), if_pos hr.2]
      have hr0 : ((r1 : Int) != 0) = false := by simp; omega
      have hm0 : ((m1 : Int) != 0) = true := by simp; omega
      clear hr
      go_wp2_with fail
      exact bodyPost_ret (v := .agg #[.int .i64 2, .int .u8 0, .int .i64 (m1 : Int), .int .i64 (m2 : Int)]) (by simp [results, Tryd.results42, go_sem, *]) rfl ⟨by rw [e.out]; rfl, HBel.out _ _ _ _⟩
    · have e : Hid (Yv = ⟨4, 0, 0, 0⟩) := by show _ = _; rw [HF.out, if_neg (fun h => h.1 hr.1), if_neg (fun h => h hr.2.1), if_pos hr.2.2]
      have hr0 : ((r1 : Int) != 0) = false := by simp; omega
      have hm0 : ((m1 : Int) != 0) = false := by simp; omega
      have hv0 : (0 : Int) < (V : Int) := by omega
      clear hr
      go_wp2_with fail
      refine HRc.out.mono ?_
      rintro e' w5 ⟨rfl, k5, rfl⟩
      go_wp2_with fail
      exact bodyPost_ret (v := .agg #[.int .i64 4, .int .u8 0, .int .i64 0, .int .i64 0]) (by simp [results, Tryd.results42, go_sem, *]) rfl ⟨by rw [e.out]; rfl, HBew.out _ _ _ _ _⟩
    · have e : Hid (Yv = ⟨1, x.l.getD p 0, 0, 0⟩) := by show _ = _; rw [HF.out, if_neg (fun h => h.1 hr.1), if_neg (fun h => h hr.2.1), if_neg (by omega)]
      have hr0 : ((r1 : Int) != 0) = false := by simp; omega
      have hm0 : ((m1 : Int) != 0) = false := by simp; omega
      have hv0 : ¬ (0 : Int) < (V : Int) := by omega
      clear hr
      go_wp2_with fail
      refine HRc.out.mono ?_
      rintro e' w5 ⟨rfl, k5, rfl⟩
      have z2 : (wc.drewN k5).cell? (ad.add p) = some (.int .u8 ((x.l.getD p 0).toNat : Int)) := z1
      go_wp2_with fail
      exact bodyPost_ret (v := .agg #[.int .i64 1, .int .u8 ((x.l.getD p 0).toNat : Int), .int .i64 0, .int .i64 0]) (by simp [results, Tryd.results42, go_sem, *]) rfl ⟨by rw [e.out]; rfl, HBew.out _ _ _ _ _⟩
end Go.Proofs.YthlflcnpmabmbaaDoor
