/-
  Walk of told: a plan's step, told by the state. Conditions: the piece lies in memory (its finder may be none).
-/
import Derived.Test.YthlflcnpmabmbaaDoorPaP
namespace Go.Proofs.YthlflcnpmabmbaaDoor
open Go.RowKit Go.Shelf
attribute [local go_sem] Oper.semAt_some
set_option maxRecDepth 100000

def toldP (l : List UInt8) (hi : Nat) (dict : Int) (p : Nat) (y : Sy) (s : St) : Sy :=
  if y.k = 1 then (if 0 < runP l hi dict p s.a then ⟨4, 0, 0, 0⟩ else y)
  else if s.a = y.x then ⟨3, 0, y.l, 0⟩ else if s.b = y.x then ⟨3, 0, y.l, 1⟩ else if s.c = y.x then ⟨3, 0, y.l, 2⟩ else if s.d = y.x then ⟨3, 0, y.l, 3⟩ else y
/-- a step of a plan -/
def planY (y : Sy) : Prop := (∃ c, y = ⟨1, c, 0, 0⟩) ∨ ∃ n d : Nat, y = ⟨2, 0, (n : Int), (d : Int)⟩ ∧ 3 ≤ n ∧ n ≤ 273 ∧ 1 ≤ d ∧ (d : Int) ≤ 4294967295
theorem planT_Y (l : List UInt8) (hi : Nat) (dict : Int) (p : Nat) (h : p < hi) (hd : dict ≤ 4294967295) : planY (planT l hi dict p).1 := by
  rcases planT_ok l hi dict p h with ⟨h1, _⟩ | ⟨n, d, h1, h2, ⟨m, hm, h3, h4⟩, _⟩
  · exact .inl ⟨_, h1⟩
  · obtain ⟨m1, m2, m3, m4, m5⟩ := mats_mem hm
    unfold lft at m5
    exact .inr ⟨n, d, h1, h2, by omega, by omega, by omega⟩
theorem toldP_ok (l : List UInt8) (hi : Nat) (dict : Int) (p : Nat) (y : Sy) (s : St) (h : planY y) (hs : s.right) : nextE s (toldP l hi dict p y s) = 0 ∧ ysz (toldP l hi dict p y s) = ysz y := by
  have hE : ∀ y : Sy, nextE s y = formedN y.k y.l y.x := fun y => by unfold nextE; rw [if_pos hs]
  rw [hE]
  unfold toldP
  rcases h with ⟨c, rfl⟩ | ⟨n, d, rfl, h1, h2, h3, h4⟩
  · rw [if_pos rfl]
    split
    · exact ⟨rfl, rfl⟩
    · exact ⟨rfl, rfl⟩
  · have hL : isL (n : Int) := by unfold isL; omega
    have hD : isD (d : Int) := by unfold isD; omega
    have h3' : ∀ i : Int, 0 ≤ i → i ≤ 3 → formedN 3 (n : Int) i = 0 := fun i a b => by
      unfold formedN
      rw [if_neg (by decide), if_neg (by decide), if_neg (by decide), if_pos rfl, if_pos ⟨hL, by unfold repOk; omega⟩]
    rw [if_neg (show ¬ (2 : Int) = 1 by decide)]
    simp only []
    split
    · exact ⟨h3' 0 (by decide) (by decide), rfl⟩
    · split
      · exact ⟨h3' 1 (by decide) (by decide), rfl⟩
      · split
        · exact ⟨h3' 2 (by decide) (by decide), rfl⟩
        · split
          · exact ⟨h3' 3 (by decide) (by decide), rfl⟩
          · refine ⟨?_, rfl⟩
            show formedN 2 (n : Int) (d : Int) = 0
            rw [formedN_2, if_pos ⟨hL, hD⟩]
/-- the first of the four distances that is x -/
def repAt (s : St) (x : Int) (i : Nat) : Prop := ∀ j : Nat, j < i → s.rep (j : Int) ≠ x
theorem told_lit (x : Pc) (v : Value) (p : Nat) (k l d : Int) (z : UInt8) (s : St) (w : World) (h : PRn x v w) (hp : p ≤ x.hi) (hk : k = 1) :
    Calls Tryd.prog 47 #[.pointer (some ⟨x.cb, 0, none⟩), .int .i64 p, .agg #[.int .i64 k, .int .u8 (z.toNat : Int), .int .i64 l, .int .i64 d], s.v] w fun e w' => e = .returned (toldP x.l x.hi x.dict p ⟨k, z, l, d⟩ s).v ∧ Below w.heap.size w w' := by
  subst hk
  obtain ⟨n, a, b, c, d'⟩ := s
  obtain ⟨w1, hw1⟩ : ∃ w1, ((w.alloc (.cells #[.int .i64 1, .int .u8 (z.toNat : Int), .int .i64 l, .int .i64 d] 24)).alloc (.cells #[.int .i64 n, .int .i64 a, .int .i64 b, .int .i64 c, .int .i64 d'] 37)).alloc (.cells #[.int .i64 0, .int .u8 0, .int .i64 0, .int .i64 0] 24) = w1 := ⟨_, rfl⟩
  have hb1 : Below w.heap.size w w1 := by rw [← hw1]; exact (((Below.refl _ _).alloc (Nat.le_refl _) _).alloc (by simp) _).alloc (by simp; omega) _
  obtain ⟨B, hB⟩ : ∃ B, w.heap.size = B := ⟨_, rfl⟩
  have h0 : Blk w1 B 24 #[.int .i64 1, .int .u8 (z.toNat : Int), .int .i64 l, .int .i64 d] := by rw [← hw1]; exact ((Blk.new_at hB.symm).alloc _).alloc _
  have h1 : Blk w1 (B + 1) 37 #[.int .i64 n, .int .i64 a, .int .i64 b, .int .i64 c, .int .i64 d'] := by rw [← hw1]; exact (Blk.new_at (by simp [hB])).alloc _
  have h2 : Blk w1 (B + 1 + 1) 24 #[.int .i64 0, .int .u8 0, .int .i64 0, .int .i64 0] := by rw [← hw1]; exact Blk.new_at (by simp [hB])
  have hs1 : w1.heap.size = B + 1 + 1 + 1 := by rw [← hw1]; simp [hB]
  have HR := Lib.hid (prun_rn x v p a w1 (h.below hb1) hp)
  obtain ⟨r, hr⟩ : ∃ r, runP x.l x.hi x.dict p a = r := ⟨_, rfl⟩
  rw [hr] at HR
  have hT : toldP x.l x.hi x.dict p ⟨1, z, l, d⟩ ⟨n, a, b, c, d'⟩ = if 0 < r then ⟨4, 0, 0, 0⟩ else ⟨1, z, l, d⟩ := by unfold toldP; rw [if_pos rfl]; simp only []; rw [hr]
  have HT := Lib.hid hT
  have HB := Lib.hid (And.intro hb1 (And.intro h0 (And.intro h2 hs1)))
  obtain ⟨y0, y1, y2, y3⟩ := h0.four
  have s1 : w1.cell? ⟨B + 1, 1, none⟩ = some (.int .i64 a) := h1.cell 1
  unfold St.v stC
  simp only []
  have HBe := Lib.hid hB
  clear h hb1 h0 h1 h2 hr hT
  go_enter Tryd.func47, Tryd.ntmps47
  go_wp2_with fail
  clear hw1 hB
  refine HR.out.mono ?_
  rintro e w2 ⟨rfl, k2, rfl⟩
  obtain ⟨t0, t1, t2, t3⟩ := Blk.four (HB.out.2.2.1.drewN k2)
  obtain ⟨f0, f1, f2, f3⟩ := Blk.four_f (HB.out.2.2.1.drewN k2)
  obtain ⟨z0, z1, z2, z3⟩ := Blk.four (HB.out.2.1.drewN k2)
  have hl : B + 1 + 1 < (w1.drewN k2).heap.size := (HB.out.2.2.1.drewN k2).lt
  have HBl : Hid (∀ u0 u1 u2 u3 : Value, Below w.heap.size w (((((w1.drewN k2).setCell ⟨B + 1 + 1, 0, none⟩ u0).setCell ⟨B + 1 + 1, 1, none⟩ u1).setCell ⟨B + 1 + 1, 2, none⟩ u2).setCell ⟨B + 1 + 1, 3, none⟩ u3)) := fun u0 u1 u2 u3 => by
    have hle : w.heap.size ≤ B + 1 + 1 := by have := HBe.out; omega
    exact ((((below_drewN HB.out.1 k2).setCell (p := ⟨B + 1 + 1, 0, none⟩) hle _).setCell (p := ⟨B + 1 + 1, 1, none⟩) hle _).setCell (p := ⟨B + 1 + 1, 2, none⟩) hle _).setCell (p := ⟨B + 1 + 1, 3, none⟩) hle _
  by_cases h0 : 0 < r
  · have h0' : (0 : Int) < (r : Int) := by omega
    go_wp2_with fail
    exact bodyPost_ret (v := .agg #[.int .i64 4, .int .u8 0, .int .i64 0, .int .i64 0]) (by simp [results, Tryd.results47, go_sem, *]) rfl ⟨by rw [HT.out, if_pos h0]; rfl, HBl.out _ _ _ _⟩
  · have h0' : ¬ (0 : Int) < (r : Int) := by omega
    go_wp2_with fail
    exact bodyPost_ret (v := .agg #[.int .i64 1, .int .u8 (z.toNat : Int), .int .i64 l, .int .i64 d]) (by simp [results, Tryd.results47, go_sem, *]) rfl ⟨by rw [HT.out, if_neg h0]; rfl, HBl.out _ _ _ _⟩
theorem toldP_at (l : List UInt8) (hi : Nat) (dict : Int) (p : Nat) (y : Sy) (s : St) (hk : y.k ≠ 1) (i : Nat) (hi4 : i < 4) (hn : ∀ j : Nat, j < i → s.rep (j : Int) ≠ y.x) (he : s.rep (i : Int) = y.x) : toldP l hi dict p y s = ⟨3, 0, y.l, (i : Int)⟩ := by
  obtain ⟨n, a, b, c, d⟩ := s
  unfold toldP
  rw [if_neg hk]
  simp only []
  rcases (by omega : i = 0 ∨ i = 1 ∨ i = 2 ∨ i = 3) with rfl | rfl | rfl | rfl
  · rw [if_pos (show a = y.x from he)]; rfl
  · rw [if_neg (show ¬ a = y.x from hn 0 (by omega)), if_pos (show b = y.x from he)]; rfl
  · rw [if_neg (show ¬ a = y.x from hn 0 (by omega)), if_neg (show ¬ b = y.x from hn 1 (by omega)), if_pos (show c = y.x from he)]; rfl
  · rw [if_neg (show ¬ a = y.x from hn 0 (by omega)), if_neg (show ¬ b = y.x from hn 1 (by omega)), if_neg (show ¬ c = y.x from hn 2 (by omega)), if_pos (show d = y.x from he)]; rfl
theorem toldP_none (l : List UInt8) (hi : Nat) (dict : Int) (p : Nat) (y : Sy) (s : St) (hk : y.k ≠ 1) (hn : ∀ j : Nat, j < 4 → s.rep (j : Int) ≠ y.x) : toldP l hi dict p y s = y := by
  obtain ⟨n, a, b, c, d⟩ := s
  unfold toldP
  rw [if_neg hk]
  simp only []
  rw [if_neg (show ¬ a = y.x from hn 0 (by omega)), if_neg (show ¬ b = y.x from hn 1 (by omega)), if_neg (show ¬ c = y.x from hn 2 (by omega)), if_neg (show ¬ d = y.x from hn 3 (by omega))]
set_option maxHeartbeats 2000000 in
theorem told_match (cb p : Nat) (X : List UInt8) (hi : Nat) (dict : Int) (k l x : Int) (z : UInt8) (s : St) (w : World) (hk : k ≠ 1) :
    Calls Tryd.prog 47 #[.pointer (some ⟨cb, 0, none⟩), .int .i64 p, .agg #[.int .i64 k, .int .u8 (z.toNat : Int), .int .i64 l, .int .i64 x], s.v] w fun e w' => e = .returned (toldP X hi dict p ⟨k, z, l, x⟩ s).v ∧ Below w.heap.size w w' := by
  have HA := Lib.hid (toldP_at X hi dict p ⟨k, z, l, x⟩ s hk)
  have HN := Lib.hid (toldP_none X hi dict p ⟨k, z, l, x⟩ s hk)
  obtain ⟨T, hT⟩ : ∃ T, toldP X hi dict p ⟨k, z, l, x⟩ s = T := ⟨_, rfl⟩
  rw [hT] at HA HN ⊢
  clear hT
  obtain ⟨n, a, b, c, d⟩ := s
  obtain ⟨w1, hw1⟩ : ∃ w1, ((w.alloc (.cells #[.int .i64 k, .int .u8 (z.toNat : Int), .int .i64 l, .int .i64 x] 24)).alloc (.cells #[.int .i64 n, .int .i64 a, .int .i64 b, .int .i64 c, .int .i64 d] 37)).alloc (.cells #[.int .i64 0, .int .u8 0, .int .i64 0, .int .i64 0] 24) = w1 := ⟨_, rfl⟩
  have hb1 : Below w.heap.size w w1 := by rw [← hw1]; exact (((Below.refl _ _).alloc (Nat.le_refl _) _).alloc (by simp) _).alloc (by simp; omega) _
  obtain ⟨B, hB⟩ : ∃ B, w.heap.size = B := ⟨_, rfl⟩
  have h0 : Blk w1 B 24 #[.int .i64 k, .int .u8 (z.toNat : Int), .int .i64 l, .int .i64 x] := by rw [← hw1]; exact ((Blk.new_at hB.symm).alloc _).alloc _
  have h1 : Blk w1 (B + 1) 37 #[.int .i64 n, .int .i64 a, .int .i64 b, .int .i64 c, .int .i64 d] := by rw [← hw1]; exact (Blk.new_at (by simp [hB])).alloc _
  have h2 : Blk w1 (B + 1 + 1) 24 #[.int .i64 0, .int .u8 0, .int .i64 0, .int .i64 0] := by rw [← hw1]; exact Blk.new_at (by simp [hB])
  have hs1 : w1.heap.size = B + 1 + 1 + 1 := by rw [← hw1]; simp [hB]
  have HB := Lib.hid (And.intro hb1 (And.intro h0 (And.intro h2 hs1)))
  obtain ⟨y0, y1, y2, y3⟩ := h0.four
  obtain ⟨⟨s0, s1, s2, s3, s4⟩, _⟩ := st_five h1
  obtain ⟨t0, t1, t2, t3⟩ := h2.four
  obtain ⟨f0, f1, f2, f3⟩ := Blk.four_f h2
  have hl := h2.lt
  unfold St.v stC
  simp only []
  have HBe := Lib.hid hB
  have HBl : Hid (∀ u0 u1 u2 u3 : Value, Below w.heap.size w ((((w1.setCell ⟨B + 1 + 1, 0, none⟩ u0).setCell ⟨B + 1 + 1, 1, none⟩ u1).setCell ⟨B + 1 + 1, 2, none⟩ u2).setCell ⟨B + 1 + 1, 3, none⟩ u3)) := fun u0 u1 u2 u3 => by
    have hle : w.heap.size ≤ B + 1 + 1 := by omega
    exact (((hb1.setCell (p := ⟨B + 1 + 1, 0, none⟩) hle _).setCell (p := ⟨B + 1 + 1, 1, none⟩) hle _).setCell (p := ⟨B + 1 + 1, 2, none⟩) hle _).setCell (p := ⟨B + 1 + 1, 3, none⟩) hle _
  clear hb1 h0 h1 h2
  go_enter Tryd.func47, Tryd.ntmps47
  go_wp2_with fail
  clear hw1 hB
  go_loopw [25] (fun s25 wr => ∃ i : Nat, s25 = .int .i64 (i : Int) ∧ i ≤ 4 ∧ wr = w1 ∧ Hid (∀ j : Nat, j < i → St.rep ⟨n, a, b, c, d⟩ (j : Int) ≠ x)) (fun s25 _ => 4 - (intOf s25).toNat)
  case atStart => exact ⟨0, rfl, by omega, rfl, fun j hj => absurd hj (Nat.not_lt_zero j)⟩
  case round =>
    obtain ⟨i, rfl, hi, rfl, HJ⟩ := hrel
    by_cases hlt : i < 4
    · have hlt' : (i : Int) < 4 := by omega
      obtain ⟨di, hdi⟩ : ∃ di, St.rep ⟨n, a, b, c, d⟩ (i : Int) = di := ⟨_, rfl⟩
      have Hdi := Lib.hid hdi
      have hdv : (i = 0 ∧ di = a) ∨ (i = 1 ∧ di = b) ∨ (i = 2 ∧ di = c) ∨ (i = 3 ∧ di = d) := by
        rcases (by omega : i = 0 ∨ i = 1 ∨ i = 2 ∨ i = 3) with rfl | rfl | rfl | rfl
        · exact .inl ⟨rfl, hdi.symm⟩
        · exact .inr (.inl ⟨rfl, hdi.symm⟩)
        · exact .inr (.inr (.inl ⟨rfl, hdi.symm⟩))
        · exact .inr (.inr (.inr ⟨rfl, hdi.symm⟩))
      clear hdi
      have hix : ∀ (u : World), (Instr.index 35 (.agg #[.int .i64 a, .int .i64 b, .int .i64 c, .int .i64 d]) (.int .i64 (i : Int))).run Tryd.prog u = .ok (.int .i64 di) u := fun u => by
        rcases hdv with ⟨rfl, rfl⟩ | ⟨rfl, rfl⟩ | ⟨rfl, rfl⟩ | ⟨rfl, rfl⟩ <;> kernel_rfl
      clear hdv
      by_cases he : di = x
      · have he' : (di == x) = true := by simp [he]
        have HT : Hid (T = ⟨3, 0, l, (i : Int)⟩) := HA.out i hlt HJ.out (by show St.rep _ _ = x; rw [Hdi.out, he])
        clear he
        go_wp2_with fail
        exact bodyPost_ret (v := .agg #[.int .i64 3, .int .u8 0, .int .i64 l, .int .i64 (i : Int)]) (by simp [results, Tryd.results47, go_sem, *]) rfl ⟨by rw [HT.out]; rfl, HBl.out _ _ _ _⟩
      · have he' : (di == x) = false := by simp [he]
        have HJ2 : Hid (∀ j : Nat, j < i + 1 → St.rep ⟨n, a, b, c, d⟩ (j : Int) ≠ x) := fun j hj => by
          rcases (by omega : j < i ∨ j = i) with h | h
          · exact HJ.out j h
          · subst h; rw [Hdi.out]; exact he
        clear he
        go_wp2_with fail
        go_roundw
        case rel => exact ⟨i + 1, by go_num, by omega, by simp, HJ2.out⟩
        case measure => simp [intOf]; omega
    · have h4 : i = 4 := by omega
      have hge : ¬ (i : Int) < 4 := by omega
      have HT : Hid (T = ⟨k, z, l, x⟩) := HN.out (fun j hj => HJ.out j (by omega))
      clear h4
      go_wp2_with fail
      exact bodyPost_ret (v := .agg #[.int .i64 k, .int .u8 (z.toNat : Int), .int .i64 l, .int .i64 x]) (by simp [results, Tryd.results47, go_sem, *]) rfl ⟨by rw [HT.out]; rfl, HBl.out _ _ _ _⟩
theorem told_any (x : Pc) (v : Value) (p : Nat) (y : Sy) (s : St) (w : World) (h : PRn x v w) (hp : p ≤ x.hi) :
    Calls Tryd.prog 47 #[.pointer (some ⟨x.cb, 0, none⟩), .int .i64 p, y.v, s.v] w fun e w' => e = .returned (toldP x.l x.hi x.dict p y s).v ∧ Below w.heap.size w w' := by
  obtain ⟨k, z, l, d⟩ := y
  by_cases hk : k = 1
  · exact told_lit x v p k l d z s w h hp hk
  · exact told_match x.cb p x.l x.hi x.dict k l d z s w hk
/-! ### the plan's steps, told one after the other -/
def cheapS (l : List UInt8) (hi : Nat) (dict : Int) : Nat → St → List Sy → List Sy × St
  | _, s, [] => ([], s)
  | p, s, y :: r => (toldP l hi dict p y s :: (cheapS l hi dict (p + ysz y) (nextS s (toldP l hi dict p y s)) r).1, (cheapS l hi dict (p + ysz y) (nextS s (toldP l hi dict p y s)) r).2)
theorem cheapS_len (l : List UInt8) (hi : Nat) (dict : Int) (r : List Sy) : ∀ p s, (cheapS l hi dict p s r).1.length = r.length := by
  induction r with
  | nil => intro p s; rfl
  | cons y r ih => intro p s; simp only [cheapS, List.length_cons]; rw [ih]
end Go.Proofs.YthlflcnpmabmbaaDoor
