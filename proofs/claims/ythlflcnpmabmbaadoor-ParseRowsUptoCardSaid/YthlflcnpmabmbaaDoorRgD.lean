/-
  Walks of the reference's named and Greedy; what it refuses. Conditions: the data lie in memory.
-/
import Derived.Test.YthlflcnpmabmbaaDoorRfC
import Derived.Test.YthlflcnpmabmbaaDoorStNextR
namespace Go.Proofs.YthlflcnpmabmbaaDoor
open Go.RowKit Go.Shelf
attribute [local go_sem] Oper.semAt_some
set_option maxRecDepth 100000

theorem NextR_fn (s : St) (y : Sy) : ∀ w, Calls Tryd.prog 51 #[.agg (stC s.n s.a s.b s.c s.d), .agg #[.int .i64 y.k, .int .u8 (y.y.toNat : Int), .int .i64 y.l, .int .i64 y.x]] w (NPost (.agg (stC (nextS s y).n (nextS s y).a (nextS s y).b (nextS s y).c (nextS s y).d)) (nextE s y) w) := by
  obtain ⟨n, a, b, c, d⟩ := s
  obtain ⟨k, z, l, x⟩ := y
  simp only []
  by_cases h : rightP n a b c d
  · have hE : nextE ⟨n, a, b, c, d⟩ ⟨k, z, l, x⟩ = formedN k l x := if_pos h
    unfold nextS
    rw [hE]
    obtain ⟨q, rfl, hq⟩ := rightP_n h
    by_cases k1 : k = 1
    · subst k1
      exact fun w => NextR_plain q a b c d 1 _ l x h rfl (.inl rfl) w
    · by_cases k4 : k = 4
      · subst k4
        exact fun w => NextR_plain q a b c d 4 _ l x h rfl (.inr rfl) w
      · by_cases k2 : k = 2
        · subst k2
          by_cases hf : isL l ∧ isD x
          · have hf0 : formedN 2 l x = 0 := by unfold formedN; rw [if_neg (by decide), if_neg (by decide), if_pos rfl, if_pos hf]
            rw [if_pos hf0, if_pos rfl, hf0]
            exact fun w => NextR_match q a b c d _ l x h hf0 w
          · have hf0 : formedN 2 l x = 7 := by unfold formedN; rw [if_neg (by decide), if_neg (by decide), if_pos rfl, if_neg hf]
            rw [hf0, if_neg (by decide)]
            exact fun w => NextR_unformed q a b c d 2 _ l x 7 h hf0 (by decide) w
        · by_cases k3 : k = 3
          · subst k3
            by_cases hf : isL l ∧ repOk x
            · have hf0 : formedN 3 l x = 0 := by unfold formedN; rw [if_neg (by decide), if_neg (by decide), if_neg (by decide), if_pos rfl, if_pos hf]
              rw [if_pos hf0, if_neg (show ¬ (3 : Int) = 2 by decide), if_pos (show (3 : Int) = 3 from rfl), hf0]
              have hx : x = 0 ∨ x = 1 ∨ x = 2 ∨ x = 3 := by have := hf.2; unfold repOk at this; omega
              rcases hx with rfl | rfl | rfl | rfl
              · exact fun w => NextR_rep0 q a b c d _ l h hf0 w
              · exact fun w => NextR_rep1 q a b c d _ l h hf0 w
              · exact fun w => NextR_rep2 q a b c d _ l h hf0 w
              · exact fun w => NextR_rep3 q a b c d _ l h hf0 w
            · have hf0 : formedN 3 l x = 7 := by unfold formedN; rw [if_neg (by decide), if_neg (by decide), if_neg (by decide), if_pos rfl, if_neg hf]
              rw [hf0, if_neg (by decide)]
              exact fun w => NextR_unformed q a b c d 3 _ l x 7 h hf0 (by decide) w
          · have hf0 : formedN k l x = 6 := by unfold formedN; rw [if_neg k1, if_neg k4, if_neg k2, if_neg k3]
            rw [hf0, if_neg (by decide)]
            exact fun w => NextR_unformed q a b c d k _ l x 6 h hf0 (by decide) w
  · have hE : nextE ⟨n, a, b, c, d⟩ ⟨k, z, l, x⟩ = 7 := if_neg h
    unfold nextS
    rw [hE, if_neg (by decide)]
    exact fun w => NextR_bad n a b c d k _ l x h w
theorem RightR_any (s : St) (w : World) : Calls Tryd.prog 49 #[s.v] w fun e w' => e = .returned (.bool (decide s.right)) ∧ Below w.heap.size w w' := Right_any s.n s.a s.b s.c s.d w
/-! ### the lengths -/
theorem first_len (l : List UInt8) (hi : Nat) (dict : Int) (p : Nat) (s : St) : (if (firstP l hi dict p s).k = 2 ∨ (firstP l hi dict p s).k = 3 then (firstP l hi dict p s).l else 1) = (ysz (firstP l hi dict p s) : Int) := by
  rw [ysz_int]
  unfold firstP
  split
  · rename_i h; show (if (3 : Int) = 2 ∨ (3 : Int) = 3 then ((repP l hi dict p s).1 : Int) else 1) = max 1 ((repP l hi dict p s).1 : Int); rw [if_pos (.inr rfl)]; omega
  · split
    · rename_i h; show (if (2 : Int) = 2 ∨ (2 : Int) = 3 then ((bestL (mats l dict p (pmost hi p : Int))).1 : Int) else 1) = max 1 ((bestL (mats l dict p (pmost hi p : Int))).1 : Int); rw [if_pos (.inl rfl)]; omega
    · split <;> rfl
theorem told_len (l : List UInt8) (hi : Nat) (dict : Int) (p : Nat) (y : Sy) (s : St) (h : planY y) : (if (toldP l hi dict p y s).k = 2 ∨ (toldP l hi dict p y s).k = 3 then (toldP l hi dict p y s).l else 1) = (ysz y : Int) := by
  rw [ysz_int]
  unfold toldP
  rcases h with ⟨c, rfl⟩ | ⟨n, d, rfl, h1, h2, h3, h4⟩
  · rw [if_pos rfl]
    split <;> rfl
  · rw [if_neg (show ¬ (2 : Int) = 1 by decide)]
    simp only []
    have e : ∀ k : Int, k = 2 ∨ k = 3 → (if k = 2 ∨ k = 3 then (n : Int) else 1) = max 1 (n : Int) := fun k hk => by rw [if_pos hk]; omega
    split
    · exact e 3 (.inr rfl)
    · split
      · exact e 3 (.inr rfl)
      · split
        · exact e 3 (.inr rfl)
        · split
          · exact e 3 (.inr rfl)
          · exact e 2 (.inl rfl)
theorem ext_pos {l : List UInt8} {q p m : Nat} (hm : 1 ≤ m) : 0 < ext l q p m ↔ l.getD q 0 = l.getD p 0 := by
  constructor
  · intro h
    have := ext_eq (l := l) (q := q) (p := p) (m := m) (j := 0) h
    simpa using this
  · intro h
    rcases Nat.eq_zero_or_pos (ext l q p m) with h0 | h0
    · have h1 : 1 ≤ ext l q p m := by
        unfold ext
        obtain ⟨k, rfl⟩ : ∃ k, m = k + 1 := ⟨m - 1, by omega⟩
        rw [List.range_succ_eq_map, List.takeWhile_cons_of_pos (by simpa using h)]
        simp
      omega
    · exact h0
theorem runP_pos {l : List UInt8} {hi : Nat} {dict : Int} {p : Nat} {d : Int} (hp : p < hi) : 0 < runP l hi dict p d ↔ (1 ≤ d ∧ d ≤ (p : Int) ∧ d ≤ dict) ∧ l.getD (p - d.toNat) 0 = l.getD p 0 := by
  unfold runP
  by_cases h : 1 ≤ d ∧ d ≤ (p : Int) ∧ d ≤ dict
  · rw [if_pos h, ext_pos (by unfold pmost; omega)]
    exact ⟨fun g => ⟨h, g⟩, fun g => g.2⟩
  · rw [if_neg h]
    exact ⟨fun g => absurd g (Nat.lt_irrefl 0), fun g => absurd g.1 h⟩
/-! ### named -/
set_option maxHeartbeats 4000000 in
theorem namedR_any (A : Option Addr) (m c : Nat) (l : List UInt8) (fr di : Int) (hi p : Nat) (yk yl yx : Int) (yz : UInt8) (s : St) (w : World) (h : In w A m l) (hm : m ≤ 1048576) (hhi : hi ≤ m) (_hmc : m ≤ c) (hp : p < hi) :
    Calls Tryd.prog 53 #[.agg (rfC A m c fr hi di), .int .i64 p, .agg #[.int .i64 yk, .int .u8 (yz.toNat : Int), .int .i64 yl, .int .i64 yx], s.v] w fun e w' => e = .returned (toldP l hi di p ⟨yk, yz, yl, yx⟩ s).v ∧ Below w.heap.size w w' := by
  obtain ⟨n, a, b, cc, d⟩ := s
  obtain ⟨w1, hw1⟩ : ∃ w1, (((w.alloc (.cells #[.slice A m c, .int .i64 fr, .int .i64 hi, .int .i64 di] 50)).alloc (.cells #[.int .i64 yk, .int .u8 (yz.toNat : Int), .int .i64 yl, .int .i64 yx] 24)).alloc (.cells #[.int .i64 n, .int .i64 a, .int .i64 b, .int .i64 cc, .int .i64 d] 48)).alloc (.cells #[.int .i64 0, .int .u8 0, .int .i64 0, .int .i64 0] 24) = w1 := ⟨_, rfl⟩
  obtain ⟨B, hB⟩ : ∃ B, w.heap.size = B := ⟨_, rfl⟩
  have hb1 : Below w.heap.size w w1 := by rw [← hw1]; exact ((((Below.refl _ _).alloc (Nat.le_refl _) _).alloc (by simp) _).alloc (by simp only [World.size_alloc]; omega) _).alloc (by simp only [World.size_alloc]; omega) _
  have hP1 : Blk w1 B 50 #[.slice A m c, .int .i64 fr, .int .i64 hi, .int .i64 di] := by rw [← hw1]; exact (((Blk.new_at hB.symm).alloc _).alloc _).alloc _
  have hY1 : Blk w1 (B + 1) 24 #[.int .i64 yk, .int .u8 (yz.toNat : Int), .int .i64 yl, .int .i64 yx] := by rw [← hw1]; exact ((Blk.new_at (by simp [hB])).alloc _).alloc _
  have hS1 : Blk w1 (B + 1 + 1) 48 #[.int .i64 n, .int .i64 a, .int .i64 b, .int .i64 cc, .int .i64 d] := by rw [← hw1]; exact (Blk.new_at (by simp [hB])).alloc _
  have hR1 : Blk w1 (B + 1 + 1 + 1) 24 #[.int .i64 0, .int .u8 0, .int .i64 0, .int .i64 0] := by rw [← hw1]; exact Blk.new_at (by simp [hB])
  have HBz := Lib.hid hB
  have HI := Lib.hid (And.intro (h.below hb1) (And.intro hP1 (And.intro hS1 (And.intro hR1 (And.intro hY1 hb1)))))
  have HUs : Hid (∀ W, Calls Tryd.prog 70 #[.agg #[.slice A m c, .int .i64 fr, .int .i64 hi, .int .i64 di], .int .i64 p, .int .i64 a] W fun e w' => e = .returned (.bool (decide (1 ≤ a ∧ a ≤ (p : Int) ∧ a ≤ di))) ∧ Below W.heap.size W w') := fun W => usableR_any A m c fr hi di p a W
  obtain ⟨Yv, hYv⟩ : ∃ Yv, toldP l hi di p ⟨yk, yz, yl, yx⟩ ⟨n, a, b, cc, d⟩ = Yv := ⟨_, rfl⟩
  rw [hYv]
  have HY := Lib.hid hYv
  have HBel : Hid (∀ (W : World) (u0 u1 u2 u3 : Value), Below w1.heap.size w1 W → Below w.heap.size w ((((W.setCell ⟨B + 1 + 1 + 1, 0, none⟩ u0).setCell ⟨B + 1 + 1 + 1, 1, none⟩ u1).setCell ⟨B + 1 + 1 + 1, 2, none⟩ u2).setCell ⟨B + 1 + 1 + 1, 3, none⟩ u3)) := fun W u0 u1 u2 u3 hW => by
    have hB : w.heap.size ≤ B + 1 + 1 + 1 := by have := HBz.out; omega
    exact ((((bup HI.out.2.2.2.2.2 hW).setCell (p := ⟨B + 1 + 1 + 1, 0, none⟩) hB _).setCell (p := ⟨B + 1 + 1 + 1, 1, none⟩) hB _).setCell (p := ⟨B + 1 + 1 + 1, 2, none⟩) hB _).setCell (p := ⟨B + 1 + 1 + 1, 3, none⟩) hB _
  obtain ⟨x0, x1, x2, x3⟩ := Blk.four hP1
  obtain ⟨y0, y1, y2, y3⟩ := Blk.four hY1
  obtain ⟨⟨s0, s1, s2, s3, s4⟩, _⟩ := st_five hS1
  have hpm : p < m := by omega
  have hpm' : (p : Int) < (m : Int) := by omega
  unfold rfC St.v stC
  simp only []
  by_cases hk : yk = 1
  · have hk' : (yk == 1) = true := by simp [hk]
    have HYk : Hid (Yv = if 0 < runP l hi di p a then ⟨4, 0, 0, 0⟩ else ⟨yk, yz, yl, yx⟩) := by show _ = _; rw [← HY.out]; exact if_pos hk
    obtain ⟨ad, hA, z0⟩ := HI.out.1.at_ (j := p) hpm
    by_cases hu : 1 ≤ a ∧ a ≤ (p : Int) ∧ a ≤ di
    · have HUd : Hid (∀ W, Calls Tryd.prog 70 #[.agg #[.slice A m c, .int .i64 fr, .int .i64 hi, .int .i64 di], .int .i64 p, .int .i64 a] W fun e w' => e = .returned (.bool true) ∧ Below W.heap.size W w') := fun W => by have := HUs.out W; rw [decide_eq_true hu] at this; exact this
      have Hu := Lib.hid hu
      obtain ⟨an, rfl⟩ : ∃ an : Nat, a = (an : Int) := ⟨a.toNat, by omega⟩
      have ub1 : (an : Int) ≤ (p : Int) := by omega
      have ub2 : an ≤ p := by omega
      obtain ⟨ua1, ua2, ua3, ua4⟩ : (p : Int) - (an : Int) < (m : Int) ∧ (0 : Int) ≤ (p : Int) - (an : Int) ∧ IntKind.i64.wrap ((p : Int) - (an : Int)) = (p : Int) - (an : Int) ∧ ((p : Int) - (an : Int)).toNat = p - an := ⟨by omega, by omega, IntWalk.i64_in _ (by omega), by omega⟩
      obtain ⟨t0, ht0⟩ : ∃ t, l.getD p 0 = t := ⟨_, rfl⟩
      obtain ⟨t1, ht1⟩ : ∃ t, l.getD (p - an) 0 = t := ⟨_, rfl⟩
      have HC : Hid (∀ W, Below w1.heap.size w1 W → W.cell? ⟨B, 0, none⟩ = some (.slice A m c) ∧ W.cell? ⟨B, 1, none⟩ = some (.int .i64 fr) ∧ W.cell? ⟨B, 2, none⟩ = some (.int .i64 hi) ∧ W.cell? ⟨B, 3, none⟩ = some (.int .i64 di) ∧ W.cell? ⟨B + 1 + 1, 1, none⟩ = some (.int .i64 (an : Int)) ∧ W.cell? (ad.add p) = some (.int .u8 (t0.toNat : Int)) ∧ W.cell? (ad.add (p - an)) = some (.int .u8 (t1.toNat : Int))) := fun W hW => by
        obtain ⟨x0, x1, x2, x3⟩ := Blk.four (HI.out.2.1.below hW)
        obtain ⟨⟨s0, s1, s2, s3, s4⟩, _⟩ := st_five (HI.out.2.2.1.below hW)
        obtain ⟨ad', hA', z0⟩ := (HI.out.1.below hW).at_ (j := p) hpm
        obtain ⟨ad'', hA'', z1⟩ := (HI.out.1.below hW).at_ (j := p - an) (by omega)
        rw [hA] at hA' hA''
        obtain rfl := Option.some.inj hA'
        obtain rfl := Option.some.inj hA''
        rw [ht0] at z0
        rw [ht1] at z1
        exact ⟨x0, x1, x2, x3, s1, z0, z1⟩
      subst hA
      clear z0 x0 x1 x2 x3 s0 s1 s2 s3 s4
      obtain ⟨x0, x1, x2, x3, s1, z0, z1⟩ := HC.out w1 (Below.refl _ _)
      have HF : Hid (∀ W, Below w1.heap.size w1 W → ((W.cell? ⟨B + 1 + 1 + 1, 0, none⟩ = some (.int .i64 0) ∧ W.cell? ⟨B + 1 + 1 + 1, 1, none⟩ = some (.int .u8 0) ∧ W.cell? ⟨B + 1 + 1 + 1, 2, none⟩ = some (.int .i64 0) ∧ W.cell? ⟨B + 1 + 1 + 1, 3, none⟩ = some (.int .i64 0)) ∧ (W.frozen? ⟨B + 1 + 1 + 1, 0, none⟩ = false ∧ W.frozen? ⟨B + 1 + 1 + 1, 1, none⟩ = false ∧ W.frozen? ⟨B + 1 + 1 + 1, 2, none⟩ = false ∧ W.frozen? ⟨B + 1 + 1 + 1, 3, none⟩ = false) ∧ B + 1 + 1 + 1 < W.heap.size) ∧ (W.cell? ⟨B + 1, 0, none⟩ = some (.int .i64 yk) ∧ W.cell? ⟨B + 1, 1, none⟩ = some (.int .u8 (yz.toNat : Int)) ∧ W.cell? ⟨B + 1, 2, none⟩ = some (.int .i64 yl) ∧ W.cell? ⟨B + 1, 3, none⟩ = some (.int .i64 yx))) := fun W hW => ⟨⟨(HI.out.2.2.2.1.below hW).four, (HI.out.2.2.2.1.below hW).four_f, (HI.out.2.2.2.1.below hW).lt⟩, Blk.four (HI.out.2.2.2.2.1.below hW)⟩
      by_cases he : t0 = t1
      · have he' : ((t0.toNat : Int) == (t1.toNat : Int)) = true := by subst he; simp
        have e : Hid (Yv = ⟨4, 0, 0, 0⟩) := by
          show _ = _
          rw [HYk.out, if_pos ((runP_pos hp).2 ⟨Hu.out, by rw [Int.toNat_natCast, ht0, ht1, he]⟩)]
        clear he ht0 ht1 h hb1 hP1 hY1 hS1 hR1 hu hYv HUs hk
        go_enter Tryd.func53, Tryd.ntmps53
        go_upto_region 2 with (fail)
        clear hw1 hB y0 y1 y2 y3
        go_region_held3 (fun w' => w'.cell? ⟨B, 0, none⟩ = some (.slice (some ad) m c) ∧ w'.cell? ⟨B, 1, none⟩ = some (.int .i64 fr) ∧ w'.cell? ⟨B, 2, none⟩ = some (.int .i64 hi) ∧ w'.cell? ⟨B, 3, none⟩ = some (.int .i64 di) ∧ w'.cell? ⟨B + 1 + 1, 1, none⟩ = some (.int .i64 (an : Int)) ∧ w'.cell? (ad.add p) = some (.int .u8 (t0.toNat : Int)) ∧ w'.cell? (ad.add (p - an)) = some (.int .u8 (t1.toNat : Int)))
          (first | (with_reducible exact ⟨x0, x1, x2, x3, s1, z0, z1⟩) | (with_reducible exact ⟨p0, p1, p2, p3, p4, p5, p6⟩) | go_keep)
          (first | (go_at_call 70; refine (HUd.out _).mono ?_; rintro en wu ⟨rfl, hbu⟩; have hbw : Below w1.heap.size w1 wu := (by with_reducible exact bd1 hbu); obtain ⟨p0, p1, p2, p3, p4, p5, p6⟩ := HC.out wu hbw))
        obtain ⟨⟨⟨v0, v1, v2, v3⟩, ⟨f0, f1, f2, f3⟩, hYl⟩, _⟩ := HF.out wu hbw
        have HB6 := Lib.hid hbw
        clear hbw hbu
        go_wp2_with fail
        exact bodyPost_ret (v := .agg #[.int .i64 4, .int .u8 0, .int .i64 0, .int .i64 0]) (by simp [results, Tryd.results53, go_sem, *]) rfl ⟨by rw [e.out]; rfl, HBel.out _ _ _ _ _ HB6.out⟩
      · have he' : ((t0.toNat : Int) == (t1.toNat : Int)) = false := beq_eq_false_iff_ne.2 (fun e => he (UInt8.toNat_inj.1 (by omega)))
        have e : Hid (Yv = ⟨yk, yz, yl, yx⟩) := by
          show _ = _
          rw [HYk.out, if_neg (fun g => he (by have := ((runP_pos hp).1 g).2; rw [Int.toNat_natCast, ht0, ht1] at this; exact this.symm))]
        clear he ht0 ht1 h hb1 hP1 hY1 hS1 hR1 hu hYv HUs hk
        go_enter Tryd.func53, Tryd.ntmps53
        go_upto_region 2 with (fail)
        clear hw1 hB y0 y1 y2 y3
        go_region_held3 (fun w' => w'.cell? ⟨B, 0, none⟩ = some (.slice (some ad) m c) ∧ w'.cell? ⟨B, 1, none⟩ = some (.int .i64 fr) ∧ w'.cell? ⟨B, 2, none⟩ = some (.int .i64 hi) ∧ w'.cell? ⟨B, 3, none⟩ = some (.int .i64 di) ∧ w'.cell? ⟨B + 1 + 1, 1, none⟩ = some (.int .i64 (an : Int)) ∧ w'.cell? (ad.add p) = some (.int .u8 (t0.toNat : Int)) ∧ w'.cell? (ad.add (p - an)) = some (.int .u8 (t1.toNat : Int)))
          (first | (with_reducible exact ⟨x0, x1, x2, x3, s1, z0, z1⟩) | (with_reducible exact ⟨p0, p1, p2, p3, p4, p5, p6⟩) | go_keep)
          (first | (go_at_call 70; refine (HUd.out _).mono ?_; rintro en wu ⟨rfl, hbu⟩; have hbw : Below w1.heap.size w1 wu := (by with_reducible exact bd1 hbu); obtain ⟨p0, p1, p2, p3, p4, p5, p6⟩ := HC.out wu hbw))
        obtain ⟨⟨⟨v0, v1, v2, v3⟩, ⟨f0, f1, f2, f3⟩, hYl⟩, ⟨y0, y1, y2, y3⟩⟩ := HF.out wu hbw
        have HB6 := Lib.hid hbw
        clear hbw hbu
        go_wp2_with fail
        exact bodyPost_ret (v := .agg #[.int .i64 yk, .int .u8 (yz.toNat : Int), .int .i64 yl, .int .i64 yx]) (by simp [results, Tryd.results53, go_sem, *]) rfl ⟨by rw [e.out]; rfl, HBel.out _ _ _ _ _ HB6.out⟩
    · subst hA
      have HUd : Hid (∀ W, Calls Tryd.prog 70 #[.agg #[.slice (some ad) m c, .int .i64 fr, .int .i64 hi, .int .i64 di], .int .i64 p, .int .i64 a] W fun e w' => e = .returned (.bool false) ∧ Below W.heap.size W w') := fun W => by have := HUs.out W; rw [decide_eq_false hu] at this; exact this
      have HC : Hid (∀ W, Below w1.heap.size w1 W → W.cell? ⟨B, 0, none⟩ = some (.slice (some ad) m c) ∧ W.cell? ⟨B, 1, none⟩ = some (.int .i64 fr) ∧ W.cell? ⟨B, 2, none⟩ = some (.int .i64 hi) ∧ W.cell? ⟨B, 3, none⟩ = some (.int .i64 di) ∧ W.cell? ⟨B + 1 + 1, 1, none⟩ = some (.int .i64 a)) := fun W hW => by
        obtain ⟨x0, x1, x2, x3⟩ := Blk.four (HI.out.2.1.below hW)
        obtain ⟨⟨s0, s1, s2, s3, s4⟩, _⟩ := st_five (HI.out.2.2.1.below hW)
        exact ⟨x0, x1, x2, x3, s1⟩
      have HF : Hid (∀ W, Below w1.heap.size w1 W → ((W.cell? ⟨B + 1 + 1 + 1, 0, none⟩ = some (.int .i64 0) ∧ W.cell? ⟨B + 1 + 1 + 1, 1, none⟩ = some (.int .u8 0) ∧ W.cell? ⟨B + 1 + 1 + 1, 2, none⟩ = some (.int .i64 0) ∧ W.cell? ⟨B + 1 + 1 + 1, 3, none⟩ = some (.int .i64 0)) ∧ (W.frozen? ⟨B + 1 + 1 + 1, 0, none⟩ = false ∧ W.frozen? ⟨B + 1 + 1 + 1, 1, none⟩ = false ∧ W.frozen? ⟨B + 1 + 1 + 1, 2, none⟩ = false ∧ W.frozen? ⟨B + 1 + 1 + 1, 3, none⟩ = false) ∧ B + 1 + 1 + 1 < W.heap.size) ∧ (W.cell? ⟨B + 1, 0, none⟩ = some (.int .i64 yk) ∧ W.cell? ⟨B + 1, 1, none⟩ = some (.int .u8 (yz.toNat : Int)) ∧ W.cell? ⟨B + 1, 2, none⟩ = some (.int .i64 yl) ∧ W.cell? ⟨B + 1, 3, none⟩ = some (.int .i64 yx))) := fun W hW => ⟨⟨(HI.out.2.2.2.1.below hW).four, (HI.out.2.2.2.1.below hW).four_f, (HI.out.2.2.2.1.below hW).lt⟩, Blk.four (HI.out.2.2.2.2.1.below hW)⟩
      have e : Hid (Yv = ⟨yk, yz, yl, yx⟩) := by
        show _ = _
        rw [HYk.out, if_neg (fun g => hu ((runP_pos hp).1 g).1)]
      clear h hb1 hP1 hY1 hS1 hR1 hu hYv HUs hk z0 s0 s2 s3 s4
      go_enter Tryd.func53, Tryd.ntmps53
      go_upto_region 2 with (fail)
      clear hw1 hB y0 y1 y2 y3
      refine wp_region_held_drew (S := fun w' => w'.cell? ⟨B, 0, none⟩ = some (.slice (some ad) m c) ∧ w'.cell? ⟨B, 1, none⟩ = some (.int .i64 fr) ∧ w'.cell? ⟨B, 2, none⟩ = some (.int .i64 hi) ∧ w'.cell? ⟨B, 3, none⟩ = some (.int .i64 di) ∧ w'.cell? ⟨B + 1 + 1, 1, none⟩ = some (.int .i64 a)) (by kernel_rfl) ⟨x0, x1, x2, x3, s1⟩ (fun hHeld => ?_)
      refine wpAnyH_take (i := 0) (v := ?v0) rfl (by kernel_rfl) (by kernel_rfl) (by kernel_rfl) (fun _ _ _ h => h) (Or.inl ⟨by rfl, ?h0⟩) (by assumption) ?_
      case h0 => intro w hSw; (try dsimp only at hSw); go_simp; try with_reducible rfl
      try simp only [Act.put, List.getElem_toArray, List.getElem_cons_zero, List.setIfInBounds_toArray, List.set_cons_zero, List.set_cons_succ]
      refine wpAnyH_take (i := 1) (v := ?v1) rfl (by kernel_rfl) (by kernel_rfl) (by kernel_rfl) (fun _ _ _ h => h) (Or.inl ⟨by rfl, ?h1⟩) (by assumption) ?_
      case h1 => intro w hSw; (try dsimp only at hSw); go_simp; try with_reducible rfl
      try simp only [Act.put, List.getElem_toArray, List.getElem_cons_zero, List.getElem_cons_succ, List.setIfInBounds_toArray, List.set_cons_zero, List.set_cons_succ]
      refine wpAnyH_take (i := 2) (v := ?v2) rfl (by kernel_rfl) (by kernel_rfl) (by kernel_rfl) (fun _ _ _ h => h) (Or.inl ⟨by rfl, ?h2⟩) (by assumption) ?_
      case h2 => intro w hSw; (try dsimp only at hSw); go_simp; try with_reducible rfl
      try simp only [Act.put, List.getElem_toArray, List.getElem_cons_zero, List.getElem_cons_succ, List.setIfInBounds_toArray, List.set_cons_zero, List.set_cons_succ]
      refine wpAnyH_take (i := 3) (v := ?v3) rfl (by kernel_rfl) (by kernel_rfl) (by kernel_rfl) (fun _ _ _ h => h) (Or.inl ⟨by rfl, ?h3⟩) (by assumption) ?_
      case h3 => intro w hSw; (try dsimp only at hSw); go_simp; try with_reducible rfl
      try simp only [Act.put, List.getElem_toArray, List.getElem_cons_zero, List.getElem_cons_succ, List.setIfInBounds_toArray, List.set_cons_zero, List.set_cons_succ]
      refine wpAnyH_take (i := 4) (v := ?v4) rfl (by kernel_rfl) (by kernel_rfl) (by kernel_rfl) (fun _ _ _ h => h) (Or.inl ⟨by rfl, ?h4⟩) (by assumption) ?_
      case h4 => intro w hSw; (try dsimp only at hSw); go_simp; try with_reducible rfl
      try simp only [Act.put, List.getElem_toArray, List.getElem_cons_zero, List.getElem_cons_succ, List.setIfInBounds_toArray, List.set_cons_zero, List.set_cons_succ]
      refine wpAnyH_ready (rs := [5]) (by kernel_rfl) (by simp) ?_
      refine AllReadyH.cons rfl (fun K hK => ?_) AllReadyH.nil
      simp only [List.getElem_toArray, List.getElem_cons_zero, List.getElem_cons_succ]
      go_simp
      go_at_call 70
      refine (HUd.out _).mono ?_
      rintro en wu ⟨rfl, hbu⟩
      have hbw : Below w1.heap.size w1 wu := (by with_reducible exact bd1 hbu)
      obtain ⟨p0, p1, p2, p3, p4⟩ := HC.out wu hbw
      try dsimp only
      refine hK.out _ _ ⟨p0, p1, p2, p3, p4⟩ (fun hHeld => ?_)
      clear hK K
      try simp only [Act.put, List.getElem_toArray, List.getElem_cons_zero, List.getElem_cons_succ, List.setIfInBounds_toArray, List.set_cons_zero, List.set_cons_succ]
      refine wpAnyH_take (i := 6) (v := ?v6) rfl (by kernel_rfl) (by kernel_rfl) (by kernel_rfl) (fun _ _ _ h => h) (Or.inl ⟨by rfl, ?h6⟩) (by assumption) ?_
      case h6 => intro w hSw; (try dsimp only at hSw); go_simp; try with_reducible rfl
      try simp only [Act.put, List.getElem_toArray, List.getElem_cons_zero, List.getElem_cons_succ, List.setIfInBounds_toArray, List.set_cons_zero, List.set_cons_succ]
      refine wpAnyH_take (i := 7) (v := undef) rfl (by kernel_rfl) (by kernel_rfl) (by kernel_rfl) (fun _ _ _ h => h) (Or.inr ⟨by kernel_rfl, rfl⟩) (by assumption) ?_
      try simp only [Act.put, List.getElem_toArray, List.getElem_cons_zero, List.getElem_cons_succ, List.setIfInBounds_toArray, List.set_cons_zero, List.set_cons_succ]
      refine wpAnyH_take (i := 8) (v := undef) rfl (by kernel_rfl) (by kernel_rfl) (by kernel_rfl) (fun _ _ _ h => h) (Or.inr ⟨by kernel_rfl, rfl⟩) (by assumption) ?_
      try simp only [Act.put, List.getElem_toArray, List.getElem_cons_zero, List.getElem_cons_succ, List.setIfInBounds_toArray, List.set_cons_zero, List.set_cons_succ]
      refine wpAnyH_take (i := 9) (v := undef) rfl (by kernel_rfl) (by kernel_rfl) (by kernel_rfl) (fun _ _ _ h => h) (Or.inr ⟨by kernel_rfl, rfl⟩) (by assumption) ?_
      try simp only [Act.put, List.getElem_toArray, List.getElem_cons_zero, List.getElem_cons_succ, List.setIfInBounds_toArray, List.set_cons_zero, List.set_cons_succ]
      refine wpAnyH_take (i := 10) (v := undef) rfl (by kernel_rfl) (by kernel_rfl) (by kernel_rfl) (fun _ _ _ h => h) (Or.inr ⟨by kernel_rfl, rfl⟩) (by assumption) ?_
      try simp only [Act.put, List.getElem_toArray, List.getElem_cons_zero, List.getElem_cons_succ, List.setIfInBounds_toArray, List.set_cons_zero, List.set_cons_succ]
      refine wpAnyH_take (i := 11) (v := undef) rfl (by kernel_rfl) (by kernel_rfl) (by kernel_rfl) (fun _ _ _ h => h) (Or.inr ⟨by kernel_rfl, rfl⟩) (by assumption) ?_
      try simp only [Act.put, List.getElem_toArray, List.getElem_cons_zero, List.getElem_cons_succ, List.setIfInBounds_toArray, List.set_cons_zero, List.set_cons_succ]
      refine wpAnyH_take (i := 12) (v := undef) rfl (by kernel_rfl) (by kernel_rfl) (by kernel_rfl) (fun _ _ _ h => h) (Or.inr ⟨by kernel_rfl, rfl⟩) (by assumption) ?_
      try simp only [Act.put, List.getElem_toArray, List.getElem_cons_zero, List.getElem_cons_succ, List.setIfInBounds_toArray, List.set_cons_zero, List.set_cons_succ]
      refine wpAnyH_take (i := 13) (v := undef) rfl (by kernel_rfl) (by kernel_rfl) (by kernel_rfl) (fun _ _ _ h => h) (Or.inr ⟨by kernel_rfl, rfl⟩) (by assumption) ?_
      try simp only [Act.put, List.getElem_toArray, List.getElem_cons_zero, List.getElem_cons_succ, List.setIfInBounds_toArray, List.set_cons_zero, List.set_cons_succ]
      refine wpAnyH_take (i := 14) (v := undef) rfl (by kernel_rfl) (by kernel_rfl) (by kernel_rfl) (fun _ _ _ h => h) (Or.inr ⟨by kernel_rfl, rfl⟩) (by assumption) ?_
      try simp only [Act.put, List.getElem_toArray, List.getElem_cons_zero, List.getElem_cons_succ, List.setIfInBounds_toArray, List.set_cons_zero, List.set_cons_succ]
      refine wpAnyH_take (i := 15) (v := undef) rfl (by kernel_rfl) (by kernel_rfl) (by kernel_rfl) (fun _ _ _ h => h) (Or.inr ⟨by kernel_rfl, rfl⟩) (by assumption) ?_
      try simp only [Act.put, List.getElem_toArray, List.getElem_cons_zero, List.getElem_cons_succ, List.setIfInBounds_toArray, List.set_cons_zero, List.set_cons_succ]
      refine wpAnyH_take (i := 16) (v := undef) rfl (by kernel_rfl) (by kernel_rfl) (by kernel_rfl) (fun _ _ _ h => h) (Or.inr ⟨by kernel_rfl, rfl⟩) (by assumption) ?_
      try simp only [Act.put, List.getElem_toArray, List.getElem_cons_zero, List.getElem_cons_succ, List.setIfInBounds_toArray, List.set_cons_zero, List.set_cons_succ]
      refine wpAnyH_take (i := 17) (v := undef) rfl (by kernel_rfl) (by kernel_rfl) (by kernel_rfl) (fun _ _ _ h => h) (Or.inr ⟨by kernel_rfl, rfl⟩) (by assumption) ?_
      try simp only [Act.put, List.getElem_toArray, List.getElem_cons_zero, List.getElem_cons_succ, List.setIfInBounds_toArray, List.set_cons_zero, List.set_cons_succ]
      refine wpAnyH_take (i := 18) (v := undef) rfl (by kernel_rfl) (by kernel_rfl) (by kernel_rfl) (fun _ _ _ h => h) (Or.inr ⟨by kernel_rfl, rfl⟩) (by assumption) ?_
      try simp only [Act.put, List.getElem_toArray, List.getElem_cons_zero, List.getElem_cons_succ, List.setIfInBounds_toArray, List.set_cons_zero, List.set_cons_succ]
      refine wpAnyH_take (i := 19) (v := undef) rfl (by kernel_rfl) (by kernel_rfl) (by kernel_rfl) (fun _ _ _ h => h) (Or.inr ⟨by kernel_rfl, rfl⟩) (by assumption) ?_
      try simp only [Act.put, List.getElem_toArray, List.getElem_cons_zero, List.getElem_cons_succ, List.setIfInBounds_toArray, List.set_cons_zero, List.set_cons_succ]
      refine wpAnyH_take (i := 20) (v := undef) rfl (by kernel_rfl) (by kernel_rfl) (by kernel_rfl) (fun _ _ _ h => h) (Or.inr ⟨by kernel_rfl, rfl⟩) (by assumption) ?_
      try simp only [Act.put, List.getElem_toArray, List.getElem_cons_zero, List.getElem_cons_succ, List.setIfInBounds_toArray, List.set_cons_zero, List.set_cons_succ]
      refine wpAnyH_take (i := 21) (v := undef) rfl (by kernel_rfl) (by kernel_rfl) (by kernel_rfl) (fun _ _ _ h => h) (Or.inr ⟨by kernel_rfl, rfl⟩) (by assumption) ?_
      try simp only [Act.put, List.getElem_toArray, List.getElem_cons_zero, List.getElem_cons_succ, List.setIfInBounds_toArray, List.set_cons_zero, List.set_cons_succ]
      refine wpAnyH_take (i := 22) (v := ?v22) rfl (by kernel_rfl) (by kernel_rfl) (by kernel_rfl) (fun _ _ _ h => h) (Or.inl ⟨by rfl, ?h22⟩) (by assumption) ?_
      case h22 => intro w hSw; (try dsimp only at hSw); go_simp; try with_reducible rfl
      try simp only [Act.put, List.getElem_toArray, List.getElem_cons_zero, List.getElem_cons_succ, List.setIfInBounds_toArray, List.set_cons_zero, List.set_cons_succ]
      refine wpAnyH_done (by kernel_rfl) ?_ _
      obtain ⟨⟨⟨v0, v1, v2, v3⟩, ⟨f0, f1, f2, f3⟩, hYl⟩, ⟨y0, y1, y2, y3⟩⟩ := HF.out wu hbw
      have HB6 := Lib.hid hbw
      clear hbw hbu
      go_wp2_with fail
      exact bodyPost_ret (v := .agg #[.int .i64 yk, .int .u8 (yz.toNat : Int), .int .i64 yl, .int .i64 yx]) (by simp [results, Tryd.results53, go_sem, *]) rfl ⟨by rw [e.out]; rfl, HBel.out _ _ _ _ _ HB6.out⟩
  · have hk' : (yk == 1) = false := by simp [hk]
    have HYk : Hid (Yv = if a = yx then ⟨3, 0, yl, 0⟩ else if b = yx then ⟨3, 0, yl, 1⟩ else if cc = yx then ⟨3, 0, yl, 2⟩ else if d = yx then ⟨3, 0, yl, 3⟩ else ⟨yk, yz, yl, yx⟩) := by show _ = _; rw [← HY.out]; exact if_neg hk
    clear h hb1 hP1 hY1 hS1 hR1 hYv HUs hk
    go_enter Tryd.func53, Tryd.ntmps53
    go_wp2_with fail
    clear hw1 hB x0 x1 x2 x3 y0 y1 y2 y3 s0 s1 s2 s3 s4
    go_loopw [9] (fun s9 wr => ∃ i : Nat, s9 = .int .i64 (i : Int) ∧ i ≤ 4 ∧ Hid ((∀ j : Nat, j < i → St.rep ⟨n, a, b, cc, d⟩ (j : Int) ≠ yx) ∧ ∃ k, wr = w1.drewN k)) (fun s9 _ => 4 - (intOf s9).toNat)
    case atStart => exact ⟨0, rfl, by omega, fun j hj => absurd hj (Nat.not_lt_zero j), 0, rfl⟩
    case round =>
      obtain ⟨i, rfl, hi4, HJ⟩ := hrel
      obtain ⟨hj, k0, rfl⟩ := HJ.out
      have Hj := Lib.hid hj
      clear hj HJ
      by_cases hlt : i < 4
      · have hlt' : (i : Int) < 4 := by omega
        obtain ⟨y0, y1, y2, y3⟩ := Blk.four HI.out.2.2.2.2.1
        obtain ⟨⟨s0, s1, s2, s3, s4⟩, _⟩ := st_five HI.out.2.2.1
        obtain ⟨dv, hdv0⟩ : ∃ dv, St.rep ⟨n, a, b, cc, d⟩ (i : Int) = dv := ⟨_, rfl⟩
        have Hdv := Lib.hid hdv0
        have hdv : (i = 0 ∧ dv = a) ∨ (i = 1 ∧ dv = b) ∨ (i = 2 ∧ dv = cc) ∨ (i = 3 ∧ dv = d) := by
          rcases (by omega : i = 0 ∨ i = 1 ∨ i = 2 ∨ i = 3) with rfl | rfl | rfl | rfl
          · exact .inl ⟨rfl, hdv0.symm⟩
          · exact .inr (.inl ⟨rfl, hdv0.symm⟩)
          · exact .inr (.inr (.inl ⟨rfl, hdv0.symm⟩))
          · exact .inr (.inr (.inr ⟨rfl, hdv0.symm⟩))
        have HD := Lib.hid hdv
        have hix : ∀ (u : World), (Instr.indexAt 35 (.pointer (some ⟨B + 1 + 1, 1, none⟩)) (.int .i64 (i : Int))).run Tryd.prog u = .ok (.pointer (some ⟨B + 1 + 1, 1 + i, none⟩)) u := fun u => by
          rcases hdv with ⟨rfl, rfl⟩ | ⟨rfl, rfl⟩ | ⟨rfl, rfl⟩ | ⟨rfl, rfl⟩ <;> kernel_rfl
        have yi : w1.cell? ⟨B + 1 + 1, 1 + i, none⟩ = some (.int .i64 dv) := by
          rcases hdv with ⟨rfl, rfl⟩ | ⟨rfl, rfl⟩ | ⟨rfl, rfl⟩ | ⟨rfl, rfl⟩
          · exact s1
          · exact s2
          · exact s3
          · exact s4
        clear hdv hdv0 s0 s1 s2 s3 s4
        by_cases he : dv = yx
        · have he' : (dv == yx) = true := by simp [he]
          have e : Hid (Yv = ⟨3, 0, yl, (i : Int)⟩) := by
            show _ = _
            rw [HYk.out]
            rcases HD.out with ⟨rfl, rfl⟩ | ⟨rfl, rfl⟩ | ⟨rfl, rfl⟩ | ⟨rfl, rfl⟩
            · rw [if_pos he]; rfl
            · rw [if_neg (show ¬ a = yx from Hj.out 0 (by omega)), if_pos he]; rfl
            · rw [if_neg (show ¬ a = yx from Hj.out 0 (by omega)), if_neg (show ¬ b = yx from Hj.out 1 (by omega)), if_pos he]; rfl
            · rw [if_neg (show ¬ a = yx from Hj.out 0 (by omega)), if_neg (show ¬ b = yx from Hj.out 1 (by omega)), if_neg (show ¬ cc = yx from Hj.out 2 (by omega)), if_pos he]; rfl
          clear he
          go_wp2_with fail
          go_quiet (fail)
          have hb6 : Below w1.heap.size w1 (w1.drewN (k0 + nq)) := below_drewN (Below.refl _ _) _
          have HB6 := Lib.hid hb6
          obtain ⟨v0, v1, v2, v3⟩ := (HI.out.2.2.2.1.below hb6).four
          obtain ⟨f0, f1, f2, f3⟩ := (HI.out.2.2.2.1.below hb6).four_f
          have hYl := (HI.out.2.2.2.1.below hb6).lt
          obtain ⟨y0, y1, y2, y3⟩ := (HI.out.2.2.2.2.1.below hb6).four
          clear hb6
          go_wp2_with fail
          exact bodyPost_ret (v := .agg #[.int .i64 3, .int .u8 0, .int .i64 yl, .int .i64 (i : Int)]) (by simp [results, Tryd.results53, go_sem, *]) rfl ⟨by rw [e.out]; rfl, HBel.out _ _ _ _ _ HB6.out⟩
        · have he' : (dv == yx) = false := by simp [he]
          have HN : Hid (∀ j : Nat, j < i + 1 → St.rep ⟨n, a, b, cc, d⟩ (j : Int) ≠ yx) := fun j hj => by
            rcases (by omega : j < i ∨ j = i) with g | g
            · exact Hj.out j g
            · subst g; rw [Hdv.out]; exact he
          clear he
          go_wp2_with fail
          go_quiet (fail)
          go_wp2_with fail
          go_roundw
          case rel => exact ⟨i + 1, by go_num, by omega, HN.out, _, rfl⟩
          case measure => simp [intOf]; omega
      · have h4 : i = 4 := by omega
        have hge : ¬ (i : Int) < 4 := by omega
        have e : Hid (Yv = ⟨yk, yz, yl, yx⟩) := by
          show _ = _
          rw [HYk.out, if_neg (show ¬ a = yx from Hj.out 0 (by omega)), if_neg (show ¬ b = yx from Hj.out 1 (by omega)), if_neg (show ¬ cc = yx from Hj.out 2 (by omega)), if_neg (show ¬ d = yx from Hj.out 3 (by omega))]
        clear h4
        have hb6 : Below w1.heap.size w1 (w1.drewN k0) := below_drewN (Below.refl _ _) _
        have HB6 := Lib.hid hb6
        obtain ⟨v0, v1, v2, v3⟩ := (HI.out.2.2.2.1.below hb6).four
        obtain ⟨f0, f1, f2, f3⟩ := (HI.out.2.2.2.1.below hb6).four_f
        have hYl := (HI.out.2.2.2.1.below hb6).lt
        obtain ⟨y0, y1, y2, y3⟩ := (HI.out.2.2.2.2.1.below hb6).four
        clear hb6
        go_wp2_with fail
        exact bodyPost_ret (v := .agg #[.int .i64 yk, .int .u8 (yz.toNat : Int), .int .i64 yl, .int .i64 yx]) (by simp [results, Tryd.results53, go_sem, *]) rfl ⟨by rw [e.out]; rfl, HBel.out _ _ _ _ _ HB6.out⟩
theorem refE_zero {m fr hi di : Int} : refE m fr hi di = 0 ↔ (0 ≤ fr ∧ fr ≤ hi ∧ hi ≤ m ∧ 1 ≤ di ∧ di ≤ 4294967295) := by
  unfold refE
  split
  · constructor
    · intro h; cases h
    · intro h; omega
  · split
    · constructor
      · intro h; cases h
      · intro h; omega
    · constructor
      · intro _; omega
      · intro _; rfl
/-- what Greedy and Cheap refuse -/
def rowE (m fr hi di : Int) (s : St) : Int := if refE m fr hi di = 0 then (if s.right then 0 else 7) else refE m fr hi di
theorem rowE_ne {m fr hi di : Int} {s : St} (h : rowE m fr hi di s ≠ 0) : (refE m fr hi di ≠ 0 ∧ rowE m fr hi di s = refE m fr hi di) ∨ (refE m fr hi di = 0 ∧ ¬ s.right ∧ rowE m fr hi di s = 7) := by
  unfold rowE at h ⊢
  by_cases h1 : refE m fr hi di = 0
  · rw [if_pos h1] at h ⊢
    by_cases h2 : s.right
    · rw [if_pos h2] at h; exact absurd rfl h
    · rw [if_neg h2]; exact .inr ⟨h1, h2, rfl⟩
  · rw [if_neg h1]; exact .inl ⟨h1, rfl⟩
theorem rowE_zero {m fr hi di : Int} {s : St} : rowE m fr hi di s = 0 ↔ (refE m fr hi di = 0 ∧ s.right) := by
  unfold rowE
  by_cases h1 : refE m fr hi di = 0
  · rw [if_pos h1]
    by_cases h2 : s.right
    · rw [if_pos h2]; exact ⟨fun _ => ⟨h1, h2⟩, fun _ => rfl⟩
    · rw [if_neg h2]; exact ⟨fun h => (by cases h), fun h => absurd h.2 h2⟩
  · rw [if_neg h1]; exact ⟨fun h => absurd h h1, fun h => absurd h.1 h1⟩
set_option maxHeartbeats 4000000 in
theorem GreedyR_no (A : Option Addr) (m c : Nat) (fr hi di : Int) (s : St) (w : World) (hne : rowE m fr hi di s ≠ 0) :
    Calls Tryd.prog 18 #[.agg (rfC A m c fr hi di), s.v] w fun e w' => e = .returned (.tuple #[.slice none 0 0, St.zero.v, .int .i64 (rowE m fr hi di s)]) ∧ Below w.heap.size w w' := by
  have HRf := Lib.hid (fun W => Refuses_any A m c fr hi di W)
  have HRi := Lib.hid (fun W => RightR_any s W)
  obtain ⟨E, hE⟩ : ∃ E, rowE m fr hi di s = E := ⟨_, rfl⟩
  obtain ⟨R, hR⟩ : ∃ R, refE m fr hi di = R := ⟨_, rfl⟩
  have hc := rowE_ne hne
  rw [hE, hR] at hc
  rw [hE]
  rw [hR] at HRf
  obtain ⟨B, hB⟩ : ∃ B, w.heap.size = B := ⟨_, rfl⟩
  obtain ⟨w1, hw1⟩ : ∃ w1, ((w.alloc (.cells #[.slice A m c, .int .i64 fr, .int .i64 hi, .int .i64 di] 50)).alloc (.cells #[.int .i64 s.n, .int .i64 s.a, .int .i64 s.b, .int .i64 s.c, .int .i64 s.d] 48)).alloc (.cells #[.int .i64 0, .int .i64 0, .int .i64 0, .int .i64 0, .int .i64 0] 48) = w1 := ⟨_, rfl⟩
  have hb1 : Below w.heap.size w w1 := by rw [← hw1]; exact (((Below.refl _ _).alloc (Nat.le_refl _) _).alloc (by simp) _).alloc (by simp only [World.size_alloc]; omega) _
  have hP1 : Blk w1 B 50 #[.slice A m c, .int .i64 fr, .int .i64 hi, .int .i64 di] := by rw [← hw1]; exact ((Blk.new_at hB.symm).alloc _).alloc _
  have hS1 : Blk w1 (B + 1) 48 #[.int .i64 s.n, .int .i64 s.a, .int .i64 s.b, .int .i64 s.c, .int .i64 s.d] := by rw [← hw1]; exact (Blk.new_at (by simp [hB])).alloc _
  have hT1 : Blk w1 (B + 1 + 1) 48 #[.int .i64 0, .int .i64 0, .int .i64 0, .int .i64 0, .int .i64 0] := by rw [← hw1]; exact Blk.new_at (by simp [hB])
  have HI := Lib.hid (And.intro hb1 (And.intro hS1 (And.intro hT1 hB)))
  obtain ⟨x0, x1, x2, x3⟩ := Blk.four hP1
  unfold rfC at HRf
  unfold rfC
  unfold St.v stC at HRi
  unfold St.v stC
  have HBel : Hid (∀ (W : World) (u0 u1 u2 u3 u4 : Value), Below w1.heap.size w1 W → Below w.heap.size w (((((W.setCell ⟨B + 1 + 1, 0, none⟩ u0).setCell ⟨B + 1 + 1, 1, none⟩ u1).setCell ⟨B + 1 + 1, 2, none⟩ u2).setCell ⟨B + 1 + 1, 3, none⟩ u3).setCell ⟨B + 1 + 1, 4, none⟩ u4)) := fun W u0 u1 u2 u3 u4 hW => by
    have hB : w.heap.size ≤ B + 1 + 1 := by have := HI.out.2.2.2; omega
    exact (((((bup HI.out.1 hW).setCell (p := ⟨B + 1 + 1, 0, none⟩) hB _).setCell (p := ⟨B + 1 + 1, 1, none⟩) hB _).setCell (p := ⟨B + 1 + 1, 2, none⟩) hB _).setCell (p := ⟨B + 1 + 1, 3, none⟩) hB _).setCell (p := ⟨B + 1 + 1, 4, none⟩) hB _
  clear hb1 hP1 hS1 hT1 hne hE
  rcases hc with ⟨h1, h2⟩ | ⟨h1, h2, h3⟩
  · rw [h2]
    have e1 : (R == 0) = false := by simp [h1]
    have e2 : (R != 0) = true := by simp [h1]
    clear h1 h2 hR
    go_enter Tryd.func18, Tryd.ntmps18
    go_wp2_with fail
    clear hw1 hB
    refine (HRf.out w1).mono ?_
    rintro e wa ⟨rfl, hba⟩
    obtain ⟨⟨t0, t1, t2, t3, t4⟩, ⟨f0, f1, f2, f3, f4⟩⟩ := st_five (HI.out.2.2.1.below hba)
    have hl := (HI.out.2.2.1.below hba).lt
    have HA := Lib.hid hba
    clear x0 x1 x2 x3 hba
    go_wp2_with fail
    exact bodyPost_ret (v := .tuple #[.slice none 0 0, .agg #[.int .i64 0, .int .i64 0, .int .i64 0, .int .i64 0, .int .i64 0], .int .i64 R]) (by simp [results, Tryd.results18, go_sem, *]) rfl ⟨rfl, HBel.out _ _ _ _ _ _ HA.out⟩
  · rw [h3]
    rw [decide_eq_false h2] at HRi
    have e1 : (R == 0) = true := by simp [h1]
    clear hR h3 h2
    subst h1
    go_enter Tryd.func18, Tryd.ntmps18
    go_wp2_with fail
    clear hw1 hB
    refine (HRf.out w1).mono ?_
    rintro e wa ⟨rfl, hba⟩
    obtain ⟨⟨s0, s1, s2, s3, s4⟩, _⟩ := st_five (HI.out.2.1.below hba)
    have HA := Lib.hid hba
    clear x0 x1 x2 x3 hba
    go_wp2_with fail
    refine (HRi.out wa).mono ?_
    rintro e wb ⟨rfl, hbb⟩
    obtain ⟨⟨t0, t1, t2, t3, t4⟩, ⟨f0, f1, f2, f3, f4⟩⟩ := st_five (HI.out.2.2.1.below (bup HA.out hbb))
    have hl := (HI.out.2.2.1.below (bup HA.out hbb)).lt
    have HB := Lib.hid (bup HA.out hbb)
    clear s0 s1 s2 s3 s4 hbb
    go_wp2_with fail
    exact bodyPost_ret (v := .tuple #[.slice none 0 0, .agg #[.int .i64 0, .int .i64 0, .int .i64 0, .int .i64 0, .int .i64 0], .int .i64 7]) (by simp [results, Tryd.results18, go_sem, *]) rfl ⟨rfl, HBel.out _ _ _ _ _ _ HB.out⟩
set_option maxHeartbeats 8000000 in
theorem GreedyR_ok (A : Option Addr) (m c : Nat) (l : List UInt8) (fr hi : Nat) (di : Int) (s : St) (w : World) (h : In w A m l) (hmc : m ≤ c) (hm : m ≤ 1048576) (h1 : fr ≤ hi) (h2 : hi ≤ m) (hd : 1 ≤ di ∧ di ≤ 4294967295) (hs : s.right) :
    Calls Tryd.prog 18 #[.agg (rfC A m c fr hi di), s.v] w fun e w' => ∃ L lc, e = .returned (.tuple #[.slice L (greedyGo l hi di (hi - fr) fr s).1.length lc, (greedyGo l hi di (hi - fr) fr s).2.v, .int .i64 0]) ∧ w'.ownsRow w.heap.size 24 4 (.slice L (greedyGo l hi di (hi - fr) fr s).1.length lc) (greedyGo l hi di (hi - fr) fr s).1.length (syc (greedyGo l hi di (hi - fr) fr s).1) ∧ Below w.heap.size w w' := by
  obtain ⟨i0, hi0, hz0, hz1, hz2⟩ := info_parts infosy
  have hr0 : refE m fr hi di = 0 := refE_zero.2 (by omega)
  have HRf := Lib.hid (fun W => Refuses_any A m c fr hi di W)
  rw [hr0] at HRf
  have HRi := Lib.hid (fun W => RightR_any s W)
  rw [decide_eq_true hs] at HRi
  obtain ⟨R, hR⟩ : ∃ R, greedyGo l hi di (hi - fr) fr s = R := ⟨_, rfl⟩
  rw [hR]
  have HR := Lib.hid hR
  have Hs := Lib.hid hs
  obtain ⟨B, hB⟩ : ∃ B, w.heap.size = B := ⟨_, rfl⟩
  obtain ⟨w1, hw1⟩ : ∃ w1, ((w.alloc (.cells #[.slice A m c, .int .i64 fr, .int .i64 hi, .int .i64 di] 50)).alloc (.cells #[.int .i64 s.n, .int .i64 s.a, .int .i64 s.b, .int .i64 s.c, .int .i64 s.d] 48)).alloc (.cells #[.int .i64 0, .int .i64 0, .int .i64 0, .int .i64 0, .int .i64 0] 48) = w1 := ⟨_, rfl⟩
  have hb1 : Below w.heap.size w w1 := by rw [← hw1]; exact (((Below.refl _ _).alloc (Nat.le_refl _) _).alloc (by simp) _).alloc (by simp only [World.size_alloc]; omega) _
  have hP1 : Blk w1 B 50 #[.slice A m c, .int .i64 fr, .int .i64 hi, .int .i64 di] := by rw [← hw1]; exact ((Blk.new_at hB.symm).alloc _).alloc _
  have hS1 : Blk w1 (B + 1) 48 (stC s.n s.a s.b s.c s.d) := by rw [← hw1]; exact (Blk.new_at (by simp [hB])).alloc _
  have hT1 : Blk w1 (B + 1 + 1) 48 #[.int .i64 0, .int .i64 0, .int .i64 0, .int .i64 0, .int .i64 0] := by rw [← hw1]; exact Blk.new_at (by simp [hB])
  have hz : w1.heap.size = B + 3 := by rw [← hw1]; simp [hB]
  have HI := Lib.hid (And.intro (h.below hb1) (And.intro hP1 (And.intro hS1 (And.intro hT1 (And.intro hb1 (And.intro hB hz))))))
  have hadB : Hid (0 < m → ∀ ad, A = some ad → ad.block < B) := by rw [← hB]; exact h.2.1
  have HFi := Lib.hid (fun (p : Nat) (t : St) (W : World) (hW : In W A m l) (hp : p < hi) => firstR_any A m c l fr di hi p t W hW hm h2 hmc hp)
  obtain ⟨x0, x1, x2, x3⟩ := Blk.four hP1
  unfold rfC at HRf HFi
  unfold rfC
  unfold St.v stC at HRi
  unfold St.v stC
  clear h hb1 hP1 hS1 hT1 hz hR hs hr0
  go_enter Tryd.func18, Tryd.ntmps18
  go_wp2_with fail
  clear hw1 hB
  refine (HRf.out w1).mono ?_
  rintro e wa ⟨rfl, hba⟩
  obtain ⟨⟨s0, s1, s2, s3, s4⟩, _⟩ := st_five (HI.out.2.2.1.below hba)
  have HA := Lib.hid hba
  clear x0 x1 x2 x3 hba
  go_wp2_with fail
  refine (HRi.out wa).mono ?_
  rintro e wb ⟨rfl, hbb⟩
  have hb2 := bup HA.out hbb
  obtain ⟨x0, x1, x2, x3⟩ := Blk.four (HI.out.2.1.below hb2)
  have H2 : Hid (Blk wb B 50 #[.slice A m c, .int .i64 fr, .int .i64 hi, .int .i64 di] ∧ Blk wb (B + 1) 48 (stC s.n s.a s.b s.c s.d) ∧ Blk wb (B + 1 + 1) 48 #[.int .i64 0, .int .i64 0, .int .i64 0, .int .i64 0, .int .i64 0] ∧ In wb A m l ∧ Below w.heap.size w wb ∧ B + 3 ≤ wb.heap.size) := ⟨HI.out.2.1.below hb2, HI.out.2.2.1.below hb2, HI.out.2.2.2.1.below hb2, HI.out.1.below hb2, bup HI.out.2.2.2.2.1 hb2, by have := hb2.size; have := HI.out.2.2.2.2.2.2; omega⟩
  clear s0 s1 s2 s3 s4 hbb hb2 HA
  go_wp2_with fail
  clear x0 x1 x2 x3
  obtain ⟨D, hD⟩ : ∃ D, wb.heap.size = D := ⟨_, rfl⟩
  have HDB : Hid (B + 3 ≤ D ∧ w.heap.size = B) := ⟨by rw [← hD]; exact H2.out.2.2.2.2.2, HI.out.2.2.2.2.2.1⟩
  go_loopw [8, 9] (fun s8 s9 wr => ∃ (p : Nat) (t : St) (acc : List Sy) (L : Option Addr) (lc : Nat), s8 = .slice L acc.length lc ∧ s9 = .int .i64 (p : Int) ∧ p ≤ hi ∧ Hid (t.right ∧ R = (acc ++ (greedyGo l hi di (hi - p) p t).1, (greedyGo l hi di (hi - p) p t).2) ∧ acc.length ≤ p ∧ Blk wr (B + 1) 48 (stC t.n t.a t.b t.c t.d) ∧ Blk wr (B + 1 + 1) 48 #[.int .i64 0, .int .i64 0, .int .i64 0, .int .i64 0, .int .i64 0] ∧ Blk wr B 50 #[.slice A m c, .int .i64 fr, .int .i64 hi, .int .i64 di] ∧ In wr A m l ∧ wr.ownsRow D 24 4 (.slice L acc.length lc) acc.length (syc acc) ∧ Below w.heap.size w wr ∧ D ≤ wr.heap.size)) (fun _ s9 _ => hi - (intOf s9).toNat)
  case atStart => exact ⟨fr, s, [], none, 0, rfl, rfl, h1, Hs.out, by rw [List.nil_append]; exact HR.out.symm, Nat.zero_le _, H2.out.2.1, H2.out.2.2.1, H2.out.1, H2.out.2.2.2.1, World.ownsRow_nil _ _ _ _, H2.out.2.2.2.2.1, by omega⟩
  case round =>
    clear H2 hD HI HRf HRi
    obtain ⟨p, t, acc, L, lc, rfl, rfl, hp, HJ⟩ := hrel
    obtain ⟨x0, x1, x2, x3⟩ := Blk.four HJ.out.2.2.2.2.2.1
    by_cases hlt : p < hi
    · have hF := HFi.out p t wr HJ.out.2.2.2.2.2.2.1 hlt
      obtain ⟨hok1, hok2, hok3⟩ := firstP_ok l hi di p t HJ.out.1 hd.2
      have hpm : pmost hi p ≤ hi - p := by unfold pmost; omega
      have hyi := ysz_int (firstP l hi di p t)
      have hfl := first_len l hi di p t
      have hgs := greedy_step l hi di p t hlt (by omega)
      have hNx := NextR_fn t (firstP l hi di p t)
      have hrt := nextS_right hok1
      rw [hok1] at hNx
      have hi2 := HJ.out.2.1
      have hi4 := HJ.out.2.2.2.1
      obtain ⟨yv, hyv⟩ : ∃ yv, firstP l hi di p t = yv := ⟨_, rfl⟩
      rw [hyv] at hF hok2 hok3 hyi hgs hNx hrt hfl
      obtain ⟨z, hz⟩ : ∃ z, ysz yv = z := ⟨_, rfl⟩
      rw [hz] at hyi hgs hfl
      obtain ⟨t2, ht2⟩ : ∃ t2, nextS t yv = t2 := ⟨_, rfl⟩
      rw [ht2] at hNx hgs hrt
      have hpz : p + z ≤ hi := by omega
      have hzo : 1 ≤ z := by omega
      rw [hgs] at hi2
      have HR2 : Hid (R = ((acc ++ [yv]) ++ (greedyGo l hi di (hi - (p + z)) (p + z) t2).1, (greedyGo l hi di (hi - (p + z)) (p + z) t2).2)) := by
        show _ = _
        rw [hi2, List.append_assoc]; rfl
      have Hrt := Lib.hid hrt
      have hsc : syc (acc ++ [yv]) = syc acc ++ syc [yv] := syc_append _ _
      obtain ⟨yk, yy, yl, yx⟩ := yv
      obtain ⟨tn, ta, tb, tc, td⟩ := t
      obtain ⟨un, ua, ub, uc, ud⟩ := t2
      unfold stC at hNx
      unfold St.v Sy.v Sy.cs stC at hF
      unfold stC at hi4
      simp only [] at hNx hF hi4 hyi hok2 hok3 hfl
      have HNx := Lib.hid hNx
      have HF := Lib.hid hF
      have HLe := Lib.hid (fun (W : World) => lengthR_any yk yl yx yy W)
      rw [hfl] at HLe
      obtain ⟨⟨b0, b1, b2, b3, b4⟩, _⟩ := st_five hi4
      have HJ2 := Lib.hid HJ.out.2.2
      have Hsc := Lib.hid hsc
      have Hz := Lib.hid (And.intro hz ht2)
      have hlt' : (p : Int) < (hi : Int) := by omega
      clear hi2 hi4 HJ hok1 hok2 hok3 hgs hNx hrt hF hyi hsc hz ht2 hyv hpm hfl
      go_wp2_with fail
      refine HF.out.mono ?_
      rintro e wc ⟨rfl, hbc⟩
      obtain ⟨wd, hwd⟩ : ∃ wd, wc.alloc (.cells #[.int .i64 yk, .int .u8 (yy.toNat : Int), .int .i64 yl, .int .i64 yx] 24) = wd := ⟨_, rfl⟩
      obtain ⟨Yb, hYb⟩ : ∃ Yb, wc.heap.size = Yb := ⟨_, rfl⟩
      have hbd : Below wr.heap.size wr wd := by rw [← hwd]; exact bmk hbc _
      have hYB : Blk wd Yb 24 #[.int .i64 yk, .int .u8 (yy.toNat : Int), .int .i64 yl, .int .i64 yx] := by rw [← hwd]; exact Blk.new_at hYb.symm
      have hYr : wr.heap.size ≤ Yb := by rw [← hYb]; exact hbc.size
      have Hd := Lib.hid (And.intro hbd (And.intro hYB hYr))
      obtain ⟨v0, v1, v2, v3⟩ := hYB.four
      clear b0 b1 b2 b3 b4 hbd hYB hbc HF hYr x0 x1 x2 x3
      go_upto_region 10 with (fail)
      clear hwd hYb
      have hsz : acc.length ≤ p := HJ2.out.1
      have hDw : D ≤ wd.heap.size := Nat.le_trans HJ2.out.2.2.2.2.2.2.2 Hd.out.1.size
      go_upto_region 11 with (at_builtin; refine wpList_append_rd (w := wd.alloc (.cells #[.int .i64 yk, .int .u8 (yy.toNat : Int), .int .i64 yl, .int .i64 yx] 24)) rfl (.tmp 34) (.tmp 36) 22 rfl D 24 i0 _ 4 32 Tryd.underlying22 hi0 hz0 hz1 hz2 rfl (by decide) (.slice L acc.length lc) acc.length (syc acc) rfl ((own_below HJ2.out.2.2.2.2.2.1 Hd.out.1).alloc _) (some ⟨wd.heap.size, 0, none⟩) 1 1 (syc [⟨yk, yy, yl, yx⟩]) rfl (Rd.of_blk (Blk.new _ _ _) rfl rfl) (syc_one _) (by simp only [maxLen]; omega) (by omega) (by simp; omega) ?_; intro L2 lc2 we hown hg hat)
      clear v0 v1 v2 v3
      obtain ⟨j1, j2, j3, j4, j5, j6, j7, j8⟩ := HJ2.out
      have hown0 := own_below j6 Hd.out.1
      have hFe : Fr (fun g => some g = (Value.slice L acc.length lc).ownBlock) wd we := ((Fr.refl _ wd).alloc _).grown hg (fun g hg' => .inl hg'.symm)
      have hol : ∀ g, some g = (Value.slice L acc.length lc).ownBlock → D ≤ g ∧ g < wr.heap.size := fun g e => own_lt j6 e.symm
      obtain ⟨hFd, hYd, hYr⟩ := Hd.out
      obtain ⟨d1, d2⟩ := HDB.out
      have hB4 := (j2.below hFd).fr hFe (fun e => by have := hol _ e; omega)
      have hC4 := (j3.below hFd).fr hFe (fun e => by have := hol _ e; omega)
      have hP4 := (j4.below hFd).fr hFe (fun e => by have := hol _ e; omega)
      have hY4 := hYd.fr hFe (fun e => by have := hol _ e; omega)
      have hI4 : In we A m l := (j5.below hFd).fr hFe (fun h0 ad had e => by have := hol _ e; have := hadB.out h0 ad had; omega)
      have hb4 : Below w.heap.size w we := (bup j7 hFd).trans (hFe.below (bup j7 hFd).size (fun g e => by have := hol _ e; omega))
      have hDe : D ≤ we.heap.size := by have := hFd.size; have := hFe.size; omega
      rw [← Hsc.out] at hown
      have HE := Lib.hid (And.intro hB4 (And.intro hC4 (And.intro hP4 (And.intro hY4 (And.intro hI4 (And.intro hb4 (And.intro hDe hown)))))))
      have hYD : Hid (D ≤ Yb) := by show _ ≤ _; omega
      obtain ⟨⟨b0, b1, b2, b3, b4⟩, _⟩ := st_five hB4
      obtain ⟨v0, v1, v2, v3⟩ := hY4.four
      clear j1 j2 j3 j4 j5 j6 j7 j8 hown0 hFe hol hFd hYd hYr d1 d2 hB4 hC4 hP4 hY4 hI4 hb4 hDe hown hg hat Hd
      go_wp2_with fail
      refine (HNx.out we).mono ?_
      rintro e wf ⟨rfl, hbf⟩
      have HF2 : Hid (Blk wf (B + 1) 48 #[.int .i64 tn, .int .i64 ta, .int .i64 tb, .int .i64 tc, .int .i64 td] ∧ Blk wf (B + 1 + 1) 48 #[.int .i64 0, .int .i64 0, .int .i64 0, .int .i64 0, .int .i64 0] ∧ Blk wf B 50 #[.slice A m c, .int .i64 fr, .int .i64 hi, .int .i64 di] ∧ Blk wf Yb 24 #[.int .i64 yk, .int .u8 (yy.toNat : Int), .int .i64 yl, .int .i64 yx] ∧ In wf A m l ∧ Below w.heap.size w wf ∧ D ≤ wf.heap.size ∧ wf.ownsRow D 24 4 (.slice L2 (acc.length + 1) lc2) (acc.length + 1) (syc (acc ++ [⟨yk, yy, yl, yx⟩]))) := by
        obtain ⟨e1, e2, e3, e4, e5, e6, e7, e8⟩ := HE.out
        exact ⟨e1.below hbf, e2.below hbf, e3.below hbf, e4.below hbf, e5.below hbf, bup e6 hbf, Nat.le_trans e7 hbf.size, own_below e8 hbf⟩
      clear b0 b1 b2 b3 b4 v0 v1 v2 v3 HE hbf HNx
      obtain ⟨⟨b0, b1, b2, b3, b4⟩, ⟨f0, f1, f2, f3, f4⟩⟩ := st_five HF2.out.1
      have hBl := HF2.out.1.lt
      go_upto_region 12 with (fail)
      obtain ⟨wg, hwg⟩ : ∃ wg, ((((wf.setCell ⟨B + 1, 0, none⟩ (.int .i64 un)).setCell ⟨B + 1, 1, none⟩ (.int .i64 ua)).setCell ⟨B + 1, 2, none⟩ (.int .i64 ub)).setCell ⟨B + 1, 3, none⟩ (.int .i64 uc)).setCell ⟨B + 1, 4, none⟩ (.int .i64 ud) = wg := ⟨_, rfl⟩
      rw [hwg]
      have HG : Hid (Blk wg (B + 1) 48 (stC un ua ub uc ud) ∧ Blk wg (B + 1 + 1) 48 #[.int .i64 0, .int .i64 0, .int .i64 0, .int .i64 0, .int .i64 0] ∧ Blk wg B 50 #[.slice A m c, .int .i64 fr, .int .i64 hi, .int .i64 di] ∧ Blk wg Yb 24 #[.int .i64 yk, .int .u8 (yy.toNat : Int), .int .i64 yl, .int .i64 yx] ∧ In wg A m l ∧ Below w.heap.size w wg ∧ D ≤ wg.heap.size ∧ wg.ownsRow D 24 4 (.slice L2 (acc.length + 1) lc2) (acc.length + 1) (syc (acc ++ [⟨yk, yy, yl, yx⟩]))) := by
        obtain ⟨e1, e2, e3, e4, e5, e6, e7, e8⟩ := HF2.out
        have hFg : Fr (fun g => g = B + 1) wf wg := by
          rw [← hwg]
          exact (((((Fr.refl (fun g => g = B + 1) wf).setCell (p := ⟨B + 1, 0, none⟩) (.inl rfl) _).setCell (p := ⟨B + 1, 1, none⟩) (.inl rfl) _).setCell (p := ⟨B + 1, 2, none⟩) (.inl rfl) _).setCell (p := ⟨B + 1, 3, none⟩) (.inl rfl) _).setCell (p := ⟨B + 1, 4, none⟩) (.inl rfl) _
        have h5 := set5_st e1 un ua ub uc ud
        rw [hwg] at h5
        have d1 := HDB.out.1
        have d2 := HDB.out.2
        have d3 := hYD.out
        exact ⟨h5, e2.fr hFg (by omega), e3.fr hFg (by omega), e4.fr hFg (by omega), e5.fr hFg (fun h0 ad had e => by have := hadB.out h0 ad had; omega), e6.trans (hFg.below e6.size (fun g e => by omega)), Nat.le_trans e7 hFg.size, own_fr e8 hFg (fun g hg e => by have := (own_lt e8 hg).1; omega)⟩
      clear b0 b1 b2 b3 b4 f0 f1 f2 f3 f4 hBl hwg HF2
      obtain ⟨v0, v1, v2, v3⟩ := HG.out.2.2.2.1.four
      go_wp2_with fail
      refine (HLe.out wg).mono ?_
      rintro e wh ⟨rfl, hbh⟩
      have HH : Hid (Below wg.heap.size wg wh) := hbh
      clear v0 v1 v2 v3 hbh
      go_wp2_with fail
      go_roundw
      case rel =>
        obtain ⟨e1, e2, e3, e4, e5, e6, e7, e8⟩ := HG.out
        have hbh := HH.out
        have hj := HJ2.out.1
        refine ⟨p + z, ⟨un, ua, ub, uc, ud⟩, acc ++ [⟨yk, yy, yl, yx⟩], L2, lc2, by rw [List.length_append]; rfl, by go_num, hpz, Hrt.out, HR2.out, by rw [List.length_append]; simp only [List.length_cons, List.length_nil]; omega, e1.below hbh, e2.below hbh, e3.below hbh, e5.below hbh, ?_, bup e6 hbh, Nat.le_trans e7 hbh.size⟩
        rw [List.length_append]
        exact own_below e8 hbh
      case measure => simp [intOf]; omega
    · have hge : ¬ (p : Int) < (hi : Int) := by omega
      obtain ⟨j0, i2, j1, i4, i5, j4, j5, i7, i8, j8⟩ := HJ.out
      have hgz : greedyGo l hi di (hi - p) p t = ([], t) := by rw [show hi - p = 0 by omega]; rfl
      rw [hgz, List.append_nil] at i2
      obtain ⟨tn, ta, tb, tc, td⟩ := t
      unfold stC at i4
      simp only [] at i4 i2
      obtain ⟨⟨b0, b1, b2, b3, b4⟩, _⟩ := st_five i4
      obtain ⟨⟨c0, c1, c2, c3, c4⟩, ⟨f0, f1, f2, f3, f4⟩⟩ := st_five i5
      have hcl := i5.lt
      have HI2 := Lib.hid (And.intro i2 (And.intro i5 (And.intro i7 i8)))
      clear j0 i2 j1 i4 i5 j4 j5 i7 i8 j8 HJ hgz
      go_wp2_with fail
      go_region_with (fail)
      go_wp2_with fail
      obtain ⟨j2, j5, j7, j8⟩ := HI2.out
      have hFz : Fr (fun g => g = B + 1 + 1) wr ((((((wr.setCell ⟨B + 1 + 1, 0, none⟩ (.int .i64 tn)).setCell ⟨B + 1 + 1, 1, none⟩ (.int .i64 ta)).setCell ⟨B + 1 + 1, 2, none⟩ (.int .i64 tb)).setCell ⟨B + 1 + 1, 3, none⟩ (.int .i64 tc)).setCell ⟨B + 1 + 1, 4, none⟩ (.int .i64 td)).drew) :=
        ((((((Fr.refl (fun g => g = B + 1 + 1) wr).setCell (p := ⟨B + 1 + 1, 0, none⟩) (.inl rfl) _).setCell (p := ⟨B + 1 + 1, 1, none⟩) (.inl rfl) _).setCell (p := ⟨B + 1 + 1, 2, none⟩) (.inl rfl) _).setCell (p := ⟨B + 1 + 1, 3, none⟩) (.inl rfl) _).setCell (p := ⟨B + 1 + 1, 4, none⟩) (.inl rfl) _).drew
      obtain ⟨d1, d2⟩ := HDB.out
      refine bodyPost_ret (v := .tuple #[.slice L acc.length lc, .agg #[.int .i64 tn, .int .i64 ta, .int .i64 tb, .int .i64 tc, .int .i64 td], .int .i64 0]) (by simp [results, Tryd.results18, go_sem, Act.put, *]) rfl ?_
      rw [j2]
      exact ⟨L, lc, rfl, own_mono (own_fr j7 hFz (fun g hg e => by have := (own_lt j7 hg).1; omega)) (by omega), j8.trans (hFz.below j8.size (fun g e => by omega))⟩
end Go.Proofs.YthlflcnpmabmbaaDoor
