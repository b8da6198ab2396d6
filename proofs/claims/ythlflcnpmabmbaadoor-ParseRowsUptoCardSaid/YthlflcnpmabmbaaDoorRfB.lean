/-
  Walk of the reference's Matches: it answers the finder's matches. Conditions: the data lie in memory.
-/
import Derived.Test.YthlflcnpmabmbaaDoorRfA
import Derived.Test.YthlflcnpmabmbaaDoorFiMis
import Derived.Test.YthlflcnpmabmbaaDoorPaS
namespace Go.Proofs.YthlflcnpmabmbaaDoor
open Go.RowKit Go.Shelf
attribute [local go_sem] Oper.semAt_some
set_option maxRecDepth 100000

/-- the distances below d have been looked at, k words were alike -/
def RV (l : List UInt8) (dict : Int) (p pm d k : Nat) (acc : List (Nat × Nat)) : Prop :=
  1 ≤ d ∧ acc.length ≤ k ∧ if 3 ≤ pm then MS (mats l dict p (pm : Int)) (d - 1) k ∧ acc = (mats l dict p (pm : Int)).take k else acc = []
section
variable {l : List UInt8} {dict : Int} {p pm d k : Nat} {acc : List (Nat × Nat)}
theorem rv_start : RV l dict p pm 1 0 [] := by
  refine ⟨Nat.le_refl _, Nat.le_refl _, ?_⟩
  split
  · exact ⟨ms_start, by rw [List.take_zero]⟩
  · rfl
theorem lft_pm (h273 : pm ≤ 273) (hlen : p + pm ≤ l.length) : lft l p (pm : Int) = pm := by unfold lft; omega
theorem rv_lt (h273 : pm ≤ 273) (hlen : p + pm ≤ l.length) (h : RV l dict p pm d k acc) (hw : l.getD p 0 ≠ l.getD (p - d) 0 ∨ l.getD (p + 1) 0 ≠ l.getD (p - d + 1) 0 ∨ l.getD (p + 2) 0 ≠ l.getD (p - d + 2) 0) : RV l dict p pm (d + 1) k acc := by
  obtain ⟨h1, h2, h3⟩ := h
  refine ⟨by omega, h2, ?_⟩
  split at h3
  · rename_i h4
    rw [if_pos h4]
    refine ⟨?_, h3.2⟩
    obtain ⟨D, rfl⟩ : ∃ D, d = D + 1 := ⟨d - 1, by omega⟩
    refine ms_lt h3.1 ?_
    rw [lft_pm h273 hlen]
    rcases Nat.lt_or_ge (ext l (p - (D + 1)) p pm) 3 with h5 | h5
    · exact h5
    · have e0 := ext_eq (l := l) (q := p - (D + 1)) (p := p) (m := pm) (j := 0) (by omega)
      have e1 := ext_eq (l := l) (q := p - (D + 1)) (p := p) (m := pm) (j := 1) (by omega)
      have e2 := ext_eq (l := l) (q := p - (D + 1)) (p := p) (m := pm) (j := 2) (by omega)
      simp only [Nat.add_zero] at e0
      rcases hw with hw | hw | hw
      · exact absurd e0.symm hw
      · exact absurd e1.symm hw
      · exact absurd e2.symm hw
  · rename_i h4
    rw [if_neg h4]
    exact h3
theorem rv_hit (h273 : pm ≤ 273) (hlen : p + pm ≤ l.length) (h : RV l dict p pm d k acc) (hk : k < 32) (hd : d ≤ p) (hdi : (d : Int) ≤ dict) (h0 : l.getD p 0 = l.getD (p - d) 0) (h1 : l.getD (p + 1) 0 = l.getD (p - d + 1) 0) (h2 : l.getD (p + 2) 0 = l.getD (p - d + 2) 0) :
    RV l dict p pm (d + 1) (k + 1) (if 3 ≤ ext l (p - d) p pm then acc ++ [(ext l (p - d) p pm, d)] else acc) := by
  obtain ⟨g1, g2, g3⟩ := h
  by_cases h4 : 3 ≤ pm
  · rw [if_pos h4] at g3
    have hge : 3 ≤ ext l (p - d) p pm := ext_ge3 h4 (by unfold wordAt; rw [h0, h1, h2])
    rw [if_pos hge]
    obtain ⟨D, rfl⟩ : ∃ D, d = D + 1 := ⟨d - 1, by omega⟩
    obtain ⟨m, a1, a2, a3, a4⟩ := ms_hit g3.1 hd hdi (by rw [lft_pm h273 hlen]; exact hge) hk
    rw [lft_pm h273 hlen] at a3
    have hm : m = (ext l (p - (D + 1)) p pm, D + 1) := Prod.ext a3 a2
    subst hm
    refine ⟨by omega, by rw [List.length_append]; simp only [List.length_cons, List.length_nil]; omega, ?_⟩
    rw [if_pos h4]
    exact ⟨a4, by rw [take_snoc a1, g3.2]⟩
  · have hle := ext_le l (p - d) p pm
    rw [if_neg (show ¬ 3 ≤ ext l (p - d) p pm by omega)]
    rw [if_neg h4] at g3
    refine ⟨by omega, by omega, ?_⟩
    rw [if_neg h4]
    exact g3
theorem rv_end (h273 : pm ≤ 273) (hlen : p + pm ≤ l.length) (h : RV l dict p pm d k acc) (hs : k = 32 ∨ ¬ (d ≤ p ∧ (d : Int) ≤ dict)) : acc = mats l dict p (pm : Int) := by
  obtain ⟨g1, g2, g3⟩ := h
  by_cases h4 : 3 ≤ pm
  · rw [if_pos h4] at g3
    rw [g3.2]
    rcases hs with rfl | hs
    · exact List.take_of_length_le (mats_le _ _ _ _)
    · obtain ⟨D, rfl⟩ : ∃ D, d = D + 1 := ⟨d - 1, by omega⟩
      rw [ms_end g3.1 hs, List.take_length]
  · rw [if_neg h4] at g3
    rw [g3]
    unfold mats
    rw [if_pos (by rw [lft_pm h273 hlen]; omega)]
end
theorem mats_none {l : List UInt8} {dict : Int} {p : Nat} {most : Int} (h : l.length < p + 3) : mats l dict p most = [] := by
  unfold mats
  rw [if_pos (by unfold lft; omega)]
set_option maxHeartbeats 16000000 in
theorem MatchesR_any (A : Option Addr) (m c : Nat) (l : List UInt8) (fr di : Int) (hi p : Nat) (w : World) (h : In w A m l) (hm : m ≤ 1048576) (hhi : hi ≤ m) (hmc : m ≤ c) (hp : p < hi) :
    Calls Tryd.prog 54 #[.agg (rfC A m c fr hi di), .int .i64 p] w (StepsPost (mats l di p (pmost hi p : Int)) w) := by
  obtain ⟨i0, hi0, hz0, hz1, hz2⟩ := info_parts infoM
  have hlen := h.len
  obtain ⟨B, hB⟩ : ∃ B, w.heap.size = B := ⟨_, rfl⟩
  obtain ⟨w1, hw1⟩ : ∃ w1, w.alloc (.cells #[.slice A m c, .int .i64 fr, .int .i64 hi, .int .i64 di] 50) = w1 := ⟨_, rfl⟩
  have hb1 : Below w.heap.size w w1 := by rw [← hw1]; exact (Below.refl _ _).alloc (Nat.le_refl _) _
  have hP1 : Blk w1 B 50 #[.slice A m c, .int .i64 fr, .int .i64 hi, .int .i64 di] := by rw [← hw1]; exact Blk.new_at hB.symm
  have hz : w1.heap.size = B + 1 := by rw [← hw1, World.size_alloc, hB]
  obtain ⟨pm, hpm⟩ : ∃ pm, pmost hi p = pm := ⟨_, rfl⟩
  have hpm1 : pm ≤ 273 ∧ p + pm ≤ l.length := by rw [← hpm, hlen]; unfold pmost; omega
  have HUs : Hid (∀ d W, Calls Tryd.prog 70 #[.agg #[.slice A m c, .int .i64 fr, .int .i64 hi, .int .i64 di], .int .i64 p, .int .i64 d] W fun e w' => e = .returned (.bool (decide (1 ≤ d ∧ d ≤ (p : Int) ∧ d ≤ di))) ∧ Below W.heap.size W w') := fun d W => usableR_any A m c fr hi di p d W
  have HRu : Hid (∀ d W, Below w1.heap.size w1 W → 1 ≤ d → d ≤ p → Calls Tryd.prog 71 #[.agg #[.slice A m c, .int .i64 fr, .int .i64 hi, .int .i64 di], .int .i64 p, .int .i64 (d : Int)] W fun e w' => e = .returned (.int .i64 (ext l (p - d) p pm : Int)) ∧ Below W.heap.size W w') := fun d W hW g1 g2 => by
    rw [← hpm]
    exact runR_any A m c l fr di hi p d W ((h.below hb1).below hW) (by omega) hhi hmc (by omega) g1 g2
  rw [hpm]
  have HI := Lib.hid (And.intro (h.below hb1) (And.intro hP1 hb1))
  have HB := Lib.hid (And.intro hB hz)
  unfold rfC StepsPost
  have hp3 : (p : Int) ≤ 1048576 := by omega
  obtain ⟨c0, c1, c2, c3⟩ := Blk.four hP1
  clear h hb1 hP1 hz hpm
  by_cases hgt : m < p + 3
  · have hgt' : (m : Int) < (p : Int) + 3 := by omega
    go_enter Tryd.func54, Tryd.ntmps54
    go_wp2_with fail
    go_ret
    rw [mats_none (by omega)]
    exact ⟨none, 0, rfl, World.ownsRow_nil _ _ _ _, HI.out.2.2⟩
  · have hgt' : ¬ (m : Int) < (p : Int) + 3 := by omega
    go_enter Tryd.func54, Tryd.ntmps54
    go_wp2_with fail
    clear hw1 hB c0 c1 c2 c3
    go_loopw [5, 6, 7] (fun s5 s6 s7 wr => ∃ (d k : Nat) (acc : List (Nat × Nat)) (L : Option Addr) (lc : Nat), s5 = .slice L acc.length lc ∧ s6 = .int .i64 (k : Int) ∧ s7 = .int .i64 (d : Int) ∧ k ≤ 32 ∧ 1 ≤ d ∧ d ≤ p + 1 ∧ Hid (RV l di p pm d k acc ∧ wr.ownsRow (B + 1) 98 2 (.slice L acc.length lc) acc.length (ents acc) ∧ Below w1.heap.size w1 wr)) (fun _ _ s7 _ => p + 1 - (intOf s7).toNat)
    case atStart => exact ⟨1, 0, [], none, 0, rfl, rfl, rfl, by omega, by omega, by omega, rv_start, World.ownsRow_nil _ _ _ _, Below.refl _ _⟩
    case round =>
      obtain ⟨d, k, acc, L, lc, rfl, rfl, rfl, hk, hd1, hd2, HJ⟩ := hrel
      obtain ⟨c0, c1, c2, c3⟩ := Blk.four (HI.out.2.1.below HJ.out.2.2)
      have hacc : acc.length ≤ 32 := by have := HJ.out.1.2.1; omega
      have HUd := Lib.hid (HUs.out (d : Int) wr)
      by_cases hk32 : k < 32
      · have hk32' : (k : Int) < 32 := by omega
        by_cases hu : d ≤ p ∧ (d : Int) ≤ di
        · rw [decide_eq_true (show 1 ≤ (d : Int) ∧ (d : Int) ≤ (p : Int) ∧ (d : Int) ≤ di by omega)] at HUd
          go_wp2_with fail
          refine HUd.out.mono ?_
          rintro e wu ⟨rfl, hbu⟩
          have hb2 := bup HJ.out.2.2 hbu
          have HJ2 := Lib.hid (And.intro HJ.out.1 (And.intro (own_below HJ.out.2.1 hbu) hb2))
          have HRd := Lib.hid (HRu.out d)
          clear c0 c1 c2 c3 hbu HJ HUd
          obtain ⟨c0, c1, c2, c3⟩ := Blk.four (HI.out.2.1.below hb2)
          obtain ⟨ad, hA, z0⟩ := (HI.out.1.below hb2).at_ (j := p) (by omega)
          obtain ⟨ad1, hA1, z1⟩ := (HI.out.1.below hb2).at_ (j := p + 1) (by omega)
          obtain ⟨ad2, hA2, z2⟩ := (HI.out.1.below hb2).at_ (j := p + 2) (by omega)
          obtain ⟨ad3, hA3, z3⟩ := (HI.out.1.below hb2).at_ (j := p - d) (by omega)
          obtain ⟨ad4, hA4, z4⟩ := (HI.out.1.below hb2).at_ (j := p - d + 1) (by omega)
          obtain ⟨ad5, hA5, z5⟩ := (HI.out.1.below hb2).at_ (j := p - d + 2) (by omega)
          rw [hA] at hA1 hA2 hA3 hA4 hA5
          obtain rfl := Option.some.inj hA1
          obtain rfl := Option.some.inj hA2
          obtain rfl := Option.some.inj hA3
          obtain rfl := Option.some.inj hA4
          obtain rfl := Option.some.inj hA5
          clear hA1 hA2 hA3 hA4 hA5 hb2
          subst hA
          obtain ⟨x0, hx0⟩ : ∃ x, l.getD p 0 = x := ⟨_, rfl⟩
          obtain ⟨x1, hx1⟩ : ∃ x, l.getD (p + 1) 0 = x := ⟨_, rfl⟩
          obtain ⟨x2, hx2⟩ : ∃ x, l.getD (p + 2) 0 = x := ⟨_, rfl⟩
          obtain ⟨y0, hy0⟩ : ∃ x, l.getD (p - d) 0 = x := ⟨_, rfl⟩
          obtain ⟨y1, hy1⟩ : ∃ x, l.getD (p - d + 1) 0 = x := ⟨_, rfl⟩
          obtain ⟨y2, hy2⟩ : ∃ x, l.getD (p - d + 2) 0 = x := ⟨_, rfl⟩
          rw [hx0] at z0
          rw [hx1] at z1
          rw [hx2] at z2
          rw [hy0] at z3
          rw [hy1] at z4
          rw [hy2] at z5
          have HL : (x0 ≠ y0 ∨ x1 ≠ y1 ∨ x2 ≠ y2) → Hid (RV l di p pm (d + 1) k acc) := fun hw => rv_lt hpm1.1 hpm1.2 HJ2.out.1 (by rw [hx0, hx1, hx2, hy0, hy1, hy2]; exact hw)
          have HT : x0 = y0 → x1 = y1 → x2 = y2 → Hid (RV l di p pm (d + 1) (k + 1) (if 3 ≤ ext l (p - d) p pm then acc ++ [(ext l (p - d) p pm, d)] else acc)) := fun a b c => rv_hit hpm1.1 hpm1.2 HJ2.out.1 hk32 hu.1 hu.2 (by rw [hx0, hy0, a]) (by rw [hx1, hy1, b]) (by rw [hx2, hy2, c])
          clear hx0 hx1 hx2 hy0 hy1 hy2
          have zf : ∀ {j : Nat} {v : Value}, 0 < j → wu.cell? (ad.add j) = some v → wu.cell? ⟨ad.block, ad.off + j, none⟩ = some v := fun {j v} hj hv => by
            unfold Addr.add at hv
            rw [if_neg (by omega)] at hv
            exact hv
          have z1' := zf (by omega) z1
          have z2' := zf (by omega) z2
          have z4' := zf (by omega) z4
          have z5' := zf (by omega) z5
          clear zf z1 z2 z4 z5
          have t0 : ((p : Int)).toNat = p := by omega
          have t1 : ((p : Int) + 1).toNat = p + 1 := by omega
          have t2 : ((p : Int) + 2).toNat = p + 2 := by omega
          have t3 : ((p : Int) - (d : Int)).toNat = p - d := by omega
          have t4 : ((p : Int) + 1 - (d : Int)).toNat = p - d + 1 := by omega
          have t5 : ((p : Int) + 2 - (d : Int)).toNat = p - d + 2 := by omega
          have u0 : (p : Int) < (m : Int) := by omega
          have u1 : (p : Int) + 1 < (m : Int) := by omega
          have u2 : (p : Int) + 2 < (m : Int) := by omega
          have u3 : (p : Int) - (d : Int) < (m : Int) := by omega
          have u4 : (p : Int) + 1 - (d : Int) < (m : Int) := by omega
          have u5 : (p : Int) + 2 - (d : Int) < (m : Int) := by omega
          have v1 : (0 : Int) ≤ (p : Int) + 1 := by omega
          have v2 : (0 : Int) ≤ (p : Int) + 2 := by omega
          have v3 : (0 : Int) ≤ (p : Int) - (d : Int) := by omega
          have v4 : (0 : Int) ≤ (p : Int) + 1 - (d : Int) := by omega
          have v5 : (0 : Int) ≤ (p : Int) + 2 - (d : Int) := by omega
          have w1' : IntKind.i64.wrap ((p : Int) + 1) = (p : Int) + 1 := IntWalk.i64_in _ (by omega)
          have w2' : IntKind.i64.wrap ((p : Int) + 2) = (p : Int) + 2 := IntWalk.i64_in _ (by omega)
          have w3' : IntKind.i64.wrap ((p : Int) - (d : Int)) = (p : Int) - (d : Int) := IntWalk.i64_in _ (by omega)
          have w4' : IntKind.i64.wrap ((p : Int) + 1 - (d : Int)) = (p : Int) + 1 - (d : Int) := IntWalk.i64_in _ (by omega)
          have w5' : IntKind.i64.wrap ((p : Int) + 2 - (d : Int)) = (p : Int) + 2 - (d : Int) := IntWalk.i64_in _ (by omega)
          have hne : ∀ {a b : UInt8}, a ≠ b → ((a.toNat : Int) != (b.toNat : Int)) = true := fun {a b} h => by
            have : ((a.toNat : Int) == (b.toNat : Int)) = false := beq_eq_false_iff_ne.2 (fun e => h (UInt8.toNat_inj.1 (by omega)))
            show (!((a.toNat : Int) == (b.toNat : Int))) = true
            rw [this]; rfl
          have heq : ∀ {a b : UInt8}, a = b → ((a.toNat : Int) != (b.toNat : Int)) = false := fun {a b} h => by subst h; simp
          by_cases a0 : x0 = y0
          · by_cases a1 : x1 = y1
            · by_cases a2 : x2 = y2
              · have H := HT a0 a1 a2
                have f0 := heq a0
                have f1 := heq a1
                have f2 := heq a2
                obtain ⟨r, hr⟩ : ∃ r, ext l (p - d) p pm = r := ⟨_, rfl⟩
                rw [hr] at H HRd
                have hr273 : r ≤ 273 := by rw [← hr]; exact Nat.le_trans (ext_le _ _ _ _) hpm1.1
                clear a0 a1 a2 HT HL hne heq hr
                go_wp2_with fail
                go_quiet (fail)
                go_wp2_with fail
                refine (HRd.out _ (below_drewN HJ2.out.2.2 _) hd1 hu.1).mono ?_
                rintro e wv ⟨rfl, hbv⟩
                have hbv' : Below wu.heap.size wu wv := bup (below_drewN (Below.refl _ _) _) hbv
                have hBv : B + 1 ≤ wv.heap.size := by have := HB.out.2; have := (bup HJ2.out.2.2 hbv').size; omega
                have HJ3 := Lib.hid (And.intro (own_below HJ2.out.2.1 hbv') (bup HJ2.out.2.2 hbv'))
                clear hbv hbv' c0 c1 c2 c3 z0 z1' z2' z3 z4' z5' t0 t1 t2 t3 t4 t5 u0 u1 u2 u3 u4 u5 v1 v2 v3 v4 v5 w1' w2' w3' w4' w5' f0 f1 f2 HJ2 HRd
                by_cases hr3 : 3 ≤ r
                · have hr3' : (3 : Int) ≤ (r : Int) := by omega
                  rw [if_pos hr3] at H
                  have he2 : ents (acc ++ [(r, d)]) = ents acc ++ [.int .i64 (r : Int), .int .i64 (d : Int)] := by rw [ents_append]; rfl
                  go_wp2_with (at_builtin; refine wpList_append_rd (w := wv.alloc (.cells #[.int .i64 (r : Int), .int .i64 (d : Int)] 98)) rfl (.tmp 81) (.tmp 85) 86 rfl (B + 1) 98 i0 _ 2 16 Tryd.underlying86 hi0 hz0 hz1 hz2 rfl (by decide) (.slice L acc.length lc) acc.length (ents acc) rfl (HJ3.out.1.alloc _) (some ⟨wv.heap.size, 0, none⟩) 1 1 [.int .i64 (r : Int), .int .i64 (d : Int)] rfl (Rd.of_blk (Blk.new _ _ _) rfl rfl) (by simp [Value.oneCell']) (by simp only [maxLen]; omega) (by omega) (by simp; omega) ?_; intro L2 lc2 we hown hg hat)
                  rw [← he2] at hown
                  obtain ⟨j1, j2⟩ := HJ3.out
                  have hFe : Fr (fun g => some g = (Value.slice L acc.length lc).ownBlock) wv we := ((Fr.refl _ wv).alloc _).grown hg (fun g hg' => .inl hg'.symm)
                  have hol : ∀ g, some g = (Value.slice L acc.length lc).ownBlock → B + 1 ≤ g := fun g e => (own_lt j1 e.symm).1
                  have hbe : Below w1.heap.size w1 we := j2.trans (hFe.below j2.size (fun g e => by have := hol _ e; have := HB.out.2; omega))
                  have HE := Lib.hid (And.intro hown hbe)
                  clear hown hg hat j1 j2 hFe hol hbe
                  go_roundw
                  case rel => exact ⟨d + 1, k + 1, acc ++ [(r, d)], L2, lc2, by rw [List.length_append]; rfl, by go_num, by go_num, by omega, by omega, by omega, H.out, by rw [List.length_append]; exact HE.out.1, HE.out.2⟩
                  case measure => simp [intOf]; omega
                · have hr3' : ¬ (3 : Int) ≤ (r : Int) := by omega
                  rw [if_neg hr3] at H
                  go_wp2_with fail
                  go_roundw
                  case rel => exact ⟨d + 1, k + 1, acc, L, lc, rfl, by go_num, by go_num, by omega, by omega, by omega, H.out, HJ3.out.1, HJ3.out.2⟩
                  case measure => simp [intOf]; omega
              · have H := HL (.inr (.inr a2))
                have f0 := heq a0
                have f1 := heq a1
                have f2 := hne a2
                clear a0 a1 a2 HT HL hne heq
                go_wp2_with fail
                go_quiet (fail)
                go_wp2_with fail
                go_roundw
                case rel => exact ⟨d + 1, k, acc, L, lc, rfl, rfl, by go_num, by omega, by omega, by omega, H.out, own_below HJ2.out.2.1 (below_drewN (Below.refl _ _) _), below_drewN HJ2.out.2.2 _⟩
                case measure => simp [intOf]; omega
            · have H := HL (.inr (.inl a1))
              have f0 := heq a0
              have f1 := hne a1
              clear a0 a1 HT HL hne heq
              go_wp2_with fail
              go_quiet (fail)
              go_wp2_with fail
              go_roundw
              case rel => exact ⟨d + 1, k, acc, L, lc, rfl, rfl, by go_num, by omega, by omega, by omega, H.out, own_below HJ2.out.2.1 (below_drewN (Below.refl _ _) _), below_drewN HJ2.out.2.2 _⟩
              case measure => simp [intOf]; omega
          · have H := HL (.inl a0)
            have f0 := hne a0
            clear a0 HT HL hne heq
            go_wp2_with fail
            go_quiet (fail)
            go_wp2_with fail
            go_roundw
            case rel => exact ⟨d + 1, k, acc, L, lc, rfl, rfl, by go_num, by omega, by omega, by omega, H.out, own_below HJ2.out.2.1 (below_drewN (Below.refl _ _) _), below_drewN HJ2.out.2.2 _⟩
            case measure => simp [intOf]; omega
        · rw [decide_eq_false (show ¬ (1 ≤ (d : Int) ∧ (d : Int) ≤ (p : Int) ∧ (d : Int) ≤ di) by omega)] at HUd
          go_wp2_with fail
          refine HUd.out.mono ?_
          rintro e wu ⟨rfl, hbu⟩
          go_wp2_with fail
          go_ret
          have := rv_end hpm1.1 hpm1.2 HJ.out.1 (.inr hu)
          subst this
          exact ⟨L, lc, rfl, own_mono (own_below HJ.out.2.1 hbu) (by have := HB.out.1; omega), bup HI.out.2.2 (bup HJ.out.2.2 hbu)⟩
      · have hk32' : ¬ (k : Int) < 32 := by omega
        go_wp2_with fail
        go_ret
        have := rv_end hpm1.1 hpm1.2 HJ.out.1 (.inl (by omega))
        subst this
        exact ⟨L, lc, rfl, own_mono HJ.out.2.1 (by have := HB.out.1; omega), bup HI.out.2.2 HJ.out.2.2⟩
end Go.Proofs.YthlflcnpmabmbaaDoor
