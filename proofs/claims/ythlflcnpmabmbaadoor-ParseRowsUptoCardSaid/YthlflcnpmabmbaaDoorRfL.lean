/-
  The law ParseRows holds: each of its calls answers as one plain function says. Conditions: the data lie in memory, at most 1048576 of them.
-/
import Derived.Test.YthlflcnpmabmbaaDoorRgT
import Derived.Test.YthlflcnpmabmbaaDoorMeG
namespace Go.Proofs.YthlflcnpmabmbaaDoor
open Go.RowKit Go.Shelf
attribute [local go_sem] Oper.semAt_some
set_option maxRecDepth 100000

/-- a row that lies at z or behind it -/
def Far (z : Nat) (W : World) (L : Option Addr) (ls : List Sy) : Prop := InS W L ls.length ls ∧ ∀ ad, L = some ad → 0 < ls.length → z ≤ ad.block
def AllF (z : Nat) (W : World) (rs : List (Option Addr × List Sy)) : Prop := ∀ r, r ∈ rs → Far z W r.1 r.2
section
variable {z lo n lc : Nat} {W W' : World} {L : Option Addr} {ls : List Sy} {rs : List (Option Addr × List Sy)} {S : Nat → Prop}
theorem AllF.nil : AllF z W [] := fun r hr => by cases hr
theorem AllF.below (h : AllF z W rs) (hb : Below W.heap.size W W') : AllF z W' rs := fun r hr => ⟨(h r hr).1.below hb, (h r hr).2⟩
theorem AllF.fr (h : AllF z W rs) (hf : Fr S W W') (hS : ∀ q, S q → q < z) : AllF z W' rs := fun r hr =>
  ⟨(h r hr).1.fr hf (fun h0 ad had hs => by have := (h r hr).2 ad had h0; have := hS _ hs; omega), (h r hr).2⟩
theorem Far.of_own (h : W.ownsRow lo 24 4 (.slice L ls.length lc) ls.length (syc ls)) (hz : z ≤ lo) (hn : ls.length ≤ 1048600) : Far z W L ls :=
  ⟨InS.of_own h hn, fun _ had _ => Nat.le_trans hz (own_lt h (own_addr h had)).1⟩
theorem AllF.add (h : AllF z W rs) (hr : Far z W L ls) : AllF z W ((L, ls) :: rs) := fun r hm => by
  rcases List.mem_cons.1 hm with rfl | hm
  · exact hr
  · exact h r hm
end
/-- what the law's calls find -/
structure RB (B S T R g m cap D c : Nat) (A : Option Addr) (l : List UInt8) (fr tz di nu ra rb rc rd : Int) (W : World) : Prop where
  x : Blk W B 45 #[.slice A m c, .int .i64 fr, .int .i64 tz, .int .i64 di, .int .i64 nu, .int .i64 ra, .int .i64 rb, .int .i64 rc, .int .i64 rd]
  s : Blk W S 37 #[.int .i64 nu, .int .i64 ra, .int .i64 rb, .int .i64 rc, .int .i64 rd]
  t : Blk W T 48 #[.int .i64 nu, .int .i64 ra, .int .i64 rb, .int .i64 rc, .int .i64 rd]
  r : Blk W R 50 #[.slice A m c, .int .i64 fr, .int .i64 tz, .int .i64 di]
  ia : In W A m l
  ib : In W (some ⟨g, 0, none⟩) m l
  ob : W.ownsRow D 5 1 (.slice (some ⟨g, 0, none⟩) (m + 1) cap) (m + 1) (bys (l ++ [165]))
  la : Laid W
set_option maxHeartbeats 40000000 in
theorem rows_law (A : Option Addr) (m c : Nat) (l : List UInt8) (fr tz di : Int) (s : St) (w : World) (h : In w A m l) (hm : m ≤ 1048576) (hmc : m ≤ c) (hl : Laid w) :
    Calls Tryd.prog 5 #[.agg (pcC A m c fr tz di s)] w fun e w' => e = .returned (.bool true) ∧ Below w.heap.size w w' := by
  obtain ⟨⟨G, gs⟩, hG⟩ : ∃ x, grdL l fr tz di s = x := ⟨_, rfl⟩
  obtain ⟨⟨C, cs⟩, hC⟩ : ∃ x, chpL l fr tz di s = x := ⟨_, rfl⟩
  obtain ⟨P, hP⟩ : ∃ x, plnL l fr tz di = x := ⟨_, rfl⟩
  have hGl := grdL_len l fr tz di s
  have hCl := chpL_len l fr tz di s
  have hPl := plnL_len l fr tz di
  rw [hG, h.len] at hGl
  rw [hC, h.len] at hCl
  rw [hP, h.len] at hPl
  simp only [] at hGl hCl
  obtain ⟨e1, he1⟩ : ∃ e1, rowE m fr tz di s = e1 := ⟨_, rfl⟩
  obtain ⟨e3, he3⟩ : ∃ e3, refE m fr tz di = e3 := ⟨_, rfl⟩
  obtain ⟨gn, ga, gb, gc, gd⟩ := gs
  obtain ⟨cn, ca, cb, cc, cd⟩ := cs
  have hal := fun (x : St) => alike_true x
  have K1 := fun A c (W : World) (hI : In W A m l) h0 hmc (hL : Laid W) => Greedy_all A m c l fr tz di s W hI h0 hmc hm hL
  have K2 := fun A c (W : World) (hI : In W A m l) h0 hmc (hL : Laid W) => Cheap_all A m c l fr tz di s W hI h0 hmc hm hL
  have K3 := fun A c (W : World) (hI : In W A m l) h0 hmc (hL : Laid W) => Plan_all A m c l fr tz di W hI h0 hmc hm hL
  have K4 := fun (W : World) (hI : In W A m l) => GreedyR_all A m c l fr tz di s W hI hmc hm
  have K5 := fun (W : World) (hI : In W A m l) => CheapR_all A m c l fr tz di s W hI hmc hm
  have K6 := fun (W : World) (hI : In W A m l) => PlanR_all A m c l fr tz di W hI hmc hm
  rw [hG, he1] at K1 K4
  rw [hC, he1] at K2 K5
  rw [hP, he3] at K3 K6
  have K7 := fun (g cap D : Nat) (W : World) (ho : W.ownsRow D 5 1 (.slice (some ⟨g, 0, none⟩) m cap) m (bys l)) (hLg : ∀ W', Fr (fun q => q = g) W W' → Laid W') => anew_true A m c fr tz di s.n s.a s.b s.c s.d s g m cap D l W ho h.len hm hLg
  have KA := hal ⟨gn, ga, gb, gc, gd⟩
  have KB := hal ⟨cn, ca, cb, cc, cd⟩
  obtain ⟨nu, ra, rb, rc, rd⟩ := s
  unfold stC at K1 K2 K4 K5 K7 KA KB
  unfold RowOut stC at K1 K2 K4 K5
  unfold PlanOut at K3 K6
  simp only [] at K1 K2 K3 K4 K5 K6 K7 KA KB
  have HK1 := Lib.hid K1
  have HK2 := Lib.hid K2
  have HK3 := Lib.hid K3
  have HK4 := Lib.hid K4
  have HK5 := Lib.hid K5
  have HK6 := Lib.hid K6
  have HK7 := Lib.hid K7
  have HKA := Lib.hid KA
  have HKB := Lib.hid KB
  clear hG hC hP he1 he3 hal K1 K2 K3 K4 K5 K6 K7 KA KB
  unfold pcC
  simp only []
  obtain ⟨B, hB⟩ : ∃ B, w.heap.size = B := ⟨_, rfl⟩
  obtain ⟨w1, hw1⟩ : ∃ w1, w.alloc (.cells #[.slice A m c, .int .i64 fr, .int .i64 tz, .int .i64 di, .int .i64 nu, .int .i64 ra, .int .i64 rb, .int .i64 rc, .int .i64 rd] 45) = w1 := ⟨_, rfl⟩
  have hb1 : Below w.heap.size w w1 := by rw [← hw1]; exact (Below.refl _ _).alloc (Nat.le_refl _) _
  have hX1 : Blk w1 B 45 #[.slice A m c, .int .i64 fr, .int .i64 tz, .int .i64 di, .int .i64 nu, .int .i64 ra, .int .i64 rb, .int .i64 rc, .int .i64 rd] := by rw [← hw1]; exact Blk.new_at hB.symm
  have H1 := Lib.hid (And.intro hb1 (And.intro hX1 (And.intro (h.below hb1) (hl.below hb1))))
  obtain ⟨x0, x1, x2, x3, x4, x5, x6, x7, x8⟩ := Blk.nine_ hX1
  have HLe := Lib.hid (lent_any A m c l w1 H1.out.2.2.1 hm)
  have HBz := Lib.hid hB
  have HL0 := Lib.hid hl
  clear hb1 hX1 h hl
  go_enter Tryd.func5, Tryd.ntmps5
  go_wp2_with fail
  clear hw1 hB
  refine HLe.out.mono ?_
  rintro e w2 ⟨g, cap, rfl, ho2, hb2⟩
  have hcap : m + 1 ≤ cap := own_le ho2
  obtain ⟨D, hD⟩ : ∃ D, w1.heap.size = D := ⟨_, rfl⟩
  rw [hD] at ho2
  have H2 := Lib.hid (And.intro ho2 (And.intro hb2 hD))
  clear ho2 hD HLe x0 x1 x2 x3 x4 x5 x6 x7 x8
  obtain ⟨x0, x1, x2, x3, x4, x5, x6, x7, x8⟩ := Blk.nine_ (H1.out.2.1.below hb2)
  clear hb2
  go_upto_region 3 with (fail)
  obtain ⟨S, hS⟩ : ∃ S, w2.heap.size = S := ⟨_, rfl⟩
  obtain ⟨wS, hwS⟩ : ∃ wS, w2.alloc (.cells #[.int .i64 nu, .int .i64 ra, .int .i64 rb, .int .i64 rc, .int .i64 rd] 37) = wS := ⟨_, rfl⟩
  have hbS : Below w2.heap.size w2 wS := by rw [← hwS]; exact (Below.refl _ _).alloc (Nat.le_refl _) _
  have hkS : Blk wS S 37 #[.int .i64 nu, .int .i64 ra, .int .i64 rb, .int .i64 rc, .int .i64 rd] := by rw [← hwS]; exact Blk.new_at hS.symm
  simp only [hwS, hS]
  have HS_ := Lib.hid (And.intro hbS hkS)
  clear hwS hS x0 x1 x2 x3 x4 x5 x6 x7 x8
  obtain ⟨x0, x1, x2, x3, x4, x5, x6, x7, x8⟩ := Blk.nine_ ((H1.out.2.1.below H2.out.2.1).below hbS)
  clear hbS hkS
  go_upto_region 4 with (fail)
  obtain ⟨T, hT⟩ : ∃ T, wS.heap.size = T := ⟨_, rfl⟩
  obtain ⟨wT, hwT⟩ : ∃ wT, wS.alloc (.cells #[.int .i64 nu, .int .i64 ra, .int .i64 rb, .int .i64 rc, .int .i64 rd] 48) = wT := ⟨_, rfl⟩
  have hbT : Below wS.heap.size wS wT := by rw [← hwT]; exact (Below.refl _ _).alloc (Nat.le_refl _) _
  have hkT : Blk wT T 48 #[.int .i64 nu, .int .i64 ra, .int .i64 rb, .int .i64 rc, .int .i64 rd] := by rw [← hwT]; exact Blk.new_at hT.symm
  simp only [hwT, hT]
  have HT_ := Lib.hid (And.intro hbT hkT)
  clear hwT hT x0 x1 x2 x3 x4 x5 x6 x7 x8
  obtain ⟨x0, x1, x2, x3, x4, x5, x6, x7, x8⟩ := Blk.nine_ (((H1.out.2.1.below H2.out.2.1).below HS_.out.1).below hbT)
  clear hbT hkT
  go_upto_region 5 with (fail)
  obtain ⟨R, hR⟩ : ∃ R, wT.heap.size = R := ⟨_, rfl⟩
  obtain ⟨wR, hwR⟩ : ∃ wR, wT.alloc (.cells #[.slice A m c, .int .i64 fr, .int .i64 tz, .int .i64 di] 50) = wR := ⟨_, rfl⟩
  have hbR : Below wT.heap.size wT wR := by rw [← hwR]; exact (Below.refl _ _).alloc (Nat.le_refl _) _
  have hkR : Blk wR R 50 #[.slice A m c, .int .i64 fr, .int .i64 tz, .int .i64 di] := by rw [← hwR]; exact Blk.new_at hR.symm
  simp only [hwR, hR]
  obtain ⟨z, hz⟩ : ∃ z, wR.heap.size = z := ⟨_, rfl⟩
  have hall : Below w1.heap.size w1 wR := bup (bup (bup H2.out.2.1 HS_.out.1) HT_.out.1) hbR
  have HQ : Hid (∀ W, Below wR.heap.size wR W → RB B S T R g m cap D c A l fr tz di nu ra rb rc rd W) := fun W hW => by
    have ob := own_below (own_below (own_below (own_below H2.out.1 HS_.out.1) HT_.out.1) hbR) hW
    have ib : In W (some ⟨g, 0, none⟩) m l := by
      have hp := own_take ob (m := m) (by omega)
      have e : (bys (l ++ [165])).take (m * 1) = bys l := by
        have hln := H1.out.2.2.1.len
        rw [bys_snoc, List.take_append_of_le_length (by unfold bys; simp; omega), List.take_of_length_le (by unfold bys; simp; omega)]
      rw [e] at hp
      exact In.of_own hp (by omega)
    exact ⟨(H1.out.2.1.below hall).below hW, ((HS_.out.2.below HT_.out.1).below hbR).below hW, (HT_.out.2.below hbR).below hW, hkR.below hW, (H1.out.2.2.1.below hall).below hW, ib, ob, (H1.out.2.2.2.below hall).below hW⟩
  have HZ : Hid (g < z ∧ B < z ∧ w.heap.size = B ∧ D ≤ g ∧ B ≤ D ∧ Below w.heap.size w wR ∧ wR.heap.size = z) := by
    have a1 := own_lt H2.out.1 (g := g) rfl
    have a2 := hall.size
    have a3 := (H1.out.2.1).lt
    have a4 := (bup (bup HS_.out.1 HT_.out.1) hbR).size
    have a5 := H2.out.2.2
    exact ⟨by omega, by omega, HBz.out, a1.1, by omega, bup H1.out.1 hall, hz⟩
  clear hwR hR hz hall hbR hkR HS_ HT_ H1 H2 HBz x0 x1 x2 x3 x4 x5 x6 x7 x8
  have HW0 : Hid (Below wR.heap.size wR wR) := Below.refl _ _
  have hzz : z ≤ wR.heap.size := by have := HZ.out.2.2.2.2.2.2; omega
  have H11 : Hid (Below wR.heap.size wR wR ∧ z ≤ wR.heap.size) := ⟨Below.refl _ _, hzz⟩
  clear hzz HW0
  obtain ⟨x0, x1, x2, x3, x4, x5, x6, x7, x8⟩ := Blk.nine_ (HQ.out wR H11.out.1).x
  obtain ⟨⟨s0, s1, s2, s3, s4⟩, _⟩ := st_five (HQ.out wR H11.out.1).s
  have HC1 := Lib.hid (HK1.out (some ⟨g, 0, none⟩) cap wR (HQ.out wR H11.out.1).ib (fun _ => .inr ⟨_, rfl⟩) (by omega) (HQ.out wR H11.out.1).la)
  go_wp2_with fail
  refine HC1.out.mono ?_
  rintro e wc1 ⟨L1, lc1, rfl, hr1, hbc1⟩
  clear HC1 x0 x1 x2 x3 x4 x5 x6 x7 x8 s0 s1 s2 s3 s4
  obtain ⟨p1, hp1⟩ : ∃ p, wc1.heap.size = p := ⟨_, rfl⟩
  obtain ⟨wd1, hwd1⟩ : ∃ x, wc1.alloc (.cells #[.int .i64 gn, .int .i64 ga, .int .i64 gb, .int .i64 gc, .int .i64 gd] 37) = x := ⟨_, rfl⟩
  have hbd1 : Below wR.heap.size wR wd1 := by rw [← hwd1]; exact bmk hbc1 _
  have hrd1 : wd1.ownsRow wR.heap.size 24 4 (.slice L1 G.length lc1) G.length (syc G) := by rw [← hwd1]; exact hr1.alloc _
  have hk1 : Blk wd1 p1 37 #[.int .i64 gn, .int .i64 ga, .int .i64 gb, .int .i64 gc, .int .i64 gd] := by rw [← hwd1]; exact Blk.new_at hp1.symm
  obtain ⟨z1, hz1⟩ : ∃ a, wd1.heap.size = a := ⟨_, rfl⟩
  have HS1 : Hid ((∀ q, (Value.slice L1 G.length lc1).ownBlock = some q → z ≤ q ∧ q < z1) ∧ z ≤ z1) := ⟨fun q hq => by have h1 := own_lt hrd1 hq; have h2 := H11.out.2; omega, by have h1 := hbd1.size; have h2 := H11.out.2; omega⟩
  have H12 : Hid (Below wR.heap.size wR wd1 ∧ z ≤ wd1.heap.size ∧ wd1.ownsRow z 24 4 (.slice L1 G.length lc1) G.length (syc G) ∧ z1 ≤ wd1.heap.size ∧ Blk wd1 p1 37 #[.int .i64 gn, .int .i64 ga, .int .i64 gb, .int .i64 gc, .int .i64 gd]) := ⟨bup H11.out.1 hbd1, Nat.le_trans H11.out.2 hbd1.size, own_mono hrd1 H11.out.2, Nat.le_of_eq hz1.symm, hk1⟩
  clear H11
  clear hz1
  clear hr1 hbc1 hbd1 hrd1 hk1
  obtain ⟨x0, x1, x2, x3, x4, x5, x6, x7, x8⟩ := Blk.nine_ (HQ.out wd1 H12.out.1).x
  obtain ⟨⟨s0, s1, s2, s3, s4⟩, _⟩ := st_five (HQ.out wd1 H12.out.1).s
  have HC2 := Lib.hid (HK2.out (some ⟨g, 0, none⟩) cap wd1 (HQ.out wd1 H12.out.1).ib (fun _ => .inr ⟨_, rfl⟩) (by omega) (HQ.out wd1 H12.out.1).la)
  go_wp2_with fail
  clear hwd1 hp1
  refine HC2.out.mono ?_
  rintro e wc2 ⟨L2, lc2, rfl, hr2, hbc2⟩
  clear HC2 x0 x1 x2 x3 x4 x5 x6 x7 x8 s0 s1 s2 s3 s4
  obtain ⟨p2, hp2⟩ : ∃ p, wc2.heap.size = p := ⟨_, rfl⟩
  obtain ⟨wd2, hwd2⟩ : ∃ x, wc2.alloc (.cells #[.int .i64 cn, .int .i64 ca, .int .i64 cb, .int .i64 cc, .int .i64 cd] 37) = x := ⟨_, rfl⟩
  have hbd2 : Below wd1.heap.size wd1 wd2 := by rw [← hwd2]; exact bmk hbc2 _
  have hrd2 : wd2.ownsRow wd1.heap.size 24 4 (.slice L2 C.length lc2) C.length (syc C) := by rw [← hwd2]; exact hr2.alloc _
  have hk2 : Blk wd2 p2 37 #[.int .i64 cn, .int .i64 ca, .int .i64 cb, .int .i64 cc, .int .i64 cd] := by rw [← hwd2]; exact Blk.new_at hp2.symm
  obtain ⟨z2, hz2⟩ : ∃ a, wd2.heap.size = a := ⟨_, rfl⟩
  have HS2 : Hid ((∀ q, (Value.slice L2 C.length lc2).ownBlock = some q → z1 ≤ q ∧ q < z2) ∧ z1 ≤ z2) := ⟨fun q hq => by have h1 := own_lt hrd2 hq; have h2 := H12.out.2.2.2.1; omega, by have h1 := hbd2.size; have h2 := H12.out.2.2.2.1; omega⟩
  have H13 : Hid (Below wR.heap.size wR wd2 ∧ z ≤ wd2.heap.size ∧ wd2.ownsRow z 24 4 (.slice L1 G.length lc1) G.length (syc G) ∧ z1 ≤ wd2.heap.size ∧ Blk wd2 p1 37 #[.int .i64 gn, .int .i64 ga, .int .i64 gb, .int .i64 gc, .int .i64 gd] ∧ wd2.ownsRow z 24 4 (.slice L2 C.length lc2) C.length (syc C) ∧ z2 ≤ wd2.heap.size ∧ Blk wd2 p2 37 #[.int .i64 cn, .int .i64 ca, .int .i64 cb, .int .i64 cc, .int .i64 cd]) := ⟨bup H12.out.1 hbd2, Nat.le_trans H12.out.2.1 hbd2.size, own_below H12.out.2.2.1 hbd2, Nat.le_trans H12.out.2.2.2.1 hbd2.size, H12.out.2.2.2.2.below hbd2, own_mono hrd2 H12.out.2.1, Nat.le_of_eq hz2.symm, hk2⟩
  clear H12
  clear hz2
  clear hr2 hbc2 hbd2 hrd2 hk2
  obtain ⟨x0, x1, x2, x3, x4, x5, x6, x7, x8⟩ := Blk.nine_ (HQ.out wd2 H13.out.1).x
  have HC3 := Lib.hid (HK3.out (some ⟨g, 0, none⟩) cap wd2 (HQ.out wd2 H13.out.1).ib (fun _ => .inr ⟨_, rfl⟩) (by omega) (HQ.out wd2 H13.out.1).la)
  go_wp2_with fail
  clear hwd2 hp2
  refine HC3.out.mono ?_
  rintro e wc3 ⟨L3, lc3, rfl, hr3, hbc3⟩
  clear HC3 x0 x1 x2 x3 x4 x5 x6 x7 x8
  obtain ⟨z3, hz3⟩ : ∃ a, wc3.heap.size = a := ⟨_, rfl⟩
  have HS3 : Hid ((∀ q, (Value.slice L3 P.length lc3).ownBlock = some q → z2 ≤ q ∧ q < z3) ∧ z2 ≤ z3) := ⟨fun q hq => by have h1 := own_lt hr3 hq; have h2 := H13.out.2.2.2.2.2.2.1; omega, by have h1 := hbc3.size; have h2 := H13.out.2.2.2.2.2.2.1; omega⟩
  have H14 : Hid (Below wR.heap.size wR wc3 ∧ z ≤ wc3.heap.size ∧ wc3.ownsRow z 24 4 (.slice L1 G.length lc1) G.length (syc G) ∧ z1 ≤ wc3.heap.size ∧ Blk wc3 p1 37 #[.int .i64 gn, .int .i64 ga, .int .i64 gb, .int .i64 gc, .int .i64 gd] ∧ wc3.ownsRow z 24 4 (.slice L2 C.length lc2) C.length (syc C) ∧ z2 ≤ wc3.heap.size ∧ Blk wc3 p2 37 #[.int .i64 cn, .int .i64 ca, .int .i64 cb, .int .i64 cc, .int .i64 cd] ∧ wc3.ownsRow z 24 4 (.slice L3 P.length lc3) P.length (syc P) ∧ z3 ≤ wc3.heap.size) := ⟨bup H13.out.1 hbc3, Nat.le_trans H13.out.2.1 hbc3.size, own_below H13.out.2.2.1 hbc3, Nat.le_trans H13.out.2.2.2.1 hbc3.size, H13.out.2.2.2.2.1.below hbc3, own_below H13.out.2.2.2.2.2.1 hbc3, Nat.le_trans H13.out.2.2.2.2.2.2.1 hbc3.size, H13.out.2.2.2.2.2.2.2.below hbc3, own_mono hr3 H13.out.2.1, Nat.le_of_eq hz3.symm⟩
  clear H13
  clear hz3
  clear hr3 hbc3
  obtain ⟨r0, r1, r2, r3⟩ := Blk.four (HQ.out wc3 H14.out.1).r
  obtain ⟨⟨s0, s1, s2, s3, s4⟩, _⟩ := st_five (HQ.out wc3 H14.out.1).t
  have HC4 := Lib.hid (HK4.out wc3 (HQ.out wc3 H14.out.1).ia)
  go_wp2_with fail
  refine HC4.out.mono ?_
  rintro e wc4 ⟨L4, lc4, rfl, hr4, hbc4⟩
  clear HC4 r0 r1 r2 r3 s0 s1 s2 s3 s4
  obtain ⟨p4, hp4⟩ : ∃ p, wc4.heap.size = p := ⟨_, rfl⟩
  obtain ⟨wd4, hwd4⟩ : ∃ x, wc4.alloc (.cells #[.int .i64 gn, .int .i64 ga, .int .i64 gb, .int .i64 gc, .int .i64 gd] 48) = x := ⟨_, rfl⟩
  have hbd4 : Below wc3.heap.size wc3 wd4 := by rw [← hwd4]; exact bmk hbc4 _
  have hrd4 : wd4.ownsRow wc3.heap.size 24 4 (.slice L4 G.length lc4) G.length (syc G) := by rw [← hwd4]; exact hr4.alloc _
  have hk4 : Blk wd4 p4 48 #[.int .i64 gn, .int .i64 ga, .int .i64 gb, .int .i64 gc, .int .i64 gd] := by rw [← hwd4]; exact Blk.new_at hp4.symm
  have H15 : Hid (Below wR.heap.size wR wd4 ∧ z ≤ wd4.heap.size ∧ wd4.ownsRow z 24 4 (.slice L1 G.length lc1) G.length (syc G) ∧ z1 ≤ wd4.heap.size ∧ Blk wd4 p1 37 #[.int .i64 gn, .int .i64 ga, .int .i64 gb, .int .i64 gc, .int .i64 gd] ∧ wd4.ownsRow z 24 4 (.slice L2 C.length lc2) C.length (syc C) ∧ z2 ≤ wd4.heap.size ∧ Blk wd4 p2 37 #[.int .i64 cn, .int .i64 ca, .int .i64 cb, .int .i64 cc, .int .i64 cd] ∧ wd4.ownsRow z 24 4 (.slice L3 P.length lc3) P.length (syc P) ∧ z3 ≤ wd4.heap.size ∧ AllF z3 wd4 [(L4, G)] ∧ Blk wd4 p4 48 #[.int .i64 gn, .int .i64 ga, .int .i64 gb, .int .i64 gc, .int .i64 gd]) := ⟨bup H14.out.1 hbd4, Nat.le_trans H14.out.2.1 hbd4.size, own_below H14.out.2.2.1 hbd4, Nat.le_trans H14.out.2.2.2.1 hbd4.size, H14.out.2.2.2.2.1.below hbd4, own_below H14.out.2.2.2.2.2.1 hbd4, Nat.le_trans H14.out.2.2.2.2.2.2.1 hbd4.size, H14.out.2.2.2.2.2.2.2.1.below hbd4, own_below H14.out.2.2.2.2.2.2.2.2.1 hbd4, Nat.le_trans H14.out.2.2.2.2.2.2.2.2.2 hbd4.size, (AllF.nil).add (Far.of_own hrd4 H14.out.2.2.2.2.2.2.2.2.2 (by omega)), hk4⟩
  clear H14
  clear hr4 hbc4 hbd4 hrd4 hk4
  obtain ⟨r0, r1, r2, r3⟩ := Blk.four (HQ.out wd4 H15.out.1).r
  obtain ⟨⟨s0, s1, s2, s3, s4⟩, _⟩ := st_five (HQ.out wd4 H15.out.1).t
  have HC5 := Lib.hid (HK5.out wd4 (HQ.out wd4 H15.out.1).ia)
  go_wp2_with fail
  clear hwd4 hp4
  refine HC5.out.mono ?_
  rintro e wc5 ⟨L5, lc5, rfl, hr5, hbc5⟩
  clear HC5 r0 r1 r2 r3 s0 s1 s2 s3 s4
  obtain ⟨p5, hp5⟩ : ∃ p, wc5.heap.size = p := ⟨_, rfl⟩
  obtain ⟨wd5, hwd5⟩ : ∃ x, wc5.alloc (.cells #[.int .i64 cn, .int .i64 ca, .int .i64 cb, .int .i64 cc, .int .i64 cd] 48) = x := ⟨_, rfl⟩
  have hbd5 : Below wd4.heap.size wd4 wd5 := by rw [← hwd5]; exact bmk hbc5 _
  have hrd5 : wd5.ownsRow wd4.heap.size 24 4 (.slice L5 C.length lc5) C.length (syc C) := by rw [← hwd5]; exact hr5.alloc _
  have hk5 : Blk wd5 p5 48 #[.int .i64 cn, .int .i64 ca, .int .i64 cb, .int .i64 cc, .int .i64 cd] := by rw [← hwd5]; exact Blk.new_at hp5.symm
  have H16 : Hid (Below wR.heap.size wR wd5 ∧ z ≤ wd5.heap.size ∧ wd5.ownsRow z 24 4 (.slice L1 G.length lc1) G.length (syc G) ∧ z1 ≤ wd5.heap.size ∧ Blk wd5 p1 37 #[.int .i64 gn, .int .i64 ga, .int .i64 gb, .int .i64 gc, .int .i64 gd] ∧ wd5.ownsRow z 24 4 (.slice L2 C.length lc2) C.length (syc C) ∧ z2 ≤ wd5.heap.size ∧ Blk wd5 p2 37 #[.int .i64 cn, .int .i64 ca, .int .i64 cb, .int .i64 cc, .int .i64 cd] ∧ wd5.ownsRow z 24 4 (.slice L3 P.length lc3) P.length (syc P) ∧ z3 ≤ wd5.heap.size ∧ AllF z3 wd5 [(L5, C), (L4, G)] ∧ Blk wd5 p4 48 #[.int .i64 gn, .int .i64 ga, .int .i64 gb, .int .i64 gc, .int .i64 gd] ∧ Blk wd5 p5 48 #[.int .i64 cn, .int .i64 ca, .int .i64 cb, .int .i64 cc, .int .i64 cd]) := ⟨bup H15.out.1 hbd5, Nat.le_trans H15.out.2.1 hbd5.size, own_below H15.out.2.2.1 hbd5, Nat.le_trans H15.out.2.2.2.1 hbd5.size, H15.out.2.2.2.2.1.below hbd5, own_below H15.out.2.2.2.2.2.1 hbd5, Nat.le_trans H15.out.2.2.2.2.2.2.1 hbd5.size, H15.out.2.2.2.2.2.2.2.1.below hbd5, own_below H15.out.2.2.2.2.2.2.2.2.1 hbd5, Nat.le_trans H15.out.2.2.2.2.2.2.2.2.2.1 hbd5.size, (H15.out.2.2.2.2.2.2.2.2.2.2.1.below hbd5).add (Far.of_own hrd5 H15.out.2.2.2.2.2.2.2.2.2.1 (by omega)), H15.out.2.2.2.2.2.2.2.2.2.2.2.below hbd5, hk5⟩
  clear H15
  clear hr5 hbc5 hbd5 hrd5 hk5
  obtain ⟨r0, r1, r2, r3⟩ := Blk.four (HQ.out wd5 H16.out.1).r
  have HC6 := Lib.hid (HK6.out wd5 (HQ.out wd5 H16.out.1).ia)
  go_wp2_with fail
  clear hwd5 hp5
  refine HC6.out.mono ?_
  rintro e wc6 ⟨L6, lc6, rfl, hr6, hbc6⟩
  clear HC6 r0 r1 r2 r3
  have H17 : Hid (Below wR.heap.size wR wc6 ∧ z ≤ wc6.heap.size ∧ wc6.ownsRow z 24 4 (.slice L1 G.length lc1) G.length (syc G) ∧ z1 ≤ wc6.heap.size ∧ Blk wc6 p1 37 #[.int .i64 gn, .int .i64 ga, .int .i64 gb, .int .i64 gc, .int .i64 gd] ∧ wc6.ownsRow z 24 4 (.slice L2 C.length lc2) C.length (syc C) ∧ z2 ≤ wc6.heap.size ∧ Blk wc6 p2 37 #[.int .i64 cn, .int .i64 ca, .int .i64 cb, .int .i64 cc, .int .i64 cd] ∧ wc6.ownsRow z 24 4 (.slice L3 P.length lc3) P.length (syc P) ∧ z3 ≤ wc6.heap.size ∧ AllF z3 wc6 [(L6, P), (L5, C), (L4, G)] ∧ Blk wc6 p4 48 #[.int .i64 gn, .int .i64 ga, .int .i64 gb, .int .i64 gc, .int .i64 gd] ∧ Blk wc6 p5 48 #[.int .i64 cn, .int .i64 ca, .int .i64 cb, .int .i64 cc, .int .i64 cd]) := ⟨bup H16.out.1 hbc6, Nat.le_trans H16.out.2.1 hbc6.size, own_below H16.out.2.2.1 hbc6, Nat.le_trans H16.out.2.2.2.1 hbc6.size, H16.out.2.2.2.2.1.below hbc6, own_below H16.out.2.2.2.2.2.1 hbc6, Nat.le_trans H16.out.2.2.2.2.2.2.1 hbc6.size, H16.out.2.2.2.2.2.2.2.1.below hbc6, own_below H16.out.2.2.2.2.2.2.2.2.1 hbc6, Nat.le_trans H16.out.2.2.2.2.2.2.2.2.2.1 hbc6.size, (H16.out.2.2.2.2.2.2.2.2.2.2.1.below hbc6).add (Far.of_own hr6 H16.out.2.2.2.2.2.2.2.2.2.1 (by omega)), H16.out.2.2.2.2.2.2.2.2.2.2.2.1.below hbc6, H16.out.2.2.2.2.2.2.2.2.2.2.2.2.below hbc6⟩
  clear H16
  clear hr6 hbc6
  obtain ⟨⟨s0, s1, s2, s3, s4⟩, _⟩ := st_five H17.out.2.2.2.2.1
  obtain ⟨⟨t0, t1, t2, t3, t4⟩, _⟩ := st_five H17.out.2.2.2.2.2.2.2.2.2.2.2.1
  have HD7 := Lib.hid (HKA.out wc6)
  go_wp2_with fail
  refine HD7.out.mono ?_
  rintro e wb7 ⟨rfl, hbb7⟩
  clear HD7 s0 s1 s2 s3 s4 t0 t1 t2 t3 t4
  have H18 : Hid (Below wR.heap.size wR wb7 ∧ z ≤ wb7.heap.size ∧ wb7.ownsRow z 24 4 (.slice L1 G.length lc1) G.length (syc G) ∧ z1 ≤ wb7.heap.size ∧ Blk wb7 p1 37 #[.int .i64 gn, .int .i64 ga, .int .i64 gb, .int .i64 gc, .int .i64 gd] ∧ wb7.ownsRow z 24 4 (.slice L2 C.length lc2) C.length (syc C) ∧ z2 ≤ wb7.heap.size ∧ Blk wb7 p2 37 #[.int .i64 cn, .int .i64 ca, .int .i64 cb, .int .i64 cc, .int .i64 cd] ∧ wb7.ownsRow z 24 4 (.slice L3 P.length lc3) P.length (syc P) ∧ z3 ≤ wb7.heap.size ∧ AllF z3 wb7 [(L6, P), (L5, C), (L4, G)] ∧ Blk wb7 p4 48 #[.int .i64 gn, .int .i64 ga, .int .i64 gb, .int .i64 gc, .int .i64 gd] ∧ Blk wb7 p5 48 #[.int .i64 cn, .int .i64 ca, .int .i64 cb, .int .i64 cc, .int .i64 cd]) := ⟨bup H17.out.1 hbb7, Nat.le_trans H17.out.2.1 hbb7.size, own_below H17.out.2.2.1 hbb7, Nat.le_trans H17.out.2.2.2.1 hbb7.size, H17.out.2.2.2.2.1.below hbb7, own_below H17.out.2.2.2.2.2.1 hbb7, Nat.le_trans H17.out.2.2.2.2.2.2.1 hbb7.size, H17.out.2.2.2.2.2.2.2.1.below hbb7, own_below H17.out.2.2.2.2.2.2.2.2.1 hbb7, Nat.le_trans H17.out.2.2.2.2.2.2.2.2.2.1 hbb7.size, H17.out.2.2.2.2.2.2.2.2.2.2.1.below hbb7, H17.out.2.2.2.2.2.2.2.2.2.2.2.1.below hbb7, H17.out.2.2.2.2.2.2.2.2.2.2.2.2.below hbb7⟩
  clear H17
  clear hbb7
  obtain ⟨⟨s0, s1, s2, s3, s4⟩, _⟩ := st_five H18.out.2.2.2.2.2.2.2.1
  obtain ⟨⟨t0, t1, t2, t3, t4⟩, _⟩ := st_five H18.out.2.2.2.2.2.2.2.2.2.2.2.2
  have HD8 := Lib.hid (HKB.out wb7)
  go_wp2_with fail
  refine HD8.out.mono ?_
  rintro e wb8 ⟨rfl, hbb8⟩
  clear HD8 s0 s1 s2 s3 s4 t0 t1 t2 t3 t4
  have H19 : Hid (Below wR.heap.size wR wb8 ∧ z ≤ wb8.heap.size ∧ wb8.ownsRow z 24 4 (.slice L1 G.length lc1) G.length (syc G) ∧ z1 ≤ wb8.heap.size ∧ Blk wb8 p1 37 #[.int .i64 gn, .int .i64 ga, .int .i64 gb, .int .i64 gc, .int .i64 gd] ∧ wb8.ownsRow z 24 4 (.slice L2 C.length lc2) C.length (syc C) ∧ z2 ≤ wb8.heap.size ∧ Blk wb8 p2 37 #[.int .i64 cn, .int .i64 ca, .int .i64 cb, .int .i64 cc, .int .i64 cd] ∧ wb8.ownsRow z 24 4 (.slice L3 P.length lc3) P.length (syc P) ∧ z3 ≤ wb8.heap.size ∧ AllF z3 wb8 [(L6, P), (L5, C), (L4, G)] ∧ Blk wb8 p4 48 #[.int .i64 gn, .int .i64 ga, .int .i64 gb, .int .i64 gc, .int .i64 gd] ∧ Blk wb8 p5 48 #[.int .i64 cn, .int .i64 ca, .int .i64 cb, .int .i64 cc, .int .i64 cd]) := ⟨bup H18.out.1 hbb8, Nat.le_trans H18.out.2.1 hbb8.size, own_below H18.out.2.2.1 hbb8, Nat.le_trans H18.out.2.2.2.1 hbb8.size, H18.out.2.2.2.2.1.below hbb8, own_below H18.out.2.2.2.2.2.1 hbb8, Nat.le_trans H18.out.2.2.2.2.2.2.1 hbb8.size, H18.out.2.2.2.2.2.2.2.1.below hbb8, own_below H18.out.2.2.2.2.2.2.2.2.1 hbb8, Nat.le_trans H18.out.2.2.2.2.2.2.2.2.2.1 hbb8.size, H18.out.2.2.2.2.2.2.2.2.2.2.1.below hbb8, H18.out.2.2.2.2.2.2.2.2.2.2.2.1.below hbb8, H18.out.2.2.2.2.2.2.2.2.2.2.2.2.below hbb8⟩
  clear H18
  clear hbb8
  have H20 : Hid (Below wR.heap.size wR wb8 ∧ z ≤ wb8.heap.size ∧ wb8.ownsRow z 24 4 (.slice L1 G.length lc1) G.length (syc G) ∧ z1 ≤ wb8.heap.size ∧ wb8.ownsRow z 24 4 (.slice L2 C.length lc2) C.length (syc C) ∧ z2 ≤ wb8.heap.size ∧ wb8.ownsRow z 24 4 (.slice L3 P.length lc3) P.length (syc P) ∧ z3 ≤ wb8.heap.size ∧ AllF z3 wb8 [(L6, P), (L5, C), (L4, G)]) := ⟨H19.out.1, H19.out.2.1, H19.out.2.2.1, H19.out.2.2.2.1, H19.out.2.2.2.2.2.1, H19.out.2.2.2.2.2.2.1, H19.out.2.2.2.2.2.2.2.2.1, H19.out.2.2.2.2.2.2.2.2.2.1, H19.out.2.2.2.2.2.2.2.2.2.2.1⟩
  clear H19
  obtain ⟨x0, x1, x2, x3, x4, x5, x6, x7, x8⟩ := Blk.nine_ (HQ.out wb8 H20.out.1).x
  have HD10 := Lib.hid (kept_true A m c g cap D l wb8 (HQ.out wb8 H20.out.1).ia hm (HQ.out wb8 H20.out.1).ob)
  go_wp2_with fail
  refine HD10.out.mono ?_
  rintro e wb10 ⟨rfl, hbb10⟩
  clear HD10 x0 x1 x2 x3 x4 x5 x6 x7 x8
  have H21 : Hid (Below wR.heap.size wR wb10 ∧ z ≤ wb10.heap.size ∧ wb10.ownsRow z 24 4 (.slice L1 G.length lc1) G.length (syc G) ∧ z1 ≤ wb10.heap.size ∧ wb10.ownsRow z 24 4 (.slice L2 C.length lc2) C.length (syc C) ∧ z2 ≤ wb10.heap.size ∧ wb10.ownsRow z 24 4 (.slice L3 P.length lc3) P.length (syc P) ∧ z3 ≤ wb10.heap.size ∧ AllF z3 wb10 [(L6, P), (L5, C), (L4, G)]) := ⟨bup H20.out.1 hbb10, Nat.le_trans H20.out.2.1 hbb10.size, own_below H20.out.2.2.1 hbb10, Nat.le_trans H20.out.2.2.2.1 hbb10.size, own_below H20.out.2.2.2.2.1 hbb10, Nat.le_trans H20.out.2.2.2.2.2.1 hbb10.size, own_below H20.out.2.2.2.2.2.2.1 hbb10, Nat.le_trans H20.out.2.2.2.2.2.2.2.1 hbb10.size, H20.out.2.2.2.2.2.2.2.2.below hbb10⟩
  clear H20
  clear hbb10
  have HD11 := Lib.hid (same_any L1 L4 G.length lc1 lc4 G wb10 (InS.of_own H21.out.2.2.1 (by omega)) (H21.out.2.2.2.2.2.2.2.2 (L4, G) (by simp)).1)
  go_wp2_with fail
  refine HD11.out.mono ?_
  rintro e wb11 ⟨rfl, hbb11⟩
  clear HD11
  have H22 : Hid (Below wR.heap.size wR wb11 ∧ z ≤ wb11.heap.size ∧ wb11.ownsRow z 24 4 (.slice L1 G.length lc1) G.length (syc G) ∧ z1 ≤ wb11.heap.size ∧ wb11.ownsRow z 24 4 (.slice L2 C.length lc2) C.length (syc C) ∧ z2 ≤ wb11.heap.size ∧ wb11.ownsRow z 24 4 (.slice L3 P.length lc3) P.length (syc P) ∧ z3 ≤ wb11.heap.size ∧ AllF z3 wb11 [(L6, P), (L5, C), (L4, G)]) := ⟨bup H21.out.1 hbb11, Nat.le_trans H21.out.2.1 hbb11.size, own_below H21.out.2.2.1 hbb11, Nat.le_trans H21.out.2.2.2.1 hbb11.size, own_below H21.out.2.2.2.2.1 hbb11, Nat.le_trans H21.out.2.2.2.2.2.1 hbb11.size, own_below H21.out.2.2.2.2.2.2.1 hbb11, Nat.le_trans H21.out.2.2.2.2.2.2.2.1 hbb11.size, H21.out.2.2.2.2.2.2.2.2.below hbb11⟩
  clear H21
  clear hbb11
  have HD12 := Lib.hid (same_any L2 L5 C.length lc2 lc5 C wb11 (InS.of_own H22.out.2.2.2.2.1 (by omega)) (H22.out.2.2.2.2.2.2.2.2 (L5, C) (by simp)).1)
  go_wp2_with fail
  refine HD12.out.mono ?_
  rintro e wb12 ⟨rfl, hbb12⟩
  clear HD12
  have H23 : Hid (Below wR.heap.size wR wb12 ∧ z ≤ wb12.heap.size ∧ wb12.ownsRow z 24 4 (.slice L1 G.length lc1) G.length (syc G) ∧ z1 ≤ wb12.heap.size ∧ wb12.ownsRow z 24 4 (.slice L2 C.length lc2) C.length (syc C) ∧ z2 ≤ wb12.heap.size ∧ wb12.ownsRow z 24 4 (.slice L3 P.length lc3) P.length (syc P) ∧ z3 ≤ wb12.heap.size ∧ AllF z3 wb12 [(L6, P), (L5, C), (L4, G)]) := ⟨bup H22.out.1 hbb12, Nat.le_trans H22.out.2.1 hbb12.size, own_below H22.out.2.2.1 hbb12, Nat.le_trans H22.out.2.2.2.1 hbb12.size, own_below H22.out.2.2.2.2.1 hbb12, Nat.le_trans H22.out.2.2.2.2.2.1 hbb12.size, own_below H22.out.2.2.2.2.2.2.1 hbb12, Nat.le_trans H22.out.2.2.2.2.2.2.2.1 hbb12.size, H22.out.2.2.2.2.2.2.2.2.below hbb12⟩
  clear H22
  clear hbb12
  have HD13 := Lib.hid (same_any L3 L6 P.length lc3 lc6 P wb12 (InS.of_own H23.out.2.2.2.2.2.2.1 (by omega)) (H23.out.2.2.2.2.2.2.2.2 (L6, P) (by simp)).1)
  go_wp2_with fail
  refine HD13.out.mono ?_
  rintro e wb13 ⟨rfl, hbb13⟩
  clear HD13
  have H24 : Hid (Below wR.heap.size wR wb13 ∧ z ≤ wb13.heap.size ∧ wb13.ownsRow z 24 4 (.slice L1 G.length lc1) G.length (syc G) ∧ z1 ≤ wb13.heap.size ∧ wb13.ownsRow z 24 4 (.slice L2 C.length lc2) C.length (syc C) ∧ z2 ≤ wb13.heap.size ∧ wb13.ownsRow z 24 4 (.slice L3 P.length lc3) P.length (syc P) ∧ z3 ≤ wb13.heap.size ∧ AllF z3 wb13 [(L6, P), (L5, C), (L4, G)]) := ⟨bup H23.out.1 hbb13, Nat.le_trans H23.out.2.1 hbb13.size, own_below H23.out.2.2.1 hbb13, Nat.le_trans H23.out.2.2.2.1 hbb13.size, own_below H23.out.2.2.2.2.1 hbb13, Nat.le_trans H23.out.2.2.2.2.2.1 hbb13.size, own_below H23.out.2.2.2.2.2.2.1 hbb13, Nat.le_trans H23.out.2.2.2.2.2.2.2.1 hbb13.size, H23.out.2.2.2.2.2.2.2.2.below hbb13⟩
  clear H23
  clear hbb13
  obtain ⟨x0, x1, x2, x3, x4, x5, x6, x7, x8⟩ := Blk.nine_ (HQ.out wb13 H24.out.1).x
  obtain ⟨⟨s0, s1, s2, s3, s4⟩, _⟩ := st_five (HQ.out wb13 H24.out.1).s
  have HC7 := Lib.hid (HK1.out (some ⟨g, 0, none⟩) cap wb13 (HQ.out wb13 H24.out.1).ib (fun _ => .inr ⟨_, rfl⟩) (by omega) (HQ.out wb13 H24.out.1).la)
  go_wp2_with fail
  refine HC7.out.mono ?_
  rintro e wc7 ⟨L7, lc7, rfl, hr7, hbc7⟩
  clear HC7 x0 x1 x2 x3 x4 x5 x6 x7 x8 s0 s1 s2 s3 s4
  obtain ⟨p7, hp7⟩ : ∃ p, wc7.heap.size = p := ⟨_, rfl⟩
  obtain ⟨wd7, hwd7⟩ : ∃ x, wc7.alloc (.cells #[.int .i64 gn, .int .i64 ga, .int .i64 gb, .int .i64 gc, .int .i64 gd] 37) = x := ⟨_, rfl⟩
  have hbd7 : Below wb13.heap.size wb13 wd7 := by rw [← hwd7]; exact bmk hbc7 _
  have hrd7 : wd7.ownsRow wb13.heap.size 24 4 (.slice L7 G.length lc7) G.length (syc G) := by rw [← hwd7]; exact hr7.alloc _
  have hk7 : Blk wd7 p7 37 #[.int .i64 gn, .int .i64 ga, .int .i64 gb, .int .i64 gc, .int .i64 gd] := by rw [← hwd7]; exact Blk.new_at hp7.symm
  have H25 : Hid (Below wR.heap.size wR wd7 ∧ z ≤ wd7.heap.size ∧ wd7.ownsRow z 24 4 (.slice L1 G.length lc1) G.length (syc G) ∧ z1 ≤ wd7.heap.size ∧ wd7.ownsRow z 24 4 (.slice L2 C.length lc2) C.length (syc C) ∧ z2 ≤ wd7.heap.size ∧ wd7.ownsRow z 24 4 (.slice L3 P.length lc3) P.length (syc P) ∧ z3 ≤ wd7.heap.size ∧ AllF z3 wd7 [(L7, G), (L6, P), (L5, C), (L4, G)]) := ⟨bup H24.out.1 hbd7, Nat.le_trans H24.out.2.1 hbd7.size, own_below H24.out.2.2.1 hbd7, Nat.le_trans H24.out.2.2.2.1 hbd7.size, own_below H24.out.2.2.2.2.1 hbd7, Nat.le_trans H24.out.2.2.2.2.2.1 hbd7.size, own_below H24.out.2.2.2.2.2.2.1 hbd7, Nat.le_trans H24.out.2.2.2.2.2.2.2.1 hbd7.size, (H24.out.2.2.2.2.2.2.2.2.below hbd7).add (Far.of_own hrd7 H24.out.2.2.2.2.2.2.2.1 (by omega))⟩
  clear H24
  clear hr7 hbc7 hbd7 hrd7 hk7
  obtain ⟨x0, x1, x2, x3, x4, x5, x6, x7, x8⟩ := Blk.nine_ (HQ.out wd7 H25.out.1).x
  obtain ⟨⟨s0, s1, s2, s3, s4⟩, _⟩ := st_five (HQ.out wd7 H25.out.1).s
  have HC8 := Lib.hid (HK2.out (some ⟨g, 0, none⟩) cap wd7 (HQ.out wd7 H25.out.1).ib (fun _ => .inr ⟨_, rfl⟩) (by omega) (HQ.out wd7 H25.out.1).la)
  go_wp2_with fail
  clear hwd7 hp7
  refine HC8.out.mono ?_
  rintro e wc8 ⟨L8, lc8, rfl, hr8, hbc8⟩
  clear HC8 x0 x1 x2 x3 x4 x5 x6 x7 x8 s0 s1 s2 s3 s4
  obtain ⟨p8, hp8⟩ : ∃ p, wc8.heap.size = p := ⟨_, rfl⟩
  obtain ⟨wd8, hwd8⟩ : ∃ x, wc8.alloc (.cells #[.int .i64 cn, .int .i64 ca, .int .i64 cb, .int .i64 cc, .int .i64 cd] 37) = x := ⟨_, rfl⟩
  have hbd8 : Below wd7.heap.size wd7 wd8 := by rw [← hwd8]; exact bmk hbc8 _
  have hrd8 : wd8.ownsRow wd7.heap.size 24 4 (.slice L8 C.length lc8) C.length (syc C) := by rw [← hwd8]; exact hr8.alloc _
  have hk8 : Blk wd8 p8 37 #[.int .i64 cn, .int .i64 ca, .int .i64 cb, .int .i64 cc, .int .i64 cd] := by rw [← hwd8]; exact Blk.new_at hp8.symm
  have H26 : Hid (Below wR.heap.size wR wd8 ∧ z ≤ wd8.heap.size ∧ wd8.ownsRow z 24 4 (.slice L1 G.length lc1) G.length (syc G) ∧ z1 ≤ wd8.heap.size ∧ wd8.ownsRow z 24 4 (.slice L2 C.length lc2) C.length (syc C) ∧ z2 ≤ wd8.heap.size ∧ wd8.ownsRow z 24 4 (.slice L3 P.length lc3) P.length (syc P) ∧ z3 ≤ wd8.heap.size ∧ AllF z3 wd8 [(L8, C), (L7, G), (L6, P), (L5, C), (L4, G)]) := ⟨bup H25.out.1 hbd8, Nat.le_trans H25.out.2.1 hbd8.size, own_below H25.out.2.2.1 hbd8, Nat.le_trans H25.out.2.2.2.1 hbd8.size, own_below H25.out.2.2.2.2.1 hbd8, Nat.le_trans H25.out.2.2.2.2.2.1 hbd8.size, own_below H25.out.2.2.2.2.2.2.1 hbd8, Nat.le_trans H25.out.2.2.2.2.2.2.2.1 hbd8.size, (H25.out.2.2.2.2.2.2.2.2.below hbd8).add (Far.of_own hrd8 H25.out.2.2.2.2.2.2.2.1 (by omega))⟩
  clear H25
  clear hr8 hbc8 hbd8 hrd8 hk8
  obtain ⟨x0, x1, x2, x3, x4, x5, x6, x7, x8⟩ := Blk.nine_ (HQ.out wd8 H26.out.1).x
  have HC9 := Lib.hid (HK3.out (some ⟨g, 0, none⟩) cap wd8 (HQ.out wd8 H26.out.1).ib (fun _ => .inr ⟨_, rfl⟩) (by omega) (HQ.out wd8 H26.out.1).la)
  go_wp2_with fail
  clear hwd8 hp8
  refine HC9.out.mono ?_
  rintro e wc9 ⟨L9, lc9, rfl, hr9, hbc9⟩
  clear HC9 x0 x1 x2 x3 x4 x5 x6 x7 x8
  have H27 : Hid (Below wR.heap.size wR wc9 ∧ z ≤ wc9.heap.size ∧ wc9.ownsRow z 24 4 (.slice L1 G.length lc1) G.length (syc G) ∧ z1 ≤ wc9.heap.size ∧ wc9.ownsRow z 24 4 (.slice L2 C.length lc2) C.length (syc C) ∧ z2 ≤ wc9.heap.size ∧ wc9.ownsRow z 24 4 (.slice L3 P.length lc3) P.length (syc P) ∧ z3 ≤ wc9.heap.size ∧ AllF z3 wc9 [(L9, P), (L8, C), (L7, G), (L6, P), (L5, C), (L4, G)]) := ⟨bup H26.out.1 hbc9, Nat.le_trans H26.out.2.1 hbc9.size, own_below H26.out.2.2.1 hbc9, Nat.le_trans H26.out.2.2.2.1 hbc9.size, own_below H26.out.2.2.2.2.1 hbc9, Nat.le_trans H26.out.2.2.2.2.2.1 hbc9.size, own_below H26.out.2.2.2.2.2.2.1 hbc9, Nat.le_trans H26.out.2.2.2.2.2.2.2.1 hbc9.size, (H26.out.2.2.2.2.2.2.2.2.below hbc9).add (Far.of_own hr9 H26.out.2.2.2.2.2.2.2.1 (by omega))⟩
  clear H26
  clear hr9 hbc9
  have HD17 := Lib.hid (same_any L7 L4 G.length lc7 lc4 G wc9 (H27.out.2.2.2.2.2.2.2.2 (L7, G) (by simp)).1 (H27.out.2.2.2.2.2.2.2.2 (L4, G) (by simp)).1)
  go_wp2_with fail
  refine HD17.out.mono ?_
  rintro e wb17 ⟨rfl, hbb17⟩
  clear HD17
  have H28 : Hid (Below wR.heap.size wR wb17 ∧ z ≤ wb17.heap.size ∧ wb17.ownsRow z 24 4 (.slice L1 G.length lc1) G.length (syc G) ∧ z1 ≤ wb17.heap.size ∧ wb17.ownsRow z 24 4 (.slice L2 C.length lc2) C.length (syc C) ∧ z2 ≤ wb17.heap.size ∧ wb17.ownsRow z 24 4 (.slice L3 P.length lc3) P.length (syc P) ∧ z3 ≤ wb17.heap.size ∧ AllF z3 wb17 [(L9, P), (L8, C), (L7, G), (L6, P), (L5, C), (L4, G)]) := ⟨bup H27.out.1 hbb17, Nat.le_trans H27.out.2.1 hbb17.size, own_below H27.out.2.2.1 hbb17, Nat.le_trans H27.out.2.2.2.1 hbb17.size, own_below H27.out.2.2.2.2.1 hbb17, Nat.le_trans H27.out.2.2.2.2.2.1 hbb17.size, own_below H27.out.2.2.2.2.2.2.1 hbb17, Nat.le_trans H27.out.2.2.2.2.2.2.2.1 hbb17.size, H27.out.2.2.2.2.2.2.2.2.below hbb17⟩
  clear H27
  clear hbb17
  have HD18 := Lib.hid (same_any L8 L5 C.length lc8 lc5 C wb17 (H28.out.2.2.2.2.2.2.2.2 (L8, C) (by simp)).1 (H28.out.2.2.2.2.2.2.2.2 (L5, C) (by simp)).1)
  go_wp2_with fail
  refine HD18.out.mono ?_
  rintro e wb18 ⟨rfl, hbb18⟩
  clear HD18
  have H29 : Hid (Below wR.heap.size wR wb18 ∧ z ≤ wb18.heap.size ∧ wb18.ownsRow z 24 4 (.slice L1 G.length lc1) G.length (syc G) ∧ z1 ≤ wb18.heap.size ∧ wb18.ownsRow z 24 4 (.slice L2 C.length lc2) C.length (syc C) ∧ z2 ≤ wb18.heap.size ∧ wb18.ownsRow z 24 4 (.slice L3 P.length lc3) P.length (syc P) ∧ z3 ≤ wb18.heap.size ∧ AllF z3 wb18 [(L9, P), (L8, C), (L7, G), (L6, P), (L5, C), (L4, G)]) := ⟨bup H28.out.1 hbb18, Nat.le_trans H28.out.2.1 hbb18.size, own_below H28.out.2.2.1 hbb18, Nat.le_trans H28.out.2.2.2.1 hbb18.size, own_below H28.out.2.2.2.2.1 hbb18, Nat.le_trans H28.out.2.2.2.2.2.1 hbb18.size, own_below H28.out.2.2.2.2.2.2.1 hbb18, Nat.le_trans H28.out.2.2.2.2.2.2.2.1 hbb18.size, H28.out.2.2.2.2.2.2.2.2.below hbb18⟩
  clear H28
  clear hbb18
  have HD19 := Lib.hid (same_any L9 L6 P.length lc9 lc6 P wb18 (H29.out.2.2.2.2.2.2.2.2 (L9, P) (by simp)).1 (H29.out.2.2.2.2.2.2.2.2 (L6, P) (by simp)).1)
  go_wp2_with fail
  refine HD19.out.mono ?_
  rintro e wb19 ⟨rfl, hbb19⟩
  clear HD19
  have H30 : Hid (Below wR.heap.size wR wb19 ∧ z ≤ wb19.heap.size ∧ wb19.ownsRow z 24 4 (.slice L1 G.length lc1) G.length (syc G) ∧ z1 ≤ wb19.heap.size ∧ wb19.ownsRow z 24 4 (.slice L2 C.length lc2) C.length (syc C) ∧ z2 ≤ wb19.heap.size ∧ wb19.ownsRow z 24 4 (.slice L3 P.length lc3) P.length (syc P) ∧ z3 ≤ wb19.heap.size ∧ AllF z3 wb19 [(L9, P), (L8, C), (L7, G), (L6, P), (L5, C), (L4, G)]) := ⟨bup H29.out.1 hbb19, Nat.le_trans H29.out.2.1 hbb19.size, own_below H29.out.2.2.1 hbb19, Nat.le_trans H29.out.2.2.2.1 hbb19.size, own_below H29.out.2.2.2.2.1 hbb19, Nat.le_trans H29.out.2.2.2.2.2.1 hbb19.size, own_below H29.out.2.2.2.2.2.2.1 hbb19, Nat.le_trans H29.out.2.2.2.2.2.2.2.1 hbb19.size, H29.out.2.2.2.2.2.2.2.2.below hbb19⟩
  clear H29
  clear hbb19
  have HM1 := Lib.hid (marked_any L1 lc1 G.length z G 71 wb19 H30.out.2.2.1 (by omega) H30.out.2.1)
  go_wp2_with fail
  refine HM1.out.mono ?_
  rintro e wm1 ⟨M1, mc1, rfl, hmr1, hmF1, hmB1⟩
  have HB1 : Hid (∀ q, (Value.slice M1 (G.length + 9) mc1).ownBlock = some q → (z ≤ q ∧ q < z1) ∨ z3 ≤ q) := fun q hq => by
    rcases hmB1 q hq with h1 | h1
    · exact .inl (HS1.out.1 q h1)
    · exact .inr (Nat.le_trans H30.out.2.2.2.2.2.2.2.1 h1)
  have H31 : Hid (Below wR.heap.size wR wm1 ∧ z ≤ wm1.heap.size ∧ z1 ≤ wm1.heap.size ∧ wm1.ownsRow z 24 4 (.slice L2 C.length lc2) C.length (syc C) ∧ z2 ≤ wm1.heap.size ∧ wm1.ownsRow z 24 4 (.slice L3 P.length lc3) P.length (syc P) ∧ z3 ≤ wm1.heap.size ∧ AllF z3 wm1 [(L9, P), (L8, C), (L7, G), (L6, P), (L5, C), (L4, G)] ∧ wm1.ownsRow z 24 4 (.slice M1 (G.length + 9) mc1) (G.length + 9) (syc (List.replicate (G.length + 9) ⟨71, 0, 0, 0⟩))) := ⟨H30.out.1.trans (hmF1.below H30.out.1.size (fun q hq => by have := HS1.out.1 q hq; have := HS1.out.2; have := HS2.out.2; have := HS3.out.2; have := HZ.out.2.2.2.2.2.2; omega)), Nat.le_trans H30.out.2.1 hmF1.size, Nat.le_trans H30.out.2.2.2.1 hmF1.size, own_fr H30.out.2.2.2.2.1 hmF1 (fun q hq hs => by have h1 := HS1.out.1 q hs; have h2 := HS2.out.1 q hq; have := HS1.out.2; have := HS2.out.2; have := HS3.out.2; omega), Nat.le_trans H30.out.2.2.2.2.2.1 hmF1.size, own_fr H30.out.2.2.2.2.2.2.1 hmF1 (fun q hq hs => by have h1 := HS1.out.1 q hs; have h2 := HS3.out.1 q hq; have := HS1.out.2; have := HS2.out.2; have := HS3.out.2; omega), Nat.le_trans H30.out.2.2.2.2.2.2.2.1 hmF1.size, H30.out.2.2.2.2.2.2.2.2.fr hmF1 (fun q hs => by have := HS1.out.1 q hs; have := HS1.out.2; have := HS2.out.2; have := HS3.out.2; omega), hmr1⟩
  clear H30
  clear HM1 hmr1 hmF1 hmB1
  have HM2 := Lib.hid (marked_any L2 lc2 C.length z C 72 wm1 H31.out.2.2.2.1 (by omega) H31.out.2.1)
  go_wp2_with fail
  refine HM2.out.mono ?_
  rintro e wm2 ⟨M2, mc2, rfl, hmr2, hmF2, hmB2⟩
  have HB2 : Hid (∀ q, (Value.slice M2 (C.length + 9) mc2).ownBlock = some q → (z1 ≤ q ∧ q < z2) ∨ z3 ≤ q) := fun q hq => by
    rcases hmB2 q hq with h1 | h1
    · exact .inl (HS2.out.1 q h1)
    · exact .inr (Nat.le_trans H31.out.2.2.2.2.2.2.1 h1)
  have H32 : Hid (Below wR.heap.size wR wm2 ∧ z ≤ wm2.heap.size ∧ z1 ≤ wm2.heap.size ∧ z2 ≤ wm2.heap.size ∧ wm2.ownsRow z 24 4 (.slice L3 P.length lc3) P.length (syc P) ∧ z3 ≤ wm2.heap.size ∧ AllF z3 wm2 [(L9, P), (L8, C), (L7, G), (L6, P), (L5, C), (L4, G)] ∧ wm2.ownsRow z 24 4 (.slice M1 (G.length + 9) mc1) (G.length + 9) (syc (List.replicate (G.length + 9) ⟨71, 0, 0, 0⟩)) ∧ wm2.ownsRow z 24 4 (.slice M2 (C.length + 9) mc2) (C.length + 9) (syc (List.replicate (C.length + 9) ⟨72, 0, 0, 0⟩))) := ⟨H31.out.1.trans (hmF2.below H31.out.1.size (fun q hq => by have := HS2.out.1 q hq; have := HS1.out.2; have := HS2.out.2; have := HS3.out.2; have := HZ.out.2.2.2.2.2.2; omega)), Nat.le_trans H31.out.2.1 hmF2.size, Nat.le_trans H31.out.2.2.1 hmF2.size, Nat.le_trans H31.out.2.2.2.2.1 hmF2.size, own_fr H31.out.2.2.2.2.2.1 hmF2 (fun q hq hs => by have h1 := HS2.out.1 q hs; have h2 := HS3.out.1 q hq; have := HS1.out.2; have := HS2.out.2; have := HS3.out.2; omega), Nat.le_trans H31.out.2.2.2.2.2.2.1 hmF2.size, H31.out.2.2.2.2.2.2.2.1.fr hmF2 (fun q hs => by have := HS2.out.1 q hs; have := HS1.out.2; have := HS2.out.2; have := HS3.out.2; omega), own_fr H31.out.2.2.2.2.2.2.2.2 hmF2 (fun q hq hs => by have h1 := HS2.out.1 q hs; have h2 := HB1.out q hq; have := HS1.out.2; have := HS2.out.2; have := HS3.out.2; omega), hmr2⟩
  clear H31
  clear HM2 hmr2 hmF2 hmB2
  have HM3 := Lib.hid (marked_any L3 lc3 P.length z P 73 wm2 H32.out.2.2.2.2.1 (by omega) H32.out.2.1)
  go_wp2_with fail
  refine HM3.out.mono ?_
  rintro e wm3 ⟨M3, mc3, rfl, hmr3, hmF3, hmB3⟩
  have HB3 : Hid (∀ q, (Value.slice M3 (P.length + 9) mc3).ownBlock = some q → (z2 ≤ q ∧ q < z3) ∨ z3 ≤ q) := fun q hq => by
    rcases hmB3 q hq with h1 | h1
    · exact .inl (HS3.out.1 q h1)
    · exact .inr (Nat.le_trans H32.out.2.2.2.2.2.1 h1)
  have H33 : Hid (Below wR.heap.size wR wm3 ∧ z ≤ wm3.heap.size ∧ z1 ≤ wm3.heap.size ∧ z2 ≤ wm3.heap.size ∧ z3 ≤ wm3.heap.size ∧ AllF z3 wm3 [(L9, P), (L8, C), (L7, G), (L6, P), (L5, C), (L4, G)] ∧ wm3.ownsRow z 24 4 (.slice M1 (G.length + 9) mc1) (G.length + 9) (syc (List.replicate (G.length + 9) ⟨71, 0, 0, 0⟩)) ∧ wm3.ownsRow z 24 4 (.slice M2 (C.length + 9) mc2) (C.length + 9) (syc (List.replicate (C.length + 9) ⟨72, 0, 0, 0⟩)) ∧ wm3.ownsRow z 24 4 (.slice M3 (P.length + 9) mc3) (P.length + 9) (syc (List.replicate (P.length + 9) ⟨73, 0, 0, 0⟩))) := ⟨H32.out.1.trans (hmF3.below H32.out.1.size (fun q hq => by have := HS3.out.1 q hq; have := HS1.out.2; have := HS2.out.2; have := HS3.out.2; have := HZ.out.2.2.2.2.2.2; omega)), Nat.le_trans H32.out.2.1 hmF3.size, Nat.le_trans H32.out.2.2.1 hmF3.size, Nat.le_trans H32.out.2.2.2.1 hmF3.size, Nat.le_trans H32.out.2.2.2.2.2.1 hmF3.size, H32.out.2.2.2.2.2.2.1.fr hmF3 (fun q hs => by have := HS3.out.1 q hs; have := HS1.out.2; have := HS2.out.2; have := HS3.out.2; omega), own_fr H32.out.2.2.2.2.2.2.2.1 hmF3 (fun q hq hs => by have h1 := HS3.out.1 q hs; have h2 := HB1.out q hq; have := HS1.out.2; have := HS2.out.2; have := HS3.out.2; omega), own_fr H32.out.2.2.2.2.2.2.2.2 hmF3 (fun q hq hs => by have h1 := HS3.out.1 q hs; have h2 := HB2.out q hq; have := HS1.out.2; have := HS2.out.2; have := HS3.out.2; omega), hmr3⟩
  clear H32
  clear HM3 hmr3 hmF3 hmB3
  obtain ⟨x0, x1, x2, x3, x4, x5, x6, x7, x8⟩ := Blk.nine_ (HQ.out wm3 H33.out.1).x
  obtain ⟨⟨s0, s1, s2, s3, s4⟩, _⟩ := st_five (HQ.out wm3 H33.out.1).s
  have HC10 := Lib.hid (HK1.out (some ⟨g, 0, none⟩) cap wm3 (HQ.out wm3 H33.out.1).ib (fun _ => .inr ⟨_, rfl⟩) (by omega) (HQ.out wm3 H33.out.1).la)
  go_wp2_with fail
  refine HC10.out.mono ?_
  rintro e wc10 ⟨L10, lc10, rfl, hr10, hbc10⟩
  clear HC10 x0 x1 x2 x3 x4 x5 x6 x7 x8 s0 s1 s2 s3 s4
  obtain ⟨p10, hp10⟩ : ∃ p, wc10.heap.size = p := ⟨_, rfl⟩
  obtain ⟨wd10, hwd10⟩ : ∃ x, wc10.alloc (.cells #[.int .i64 gn, .int .i64 ga, .int .i64 gb, .int .i64 gc, .int .i64 gd] 37) = x := ⟨_, rfl⟩
  have hbd10 : Below wm3.heap.size wm3 wd10 := by rw [← hwd10]; exact bmk hbc10 _
  have hrd10 : wd10.ownsRow wm3.heap.size 24 4 (.slice L10 G.length lc10) G.length (syc G) := by rw [← hwd10]; exact hr10.alloc _
  have hk10 : Blk wd10 p10 37 #[.int .i64 gn, .int .i64 ga, .int .i64 gb, .int .i64 gc, .int .i64 gd] := by rw [← hwd10]; exact Blk.new_at hp10.symm
  have H34 : Hid (Below wR.heap.size wR wd10 ∧ z ≤ wd10.heap.size ∧ z1 ≤ wd10.heap.size ∧ z2 ≤ wd10.heap.size ∧ z3 ≤ wd10.heap.size ∧ AllF z3 wd10 [(L10, G), (L9, P), (L8, C), (L7, G), (L6, P), (L5, C), (L4, G)] ∧ wd10.ownsRow z 24 4 (.slice M1 (G.length + 9) mc1) (G.length + 9) (syc (List.replicate (G.length + 9) ⟨71, 0, 0, 0⟩)) ∧ wd10.ownsRow z 24 4 (.slice M2 (C.length + 9) mc2) (C.length + 9) (syc (List.replicate (C.length + 9) ⟨72, 0, 0, 0⟩)) ∧ wd10.ownsRow z 24 4 (.slice M3 (P.length + 9) mc3) (P.length + 9) (syc (List.replicate (P.length + 9) ⟨73, 0, 0, 0⟩))) := ⟨bup H33.out.1 hbd10, Nat.le_trans H33.out.2.1 hbd10.size, Nat.le_trans H33.out.2.2.1 hbd10.size, Nat.le_trans H33.out.2.2.2.1 hbd10.size, Nat.le_trans H33.out.2.2.2.2.1 hbd10.size, (H33.out.2.2.2.2.2.1.below hbd10).add (Far.of_own hrd10 H33.out.2.2.2.2.1 (by omega)), own_below H33.out.2.2.2.2.2.2.1 hbd10, own_below H33.out.2.2.2.2.2.2.2.1 hbd10, own_below H33.out.2.2.2.2.2.2.2.2 hbd10⟩
  clear H33
  clear hr10 hbc10 hbd10 hrd10 hk10
  obtain ⟨x0, x1, x2, x3, x4, x5, x6, x7, x8⟩ := Blk.nine_ (HQ.out wd10 H34.out.1).x
  have HC11 := Lib.hid (HK3.out (some ⟨g, 0, none⟩) cap wd10 (HQ.out wd10 H34.out.1).ib (fun _ => .inr ⟨_, rfl⟩) (by omega) (HQ.out wd10 H34.out.1).la)
  go_wp2_with fail
  clear hwd10 hp10
  refine HC11.out.mono ?_
  rintro e wc11 ⟨L11, lc11, rfl, hr11, hbc11⟩
  clear HC11 x0 x1 x2 x3 x4 x5 x6 x7 x8
  have H35 : Hid (Below wR.heap.size wR wc11 ∧ z ≤ wc11.heap.size ∧ z1 ≤ wc11.heap.size ∧ z2 ≤ wc11.heap.size ∧ z3 ≤ wc11.heap.size ∧ AllF z3 wc11 [(L11, P), (L10, G), (L9, P), (L8, C), (L7, G), (L6, P), (L5, C), (L4, G)] ∧ wc11.ownsRow z 24 4 (.slice M1 (G.length + 9) mc1) (G.length + 9) (syc (List.replicate (G.length + 9) ⟨71, 0, 0, 0⟩)) ∧ wc11.ownsRow z 24 4 (.slice M2 (C.length + 9) mc2) (C.length + 9) (syc (List.replicate (C.length + 9) ⟨72, 0, 0, 0⟩)) ∧ wc11.ownsRow z 24 4 (.slice M3 (P.length + 9) mc3) (P.length + 9) (syc (List.replicate (P.length + 9) ⟨73, 0, 0, 0⟩))) := ⟨bup H34.out.1 hbc11, Nat.le_trans H34.out.2.1 hbc11.size, Nat.le_trans H34.out.2.2.1 hbc11.size, Nat.le_trans H34.out.2.2.2.1 hbc11.size, Nat.le_trans H34.out.2.2.2.2.1 hbc11.size, (H34.out.2.2.2.2.2.1.below hbc11).add (Far.of_own hr11 H34.out.2.2.2.2.1 (by omega)), own_below H34.out.2.2.2.2.2.2.1 hbc11, own_below H34.out.2.2.2.2.2.2.2.1 hbc11, own_below H34.out.2.2.2.2.2.2.2.2 hbc11⟩
  clear H34
  clear hr11 hbc11
  have HD25 := Lib.hid (same_any L7 L4 G.length lc7 lc4 G wc11 (H35.out.2.2.2.2.2.1 (L7, G) (by simp)).1 (H35.out.2.2.2.2.2.1 (L4, G) (by simp)).1)
  go_wp2_with fail
  refine HD25.out.mono ?_
  rintro e wb25 ⟨rfl, hbb25⟩
  clear HD25
  have H36 : Hid (Below wR.heap.size wR wb25 ∧ z ≤ wb25.heap.size ∧ z1 ≤ wb25.heap.size ∧ z2 ≤ wb25.heap.size ∧ z3 ≤ wb25.heap.size ∧ AllF z3 wb25 [(L11, P), (L10, G), (L9, P), (L8, C), (L7, G), (L6, P), (L5, C), (L4, G)] ∧ wb25.ownsRow z 24 4 (.slice M1 (G.length + 9) mc1) (G.length + 9) (syc (List.replicate (G.length + 9) ⟨71, 0, 0, 0⟩)) ∧ wb25.ownsRow z 24 4 (.slice M2 (C.length + 9) mc2) (C.length + 9) (syc (List.replicate (C.length + 9) ⟨72, 0, 0, 0⟩)) ∧ wb25.ownsRow z 24 4 (.slice M3 (P.length + 9) mc3) (P.length + 9) (syc (List.replicate (P.length + 9) ⟨73, 0, 0, 0⟩))) := ⟨bup H35.out.1 hbb25, Nat.le_trans H35.out.2.1 hbb25.size, Nat.le_trans H35.out.2.2.1 hbb25.size, Nat.le_trans H35.out.2.2.2.1 hbb25.size, Nat.le_trans H35.out.2.2.2.2.1 hbb25.size, H35.out.2.2.2.2.2.1.below hbb25, own_below H35.out.2.2.2.2.2.2.1 hbb25, own_below H35.out.2.2.2.2.2.2.2.1 hbb25, own_below H35.out.2.2.2.2.2.2.2.2 hbb25⟩
  clear H35
  clear hbb25
  have HD26 := Lib.hid (same_any L8 L5 C.length lc8 lc5 C wb25 (H36.out.2.2.2.2.2.1 (L8, C) (by simp)).1 (H36.out.2.2.2.2.2.1 (L5, C) (by simp)).1)
  go_wp2_with fail
  refine HD26.out.mono ?_
  rintro e wb26 ⟨rfl, hbb26⟩
  clear HD26
  have H37 : Hid (Below wR.heap.size wR wb26 ∧ z ≤ wb26.heap.size ∧ z1 ≤ wb26.heap.size ∧ z2 ≤ wb26.heap.size ∧ z3 ≤ wb26.heap.size ∧ AllF z3 wb26 [(L11, P), (L10, G), (L9, P), (L8, C), (L7, G), (L6, P), (L5, C), (L4, G)] ∧ wb26.ownsRow z 24 4 (.slice M1 (G.length + 9) mc1) (G.length + 9) (syc (List.replicate (G.length + 9) ⟨71, 0, 0, 0⟩)) ∧ wb26.ownsRow z 24 4 (.slice M2 (C.length + 9) mc2) (C.length + 9) (syc (List.replicate (C.length + 9) ⟨72, 0, 0, 0⟩)) ∧ wb26.ownsRow z 24 4 (.slice M3 (P.length + 9) mc3) (P.length + 9) (syc (List.replicate (P.length + 9) ⟨73, 0, 0, 0⟩))) := ⟨bup H36.out.1 hbb26, Nat.le_trans H36.out.2.1 hbb26.size, Nat.le_trans H36.out.2.2.1 hbb26.size, Nat.le_trans H36.out.2.2.2.1 hbb26.size, Nat.le_trans H36.out.2.2.2.2.1 hbb26.size, H36.out.2.2.2.2.2.1.below hbb26, own_below H36.out.2.2.2.2.2.2.1 hbb26, own_below H36.out.2.2.2.2.2.2.2.1 hbb26, own_below H36.out.2.2.2.2.2.2.2.2 hbb26⟩
  clear H36
  clear hbb26
  have HD27 := Lib.hid (same_any L9 L6 P.length lc9 lc6 P wb26 (H37.out.2.2.2.2.2.1 (L9, P) (by simp)).1 (H37.out.2.2.2.2.2.1 (L6, P) (by simp)).1)
  go_wp2_with fail
  refine HD27.out.mono ?_
  rintro e wb27 ⟨rfl, hbb27⟩
  clear HD27
  have H38 : Hid (Below wR.heap.size wR wb27 ∧ z ≤ wb27.heap.size ∧ z1 ≤ wb27.heap.size ∧ z2 ≤ wb27.heap.size ∧ z3 ≤ wb27.heap.size ∧ AllF z3 wb27 [(L11, P), (L10, G), (L9, P), (L8, C), (L7, G), (L6, P), (L5, C), (L4, G)] ∧ wb27.ownsRow z 24 4 (.slice M1 (G.length + 9) mc1) (G.length + 9) (syc (List.replicate (G.length + 9) ⟨71, 0, 0, 0⟩)) ∧ wb27.ownsRow z 24 4 (.slice M2 (C.length + 9) mc2) (C.length + 9) (syc (List.replicate (C.length + 9) ⟨72, 0, 0, 0⟩)) ∧ wb27.ownsRow z 24 4 (.slice M3 (P.length + 9) mc3) (P.length + 9) (syc (List.replicate (P.length + 9) ⟨73, 0, 0, 0⟩))) := ⟨bup H37.out.1 hbb27, Nat.le_trans H37.out.2.1 hbb27.size, Nat.le_trans H37.out.2.2.1 hbb27.size, Nat.le_trans H37.out.2.2.2.1 hbb27.size, Nat.le_trans H37.out.2.2.2.2.1 hbb27.size, H37.out.2.2.2.2.2.1.below hbb27, own_below H37.out.2.2.2.2.2.2.1 hbb27, own_below H37.out.2.2.2.2.2.2.2.1 hbb27, own_below H37.out.2.2.2.2.2.2.2.2 hbb27⟩
  clear H37
  clear hbb27
  have HD28 := Lib.hid (same_any L10 L4 G.length lc10 lc4 G wb27 (H38.out.2.2.2.2.2.1 (L10, G) (by simp)).1 (H38.out.2.2.2.2.2.1 (L4, G) (by simp)).1)
  go_wp2_with fail
  refine HD28.out.mono ?_
  rintro e wb28 ⟨rfl, hbb28⟩
  clear HD28
  have H39 : Hid (Below wR.heap.size wR wb28 ∧ z ≤ wb28.heap.size ∧ z1 ≤ wb28.heap.size ∧ z2 ≤ wb28.heap.size ∧ z3 ≤ wb28.heap.size ∧ AllF z3 wb28 [(L11, P), (L10, G), (L9, P), (L8, C), (L7, G), (L6, P), (L5, C), (L4, G)] ∧ wb28.ownsRow z 24 4 (.slice M1 (G.length + 9) mc1) (G.length + 9) (syc (List.replicate (G.length + 9) ⟨71, 0, 0, 0⟩)) ∧ wb28.ownsRow z 24 4 (.slice M2 (C.length + 9) mc2) (C.length + 9) (syc (List.replicate (C.length + 9) ⟨72, 0, 0, 0⟩)) ∧ wb28.ownsRow z 24 4 (.slice M3 (P.length + 9) mc3) (P.length + 9) (syc (List.replicate (P.length + 9) ⟨73, 0, 0, 0⟩))) := ⟨bup H38.out.1 hbb28, Nat.le_trans H38.out.2.1 hbb28.size, Nat.le_trans H38.out.2.2.1 hbb28.size, Nat.le_trans H38.out.2.2.2.1 hbb28.size, Nat.le_trans H38.out.2.2.2.2.1 hbb28.size, H38.out.2.2.2.2.2.1.below hbb28, own_below H38.out.2.2.2.2.2.2.1 hbb28, own_below H38.out.2.2.2.2.2.2.2.1 hbb28, own_below H38.out.2.2.2.2.2.2.2.2 hbb28⟩
  clear H38
  clear hbb28
  have HD29 := Lib.hid (same_any L11 L6 P.length lc11 lc6 P wb28 (H39.out.2.2.2.2.2.1 (L11, P) (by simp)).1 (H39.out.2.2.2.2.2.1 (L6, P) (by simp)).1)
  go_wp2_with fail
  refine HD29.out.mono ?_
  rintro e wb29 ⟨rfl, hbb29⟩
  clear HD29
  have H40 : Hid (Below wR.heap.size wR wb29 ∧ z ≤ wb29.heap.size ∧ z1 ≤ wb29.heap.size ∧ z2 ≤ wb29.heap.size ∧ z3 ≤ wb29.heap.size ∧ AllF z3 wb29 [(L11, P), (L10, G), (L9, P), (L8, C), (L7, G), (L6, P), (L5, C), (L4, G)] ∧ wb29.ownsRow z 24 4 (.slice M1 (G.length + 9) mc1) (G.length + 9) (syc (List.replicate (G.length + 9) ⟨71, 0, 0, 0⟩)) ∧ wb29.ownsRow z 24 4 (.slice M2 (C.length + 9) mc2) (C.length + 9) (syc (List.replicate (C.length + 9) ⟨72, 0, 0, 0⟩)) ∧ wb29.ownsRow z 24 4 (.slice M3 (P.length + 9) mc3) (P.length + 9) (syc (List.replicate (P.length + 9) ⟨73, 0, 0, 0⟩))) := ⟨bup H39.out.1 hbb29, Nat.le_trans H39.out.2.1 hbb29.size, Nat.le_trans H39.out.2.2.1 hbb29.size, Nat.le_trans H39.out.2.2.2.1 hbb29.size, Nat.le_trans H39.out.2.2.2.2.1 hbb29.size, H39.out.2.2.2.2.2.1.below hbb29, own_below H39.out.2.2.2.2.2.2.1 hbb29, own_below H39.out.2.2.2.2.2.2.2.1 hbb29, own_below H39.out.2.2.2.2.2.2.2.2 hbb29⟩
  clear H39
  clear hbb29
  obtain ⟨x0, x1, x2, x3, x4, x5, x6, x7, x8⟩ := Blk.nine_ (HQ.out wb29 H40.out.1).x
  obtain ⟨⟨s0, s1, s2, s3, s4⟩, _⟩ := st_five (HQ.out wb29 H40.out.1).s
  have hob : wb29.ownsRow D 5 1 (.slice (some ⟨g, 0, none⟩) m cap) m (bys l) := by
    have hp := own_take (HQ.out wb29 H40.out.1).ob (m := m) (by omega)
    have e : (bys (l ++ [165])).take (m * 1) = bys l := by
      have hln := (HQ.out wb29 H40.out.1).ia.len
      rw [bys_snoc, List.take_append_of_le_length (by unfold bys; simp; omega), List.take_of_length_le (by unfold bys; simp; omega)]
    rw [e] at hp
    exact hp
  have hw_ : Below w.heap.size w wb29 := HZ.out.2.2.2.2.2.1.trans ((H40.out.1).mono HZ.out.2.2.2.2.2.1.size)
  have HN_ := Lib.hid (HK7.out g cap D wb29 hob (fun W' hW' => HL0.out.below (hw_.trans (hW'.below hw_.size (fun q hq => by have h3 : q = g := hq; have := HZ.out.2.2.1; have := HZ.out.2.2.2.1; have := HZ.out.2.2.2.2.1; omega)))))
  clear hob hw_
  go_wp2_with fail
  refine HN_.out.mono ?_
  rintro e wn ⟨rfl, hnF⟩
  clear HN_ x0 x1 x2 x3 x4 x5 x6 x7 x8 s0 s1 s2 s3 s4
  have HEnd : Hid (Below w.heap.size w wn) := by
    have h1 : Below w.heap.size w wb29 := HZ.out.2.2.2.2.2.1.trans ((H40.out.1).mono HZ.out.2.2.2.2.2.1.size)
    exact h1.trans (hnF.below h1.size (fun q hq => by have h3 : q = g := hq; have := HZ.out.2.2.1; have := HZ.out.2.2.2.1; have := HZ.out.2.2.2.2.1; omega))
  have H41 : Hid (wn.ownsRow z 24 4 (.slice M1 (G.length + 9) mc1) (G.length + 9) (syc (List.replicate (G.length + 9) ⟨71, 0, 0, 0⟩)) ∧ wn.ownsRow z 24 4 (.slice M2 (C.length + 9) mc2) (C.length + 9) (syc (List.replicate (C.length + 9) ⟨72, 0, 0, 0⟩)) ∧ wn.ownsRow z 24 4 (.slice M3 (P.length + 9) mc3) (P.length + 9) (syc (List.replicate (P.length + 9) ⟨73, 0, 0, 0⟩))) := ⟨own_fr H40.out.2.2.2.2.2.2.1 hnF (fun q hq hs => by have h1 := (own_lt H40.out.2.2.2.2.2.2.1 hq).1; have h2 := HZ.out.1; have h3 : q = g := hs; omega), own_fr H40.out.2.2.2.2.2.2.2.1 hnF (fun q hq hs => by have h1 := (own_lt H40.out.2.2.2.2.2.2.2.1 hq).1; have h2 := HZ.out.1; have h3 : q = g := hs; omega), own_fr H40.out.2.2.2.2.2.2.2.2 hnF (fun q hq hs => by have h1 := (own_lt H40.out.2.2.2.2.2.2.2.2 hq).1; have h2 := HZ.out.1; have h3 : q = g := hs; omega)⟩
  clear H40
  clear hnF
  have H42 : Hid (wn.ownsRow z 24 4 (.slice M1 (G.length + 9) mc1) (G.length + 9) (syc (List.replicate (G.length + 9) ⟨71, 0, 0, 0⟩)) ∧ wn.ownsRow z 24 4 (.slice M2 (C.length + 9) mc2) (C.length + 9) (syc (List.replicate (C.length + 9) ⟨72, 0, 0, 0⟩)) ∧ wn.ownsRow z 24 4 (.slice M3 (P.length + 9) mc3) (P.length + 9) (syc (List.replicate (P.length + 9) ⟨73, 0, 0, 0⟩)) ∧ Below w.heap.size w wn) := ⟨H41.out.1, H41.out.2.1, H41.out.2.2, HEnd.out⟩
  clear H41
  clear HEnd
  have HD32 := Lib.hid (full_true M1 mc1 G.length 71 wn (by omega) (InS.of_own H42.out.1 (by omega)))
  go_wp2_with fail
  refine HD32.out.mono ?_
  rintro e wb32 ⟨rfl, hbb32⟩
  clear HD32
  have H43 : Hid (wb32.ownsRow z 24 4 (.slice M1 (G.length + 9) mc1) (G.length + 9) (syc (List.replicate (G.length + 9) ⟨71, 0, 0, 0⟩)) ∧ wb32.ownsRow z 24 4 (.slice M2 (C.length + 9) mc2) (C.length + 9) (syc (List.replicate (C.length + 9) ⟨72, 0, 0, 0⟩)) ∧ wb32.ownsRow z 24 4 (.slice M3 (P.length + 9) mc3) (P.length + 9) (syc (List.replicate (P.length + 9) ⟨73, 0, 0, 0⟩)) ∧ Below w.heap.size w wb32) := ⟨own_below H42.out.1 hbb32, own_below H42.out.2.1 hbb32, own_below H42.out.2.2.1 hbb32, bup H42.out.2.2.2 hbb32⟩
  clear H42
  clear hbb32
  have HD33 := Lib.hid (full_true M2 mc2 C.length 72 wb32 (by omega) (InS.of_own H43.out.2.1 (by omega)))
  go_wp2_with fail
  refine HD33.out.mono ?_
  rintro e wb33 ⟨rfl, hbb33⟩
  clear HD33
  have H44 : Hid (wb33.ownsRow z 24 4 (.slice M1 (G.length + 9) mc1) (G.length + 9) (syc (List.replicate (G.length + 9) ⟨71, 0, 0, 0⟩)) ∧ wb33.ownsRow z 24 4 (.slice M2 (C.length + 9) mc2) (C.length + 9) (syc (List.replicate (C.length + 9) ⟨72, 0, 0, 0⟩)) ∧ wb33.ownsRow z 24 4 (.slice M3 (P.length + 9) mc3) (P.length + 9) (syc (List.replicate (P.length + 9) ⟨73, 0, 0, 0⟩)) ∧ Below w.heap.size w wb33) := ⟨own_below H43.out.1 hbb33, own_below H43.out.2.1 hbb33, own_below H43.out.2.2.1 hbb33, bup H43.out.2.2.2 hbb33⟩
  clear H43
  clear hbb33
  have HD34 := Lib.hid (full_true M3 mc3 P.length 73 wb33 (by omega) (InS.of_own H44.out.2.2.1 (by omega)))
  go_wp2_with fail
  refine HD34.out.mono ?_
  rintro e wb34 ⟨rfl, hbb34⟩
  clear HD34
  have H45 : Hid (wb34.ownsRow z 24 4 (.slice M1 (G.length + 9) mc1) (G.length + 9) (syc (List.replicate (G.length + 9) ⟨71, 0, 0, 0⟩)) ∧ wb34.ownsRow z 24 4 (.slice M2 (C.length + 9) mc2) (C.length + 9) (syc (List.replicate (C.length + 9) ⟨72, 0, 0, 0⟩)) ∧ wb34.ownsRow z 24 4 (.slice M3 (P.length + 9) mc3) (P.length + 9) (syc (List.replicate (P.length + 9) ⟨73, 0, 0, 0⟩)) ∧ Below w.heap.size w wb34) := ⟨own_below H44.out.1 hbb34, own_below H44.out.2.1 hbb34, own_below H44.out.2.2.1 hbb34, bup H44.out.2.2.2 hbb34⟩
  clear H44
  clear hbb34
  go_wp2_with fail
  go_ret
  exact ⟨rfl, H45.out.2.2.2⟩
end Go.Proofs.YthlflcnpmabmbaaDoor
