/-
  Walk of choose: the step that it answers is the literal, or one of the finder's matches in one of its lengths. Conditions: the data lie in memory, the finder stands at the place.
-/
import Derived.Test.YthlflcnpmabmbaaDoorChP
import Derived.Test.YthlflcnpmabmbaaDoorMeG
import Derived.Test.YthlflcnpmabmbaaDoorPaS
namespace Go.Proofs.YthlflcnpmabmbaaDoor
open Go.RowKit Go.Shelf
attribute [local go_sem] Oper.semAt_some
set_option maxRecDepth 100000

set_option maxHeartbeats 8000000 in
theorem choose_any (A : Option Addr) (m c : Nat) (l : List UInt8) (fr tz di : Nat) (s : St) (q : FP) (p : Nat) (pick : Int) (w : World) (h : In w A m l) (hmc : m ≤ c) (hm : m ≤ 600) (hF : Fi q p w) (hql : q.l = l) (hqd : q.dict = (di : Int)) (h2 : p < tz) (h3 : tz ≤ m) (hd : 1 ≤ di ∧ di ≤ 4096) (hp : -9223372036854775808 ≤ pick ∧ pick ≤ 9223372036854775807) :
    Calls Tryd.prog 30 #[.agg (pcC A m c fr tz di s), .pointer (some ⟨q.fb, 0, none⟩), .int .i64 p, .int .i64 pick] w fun e w' => ∃ y : Sy, e = .returned y.v ∧ planSt l tz (di : Int) p y ∧ p + ysz y ≤ tz ∧ Below w.heap.size w w' := by
  obtain ⟨i0, hi0, hz0, hz1, hz2⟩ := info_parts infoM
  obtain ⟨nu, ra, rb, rc, rd⟩ := s
  have hlen : l.length = m := h.len
  have hm32 := mats_le l (di : Int) p (pmost tz p : Int)
  have hmem := fun x (hx : x ∈ mats l (di : Int) p (pmost tz p : Int)) => mats_mem hx
  obtain ⟨ms, hms⟩ : ∃ ms, mats l (di : Int) p (pmost tz p : Int) = ms := ⟨_, rfl⟩
  have Hms := Lib.hid (And.intro hms hmem)
  rw [hms] at hm32
  obtain ⟨pm, hpm⟩ : ∃ pm, pmost tz p = pm := ⟨_, rfl⟩
  have hpm1 : pm ≤ 273 ∧ pm ≤ tz - p := by rw [← hpm]; unfold pmost; omega
  have hmn : min (273 : Int) ((tz : Int) - (p : Int)) = (pm : Int) := by rw [← hpm]; unfold pmost; omega
  have Hpm := Lib.hid hpm
  unfold pcC
  simp only []
  obtain ⟨B, hB⟩ : ∃ B, w.heap.size = B := ⟨_, rfl⟩
  have HI := Lib.hid (And.intro h (And.intro hF (And.intro hql (And.intro hqd hlen))))
  clear h hF hms hpm hmem hlen
  refine (callsIn_wide (n := 3)).1 ?_
  refine callsIn_of_wp_marks Tryd.func30 rfl trivial ?_ rfl
  refine wpIn_wide.2 ?_
  simp only [Tryd.ntmps30, List.size_toArray, List.length_cons, List.length_nil, Nat.reduceAdd, Nat.reduceSub, Array.replicate_succ, Array.replicate_zero, List.push_toArray, List.append_toArray, List.nil_append, List.cons_append]
  obtain ⟨ad, hA, z1⟩ := HI.out.1.at_ (j := p) (by omega)
  subst hA
  obtain ⟨z, hz⟩ : ∃ z, l.getD p 0 = z := ⟨_, rfl⟩
  rw [hz] at z1
  have Hz := Lib.hid hz
  obtain ⟨wA, hwA⟩ : ∃ wA, (w.alloc (.cells #[.slice (some ad) m c, .int .i64 fr, .int .i64 tz, .int .i64 di, .int .i64 nu, .int .i64 ra, .int .i64 rb, .int .i64 rc, .int .i64 rd] 45)).alloc (.cells #[.int .i64 0, .int .u8 0, .int .i64 0, .int .i64 0] 24) = wA := ⟨_, rfl⟩
  have hbA : Below w.heap.size w wA := by rw [← hwA]; exact ((Below.refl _ _).alloc (Nat.le_refl _) _).alloc (by simp) _
  have hA0 : Blk wA B 45 #[.slice (some ad) m c, .int .i64 fr, .int .i64 tz, .int .i64 di, .int .i64 nu, .int .i64 ra, .int .i64 rb, .int .i64 rc, .int .i64 rd] := by rw [← hwA]; exact (Blk.new_at hB.symm).alloc _
  have hA1 : Blk wA (B + 1) 24 #[.int .i64 0, .int .u8 0, .int .i64 0, .int .i64 0] := by rw [← hwA]; exact Blk.new_at (by simp [hB])
  have hAz : wA.heap.size = B + 1 + 1 := by rw [← hwA]; simp [hB]
  obtain ⟨⟨c0, c1, c2, c3, c4, c5, c6, c7, c8⟩, _, _⟩ := hA0.nine
  have zA : wA.cell? (ad.add p) = some (.int .u8 (z.toNat : Int)) := by
    obtain ⟨ad', e, hc⟩ := (HI.out.1.below hbA).at_ (j := p) (by omega)
    cases e
    rw [Hz.out] at hc
    exact hc
  have HA := Lib.hid (And.intro hbA (And.intro hA0 (And.intro hA1 hAz)))
  have hpm2 : (p : Int) < (m : Int) := by omega
  clear hbA hA0 hA1 hz z1
  go_upto_region 1 with (fail)
  try simp only [hwA]
  clear hwA
  go_cut [9] from 15 to 20 (fun s9 wy => s9 = .pointer (some ⟨B + 1 + 1, 0, none⟩) ∧ wy = wA.alloc (.cells #[.int .i64 1, .int .u8 (z.toNat : Int), .int .i64 0, .int .i64 0] 24))
  case first =>
    go_wp2_with fail
    go_meet
    exact ⟨rfl, rfl⟩
  obtain ⟨rfl, hwc⟩ := hcut
  obtain ⟨wL, hwL⟩ : ∃ wL, wL = wc := ⟨_, rfl⟩
  have hbL : Below wA.heap.size wA wL := by rw [hwL, hwc]; exact (Below.refl _ _).alloc (Nat.le_refl _) _
  have hL2 : Blk wL (B + 1 + 1) 24 #[.int .i64 1, .int .u8 (z.toNat : Int), .int .i64 0, .int .i64 0] := by rw [hwL, hwc]; exact Blk.new_at hAz.symm
  have hLz : wL.heap.size = B + 1 + 1 + 1 := by rw [hwL, hwc, World.size_alloc, hAz]
  have HL := Lib.hid (And.intro (bup HA.out.1 hbL) (And.intro (HA.out.2.1.below hbL) (And.intro (HA.out.2.2.1.below hbL) (And.intro hL2 hLz))))
  subst hwL
  clear hwc hbL hL2 c0 c1 c2 c3 c4 c5 c6 c7 c8 zA HA
  go_step
  go_step
  go_cut [3] from 21 to 25 (fun s3 wy => ∃ P : Nat, s3 = .int .i64 (P : Int) ∧ (P : Int) ≤ 9223372036854775807 ∧ wy = wL)
  case first =>
    by_cases h0 : pick < 0
    · go_wp2_with fail
      go_meet
      exact ⟨(-(pick + 1)).toNat, by go_num, by omega, rfl⟩
    · go_wp2_with fail
      go_meet
      exact ⟨pick.toNat, by congr 1; omega, by omega, rfl⟩
  obtain ⟨P, rfl, hP, hwc⟩ := hcut
  subst hwc
  go_upto_region 5 with (fail)
  obtain ⟨wM, hwM⟩ : ∃ wM, wc.alloc (.cells #[.slice none 0 0] 86) = wM := ⟨_, rfl⟩
  have hbM : Below wc.heap.size wc wM := by rw [← hwM]; exact (Below.refl _ _).alloc (Nat.le_refl _) _
  have hM3 : Blk wM (B + 1 + 1 + 1) 86 #[.slice none 0 0] := by rw [← hwM]; exact Blk.new_at HL.out.2.2.2.2.symm
  have hMz : wM.heap.size = B + 1 + 1 + 1 + 1 := by rw [← hwM, World.size_alloc, HL.out.2.2.2.2]
  have HM := Lib.hid (And.intro (bup HL.out.1 hbM) (And.intro (HL.out.2.1.below hbM) (And.intro (HL.out.2.2.1.below hbM) (And.intro (HL.out.2.2.2.1.below hbM) (And.intro hM3 hMz)))))
  obtain ⟨⟨c0, c1, c2, c3, c4, c5, c6, c7, c8⟩, _, _⟩ := HM.out.2.1.nine
  try simp only [hwM]
  clear hwM hbM hM3 HL
  go_wp2_with fail
  refine (Matches_any q.fb pm wM).mono ?_
  rintro e w2 ⟨rfl, rfl⟩
  rw [hMz]
  obtain ⟨wS, hwS⟩ : ∃ wS, (wM.alloc (.cells #[.pointer (some ⟨q.fb, 0, none⟩)] 64)).alloc (.cells #[.int .i64 (pm : Int)] 3) = wS := ⟨_, rfl⟩
  have hsz : wS.heap.size = B + 6 := by rw [← hwS]; simp [hMz]
  have hbS : Below wM.heap.size wM wS := by rw [← hwS]; exact ((Below.refl _ _).alloc (Nat.le_refl _) _).alloc (by simp) _
  have hfx : Blk wS (B + 1 + 1 + 1 + 1) 64 #[.pointer (some ⟨q.fb, 0, none⟩)] := by rw [← hwS]; exact (Blk.new_at hMz.symm).alloc _
  have hmx : Blk wS (B + 1 + 1 + 1 + 1 + 1) 3 #[.int .i64 (pm : Int)] := by rw [← hwS]; exact Blk.new_at (by simp [hMz])
  rw [hwS]
  have HS := Lib.hid (And.intro (bup HM.out.1 hbS) (And.intro (HM.out.2.1.below hbS) (And.intro (HM.out.2.2.1.below hbS) (And.intro (HM.out.2.2.2.1.below hbS) (And.intro (HM.out.2.2.2.2.1.below hbS) (And.intro hfx (And.intro hmx (HI.out.2.1.below (bup HM.out.1 hbS)))))))))
  have hfT : Hid (q.T ≤ B ∧ q.fb < q.T ∧ ∀ g, FinP q g → g < B) := ⟨by rw [← hB]; exact HI.out.2.1.ts, HI.out.2.1.fs.2, fun g hg => by have h1 := HI.out.2.1.ts; have h2 := hg.2.2; omega⟩
  have HBs := Lib.hid hB
  clear hwS hbS hfx hmx hMz hB HM c0 c1 c2 c3 c4 c5 c6 c7 c8
  have hsn := seq_nil
  go_wp2_with fail
  refine (wpIn_wide (n := 3)).1 ?_
  refine range_la (n := 3) (by omega) (gf := 73) (lb := #[.pointer (some ⟨B + 1 + 1 + 1 + 1, 0, none⟩), .pointer (some ⟨B + 1 + 1 + 1 + 1 + 1, 0, none⟩)]) rfl (enters_of Tryd.func73 (by kernel_rfl) rfl) rfl .ret
    (fun k W => ∃ L lc, Blk W (B + 1 + 1 + 1) 86 #[.slice L k lc] ∧ W.ownsRow (B + 8) 98 2 (.slice L k lc) k (ents (ms.take k)) ∧ Blk W (B + 1 + 1 + 1 + 1) 64 #[.pointer (some ⟨q.fb, 0, none⟩)] ∧ Fi q p W ∧ Blk W B 45 #[.slice (some ad) m c, .int .i64 fr, .int .i64 tz, .int .i64 di, .int .i64 nu, .int .i64 ra, .int .i64 rb, .int .i64 rc, .int .i64 rd] ∧ Blk W (B + 1) 24 #[.int .i64 0, .int .u8 0, .int .i64 0, .int .i64 0] ∧ Blk W (B + 1 + 1) 24 #[.int .i64 1, .int .u8 (z.toNat : Int), .int .i64 0, .int .i64 0] ∧ Below w.heap.size w W) (fun _ => False) (fun k v => ∃ m, ms[k]? = some m ∧ v = mV m) ms.length (B + 6) hsz ?i1 ?x1
    ⟨none, 0, HS.out.2.2.2.2.1, World.ownsRow_nil _ _ _ _, HS.out.2.2.2.2.2.1, HS.out.2.2.2.2.2.2.2, HS.out.2.1, HS.out.2.2.1, HS.out.2.2.2.1, HS.out.1⟩ ?iter
    (fun v W => { tmps := #[.agg #[.slice (some ad) m c, .int .i64 ↑fr, .int .i64 ↑tz, .int .i64 ↑di, .int .i64 nu, .int .i64 ra, .int .i64 rb, .int .i64 rc, .int .i64 rd], .pointer (some ⟨q.fb, 0, none⟩), .int .i64 ↑p, .int .i64 ↑P, .pointer (some ⟨B, 0, none⟩), undef, undef, undef, .pointer (some ⟨B + 1, 0, none⟩), .pointer (some ⟨B + 1 + 1, 0, none⟩), .pointer (some ⟨B + 1 + 1 + 1, 0, none⟩), .func (.func 73) #[] #[.pointer (some ⟨B + 1 + 1 + 1 + 1, 0, none⟩), .pointer (some ⟨B + 1 + 1 + 1 + 1 + 1, 0, none⟩)], .pointer (some ⟨W.heap.size, 0, none⟩), undef, undef, u15, u16, u17, u18, u19, u20, u21, u22, u23, u24, u25, .pointer (some ⟨q.fb, 0, none⟩), .pointer (some ⟨B, 2, none⟩), .int .i64 ↑tz, .int .i64 ↑p, .int .i64 (↑tz - ↑p), .int .i64 ↑pm, .func (.func 73) #[] #[.pointer (some ⟨B + 1 + 1 + 1 + 1, 0, none⟩), .pointer (some ⟨B + 1 + 1 + 1 + 1 + 1, 0, none⟩)], .func (.func 73) #[] #[.pointer (some ⟨B + 1 + 1 + 1 + 1, 0, none⟩), .pointer (some ⟨B + 1 + 1 + 1 + 1 + 1, 0, none⟩)], .bool false, undef, .func (.func 73) #[] #[.pointer (some ⟨B + 1 + 1 + 1 + 1, 0, none⟩), .pointer (some ⟨B + 1 + 1 + 1 + 1 + 1, 0, none⟩)], v, undef, undef, undef, undef, undef, undef, undef, undef, undef, undef, undef, undef, undef, undef, undef, undef, undef, undef, undef, undef, undef, undef, undef, undef, undef, undef, undef, undef, undef, undef, undef, undef, undef, undef, undef, undef, undef, undef, undef, undef, undef, undef, undef, undef, undef, undef, undef, undef, undef, undef, undef, undef, undef, undef, undef], defers := [] }) awM awM_below ?assign ?body ?done ?stop
  case i1 =>
    rintro k W W' ⟨L, lc, h1, h5, h2, h3, g0, g1, g2, h4⟩ hF
    have hB := HBs.out
    refine ⟨L, lc, h1.fr hF (by omega), own_fr h5 hF (fun g hg e => by have := (own_lt h5 hg).1; omega), h2.fr hF (by omega), h3.fr hF (fun g h1 h2 => by have := hfT.out.1; omega), g0.fr hF (by omega), g1.fr hF (by omega), g2.fr hF (by omega), h4.trans (hF.below h4.size (fun k e => by omega))⟩
  case x1 => intro W W' h; exact h.elim
  case iter =>
    intro J Jx r hJ0 hJf hJI hY
    have hbl : Below wS.heap.size wS ((wS.alloc (.deferred (some []))).alloc (.loop r)) := ((Below.refl _ _).alloc (Nat.le_refl _) _).alloc (by simp) _
    have hFS := HS.out.2.2.2.2.2.2.2
    obtain ⟨_, _, hql', hqd', hlen'⟩ := HI.out
    have := matches1_lv 2 (B + 6 + 1) (B + 1 + 1 + 1 + 1) (B + 1 + 1 + 1 + 1 + 1) pm q p J Jx _ (hFS.below hbl) (HS.out.2.2.2.2.2.1.below hbl) (HS.out.2.2.2.2.2.2.1.below hbl) (by rw [hql', hlen']; omega) (by rw [hql', hlen']; omega) (by rw [hqd']; omega) hJ0 hJf (fun k W hJ => by
      obtain ⟨⟨L, lc, _, _, h2, h3, _⟩, _⟩ := hJI k W hJ
      exact ⟨⟨p, h3⟩, h2⟩) (fun k m W hJ hm => by
      rw [hql', hqd', ← Hpm.out, Hms.out.1] at hm
      exact hY k (mV m) W hJ ⟨m, hm, rfl⟩ (List.getElem?_eq_some_iff.1 hm).1)
    rw [hql', hqd', ← Hpm.out, Hms.out.1] at this
    exact this
  case assign =>
    rintro k v W R ⟨m, hm, rfl⟩ hR
    unfold mV at hR ⊢
    gi_wp2
    exact hR
  case body =>
    rintro k v W Wb ⟨L, lc, h1, h5, h2, h3, y0, y1, y2, h4⟩ ⟨m, hm, rfl⟩ hk hD hFb
    have hB := HBs.out
    have hF : Fr (fun g => g = B + 6 ∨ g = B + 6 + 1) W Wb := ((Fr.refl _ W).of_below' (awM_below (mV m) W)).trans' hFb (fun i _ e => .inr e)
    have hbx : Blk Wb W.heap.size 98 (mC m) := (awM_box m W).fr hFb (by omega)
    have h1 := h1.fr hF (by omega)
    have h2 := h2.fr hF (by omega)
    have y0 := y0.fr hF (by omega)
    have y1 := y1.fr hF (by omega)
    have y2 := y2.fr hF (by omega)
    have h3 := h3.fr hF (fun g h1 h2 => by have := hfT.out.1; omega)
    have h5 := own_fr h5 hF (fun g hg e => by have := (own_lt h5 hg).1; omega)
    have h4 : Below w.heap.size w Wb := h4.trans (hF.below h4.size (fun k e => by omega))
    have hsB : B + 8 ≤ Wb.heap.size := by have := hF.size; omega
    obtain ⟨X, hX⟩ : ∃ X, W.heap.size = X := ⟨_, rfl⟩
    rw [hX] at hbx ⊢
    have htk : ents (ms.take (k + 1)) = ents (ms.take k) ++ [.int .i64 (m.1 : Int), .int .i64 (m.2 : Int)] := by rw [take_snoc hm, ents_append]; rfl
    obtain ⟨m1, m2⟩ := m
    obtain ⟨c0, c1⟩ := hbx.two
    have d0 : Wb.cell? ⟨B + 1 + 1 + 1, 0, none⟩ = some (.slice L k lc) := h1.one
    have f0 := h1.frozen 0
    have hBl := h1.lt
    have H1 := Lib.hid h1
    have H2 := Lib.hid h2
    have H3 := Lib.hid h3
    have H4 := Lib.hid h4
    have H5 := Lib.hid h5
    have HY := Lib.hid (And.intro y0 (And.intro y1 y2))
    have Htk := Lib.hid htk
    have hXD : B + 6 + 1 < X := by omega
    have hXl : X < Wb.heap.size := hbx.lt
    obtain ⟨xs, hxs⟩ : ∃ xs, ents (ms.take k) = xs := ⟨_, rfl⟩
    rw [hxs] at H5 Htk
    have hk32 : k ≤ 31 := by omega
    clear h1 h2 h3 h4 h5 y0 y1 y2 hbx htk hF hFb hm hB hX hD hxs hk
    gi_wp2_with (gi_at_builtin; refine wpListIn_append_own_at (w := Wb.alloc (.cells #[.int .i64 (m1 : Int), .int .i64 (m2 : Int)] 98)) rfl (.tmp 38) (.tmp 40) 86 rfl (B + 8) 98 i0 _ 2 16 Tryd.underlying86 hi0 hz0 hz1 hz2 rfl (by decide) (.slice L k lc) k xs rfl (H5.out.alloc _) ⟨Wb.heap.size, 0, none⟩ 1 1 [.int .i64 (m1 : Int), .int .i64 (m2 : Int)] rfl rfl (World.news_of_block (heap_alloc_new Wb _)) (by simp [Value.oneCell']) (by simp only [maxLen]; omega) (by omega) (by simp; omega) ?_; intro v' w2 hown2 hg2 hnil2 hat2; obtain ⟨g', cap', rfl⟩ := ownsRow_succ hown2; have hb2 := (H1.out.alloc (.cells #[.int .i64 (m1 : Int), .int .i64 (m2 : Int)] 98)).same (hg2.block (B + 1 + 1 + 1) (by simp; omega) (fun e => own_ne H5.out H1.out (by decide) e)); have hc1 := hb2.cell 0; have hf1 := hb2.frozen 0; have hlt1 := hb2.lt)
    have hB := HBs.out
    have hF : Fr (fun q => q = B + 1 + 1 + 1 ∨ some q = (Value.slice L k lc).ownBlock) Wb (w2.setCell ⟨B + 1 + 1 + 1, 0, none⟩ (.slice (some ⟨g', 0, none⟩) (k + 1) cap')) := (((Fr.refl _ Wb).alloc _).grown hg2 (fun q hq => .inl (.inr hq.symm))).setCell (p := ⟨B + 1 + 1 + 1, 0, none⟩) (.inl (.inl rfl)) _
    have hout : ∀ q, q < B + 8 → q ≠ B + 1 + 1 + 1 → ¬ (q = B + 1 + 1 + 1 ∨ some q = (Value.slice L k lc).ownBlock) := fun q hq hne e => by
      rcases e with e | e
      · exact hne e
      · have := (own_lt H5.out e.symm).1; omega
    refine ⟨hF.block (B + 6) (by omega) (hout _ (by omega) (by omega)), hF.block (B + 6 + 1) (by omega) (hout _ (by omega) (by omega)), some ⟨g', 0, none⟩, cap', ?_, ?_, H2.out.fr hF (hout _ (by omega) (by omega)), H3.out.fr hF (fun g h1 h2 => hout g (by have := hfT.out.1; omega) (by have := hfT.out.1; omega)), HY.out.1.fr hF (hout _ (by omega) (by omega)), HY.out.2.1.fr hF (hout _ (by omega) (by omega)), HY.out.2.2.fr hF (hout _ (by omega) (by omega)), ?_⟩
    · exact hb2.set_ 0 _
    · rw [Htk.out]; exact own_far hown2 (p := ⟨B + 1 + 1 + 1, 0, none⟩) (own_ne hown2 hb2 (by decide)) _
    · refine H4.out.trans (hF.below H4.out.size (fun q e => ?_))
      rcases e with e | e
      · omega
      · have := (own_lt H5.out e.symm).1; omega
  case done =>
    rintro W ⟨L, lc, h1, h5, h2, h3, y0, y1, y2, h4⟩ hM
    rw [List.take_length] at h5
    have hB := HBs.out
    have hMl : B + 6 < W.heap.size := (Array.getElem?_eq_some_iff.1 hM).1
    have HE : Hid (∀ (j : Nat) (v0 v1 v2 v3 : Value), (((((W.drewN j).setCell ⟨B + 1, 0, none⟩ v0).setCell ⟨B + 1, 1, none⟩ v1).setCell ⟨B + 1, 2, none⟩ v2).setCell ⟨B + 1, 3, none⟩ v3).heap[B + 6]? = some (.deferred (some [])) ∧ Blk ((((((W.drewN j).setCell ⟨B + 1, 0, none⟩ v0).setCell ⟨B + 1, 1, none⟩ v1).setCell ⟨B + 1, 2, none⟩ v2).setCell ⟨B + 1, 3, none⟩ v3).putObj (B + 6) (.deferred none)) (B + 1) 24 #[v0, v1, v2, v3] ∧ Below w.heap.size w ((((((W.drewN j).setCell ⟨B + 1, 0, none⟩ v0).setCell ⟨B + 1, 1, none⟩ v1).setCell ⟨B + 1, 2, none⟩ v2).setCell ⟨B + 1, 3, none⟩ v3).putObj (B + 6) (.deferred none))) := fun j v0 v1 v2 v3 => by
      have hF : Fr (fun g => g = B + 1) W (((((W.drewN j).setCell ⟨B + 1, 0, none⟩ v0).setCell ⟨B + 1, 1, none⟩ v1).setCell ⟨B + 1, 2, none⟩ v2).setCell ⟨B + 1, 3, none⟩ v3) :=
        (((((Fr.refl (fun g => g = B + 1) W).drewN j).setCell (p := ⟨B + 1, 0, none⟩) (.inl rfl) _).setCell (p := ⟨B + 1, 1, none⟩) (.inl rfl) _).setCell (p := ⟨B + 1, 2, none⟩) (.inl rfl) _).setCell (p := ⟨B + 1, 3, none⟩) (.inl rfl) _
      have hY : Blk (((((W.drewN j).setCell ⟨B + 1, 0, none⟩ v0).setCell ⟨B + 1, 1, none⟩ v1).setCell ⟨B + 1, 2, none⟩ v2).setCell ⟨B + 1, 3, none⟩ v3) (B + 1) 24 #[v0, v1, v2, v3] := ((((y1.drewN j).set_ 0 v0).set_ 1 v1).set_ 2 v2).set_ 3 v3
      have hb := h4.trans (hF.below h4.size (fun k e => by omega))
      have hF2 := (Fr.refl (fun g => g = B + 6) (((((W.drewN j).setCell ⟨B + 1, 0, none⟩ v0).setCell ⟨B + 1, 1, none⟩ v1).setCell ⟨B + 1, 2, none⟩ v2).setCell ⟨B + 1, 3, none⟩ v3)).put_ (l := B + 6) rfl (.deferred none)
      exact ⟨(hF.block (B + 6) hMl (by omega)).trans hM, hY.fr hF2 (by omega), hb.trans (hF2.below hb.size (fun k e => by omega))⟩
    have d0 : ∀ a, (W.drewN a).cell? ⟨B + 1 + 1 + 1, 0, none⟩ = some (.slice L ms.length lc) := fun a => h1.one
    have d1 : W.cell? ⟨B + 1 + 1 + 1, 0, none⟩ = some (.slice L ms.length lc) := h1.one
    obtain ⟨⟨c0, c1, c2, c3, c4, c5, c6, c7, c8⟩, _, _⟩ := y0.nine
    have HW := Lib.hid (And.intro y0 (And.intro y1 (And.intro y2 (And.intro h5 h1))))
    obtain ⟨n, hn⟩ : ∃ n, ms.length = n := ⟨_, rfl⟩
    obtain ⟨K, hK⟩ : ∃ K, P % (n + 1) = K := ⟨_, rfl⟩
    have hKn : K ≤ n := by have := Nat.mod_lt P (show 0 < n + 1 by omega); omega
    have htm : Int.tmod (P : Int) ((n : Int) + 1) = (K : Int) := by
      rw [Int.tmod_eq_emod_of_nonneg (by omega), ← hK]
      rfl
    rw [hn] at d0 d1 hm32
    have HnK := Lib.hid (And.intro hn hK)
    clear h1 h2 h3 h4 h5 y0 y1 y2 hM hB hMl hK
    try simp only [hn]
    clear hn
    by_cases hKe : K = n
    · have hKt : ((K : Int) == (n : Int)) = true := by simp [hKe]
      have HKe := Lib.hid hKe
      clear hKe
      go_upto_region 12 with (fail)
      go_quiet (fail)
      obtain ⟨z0, z1, z2, z3⟩ := Blk.four (HW.out.2.2.1.drewN nq)
      obtain ⟨o0, o1, o2, o3⟩ := Blk.four (HW.out.2.1.drewN nq)
      obtain ⟨f0, f1, f2, f3⟩ := Blk.four_f (HW.out.2.1.drewN nq)
      have hBl := (HW.out.2.1.drewN nq).lt
      have HE1 := Lib.hid (HE.out nq (.int .i64 1) (.int .u8 (z.toNat : Int)) (.int .i64 0) (.int .i64 0))
      clear HW HE
      go_wp2_with fail
      refine ⟨by simp, .inl ⟨_, _, rfl, run_takeDeferred HE1.out.1, ?_⟩⟩
      obtain ⟨t0, t1, t2, t3⟩ := Blk.four HE1.out.2.1
      exact ⟨.agg #[.int .i64 1, .int .u8 (z.toNat : Int), .int .i64 0, .int .i64 0], by simp [results, Tryd.results30, go_sem, t0, t1, t2, t3], ⟨1, z, 0, 0⟩, rfl, .inl (by rw [Hz.out]), by show p + 1 ≤ tz; omega, HE1.out.2.2⟩
    · have hKf : ((K : Int) == (n : Int)) = false := by simp; omega
      obtain ⟨mk, hmk⟩ : ∃ mk, ms[K]? = some mk := ⟨_, List.getElem?_eq_getElem (by have := HnK.out.1; omega)⟩
      obtain ⟨g, hLg, e0, e1⟩ := row_get HW.out.2.2.2.1 hmk
      subst hLg
      obtain ⟨q1, q2, q3, q4, q5⟩ := Hms.out.2 mk (by rw [Hms.out.1]; exact List.mem_of_getElem? hmk)
      have hmem : mk ∈ mats l (di : Int) p (pmost tz p : Int) := by rw [Hms.out.1]; exact List.mem_of_getElem? hmk
      have hl5 : mk.1 ≤ pm := by unfold lft at q5; have := Hpm.out; omega
      have Hmem := Lib.hid hmem
      obtain ⟨m1, m2⟩ := mk
      simp only [] at e0 e1 q1 q2 q3 q4 hl5
      have hKn' : (K : Int) < (n : Int) := by omega
      have t3 : ¬ (m1 : Int) < 3 := by omega
      have t4 : ¬ (tz : Int) - (p : Int) < (m1 : Int) := by omega
      have Hq := Lib.hid q5
      clear q5 hmk hmem hKe
      go_upto_region 12 with (fail)
      go_quiet (fail)
      have e0' : (W.drewN nq).cell? ⟨g, K * 2, none⟩ = some (.int .i64 (m1 : Int)) := e0
      have e1' : (W.drewN nq).cell? ⟨g, K * 2 + 1, none⟩ = some (.int .i64 (m2 : Int)) := e1
      have d0' := d0 nq
      obtain ⟨o0, o1, o2, o3⟩ := Blk.four (HW.out.2.1.drewN nq)
      obtain ⟨f0, f1, f2, f3⟩ := Blk.four_f (HW.out.2.1.drewN nq)
      have hBl := (HW.out.2.1.drewN nq).lt
      have hend : ∀ n' : Nat, 3 ≤ n' → n' ≤ m1 → planSt l tz (di : Int) p ⟨2, 0, (n' : Int), (m2 : Int)⟩ ∧ p + ysz ⟨2, 0, (n' : Int), (m2 : Int)⟩ ≤ tz := fun n' h3 h4 => by
        refine ⟨.inr ⟨n', m2, rfl, h3, ⟨_, Hmem.out, h4, rfl⟩⟩, ?_⟩
        have : ysz ⟨2, 0, (n' : Int), (m2 : Int)⟩ = n' := by unfold ysz; simp only []; omega
        omega
      have Hend := Lib.hid hend
      clear hend HW
      by_cases h5 : P % 5 = 0
      · obtain ⟨n', hn'⟩ : ∃ n', 3 + P / 7 % (m1 - 2) = n' := ⟨_, rfl⟩
        have hlt := Nat.mod_lt (P / 7) (show 0 < m1 - 2 by omega)
        have hm5 : Int.tmod (P : Int) 5 = 0 := by rw [Int.tmod_eq_emod_of_nonneg (by omega)]; omega
        have hm5a : (P : Int) % 5 = 0 := by omega
        have hm5' : ((P : Int) % 5 == 0) = true := by rw [hm5a]; rfl
        have hq7 : Int.tdiv (P : Int) 7 = ((P / 7 : Nat) : Int) := by rw [Int.tdiv_eq_ediv_of_nonneg (by omega)]; rfl
        have hm2 : (m1 : Int) - 2 = ((m1 - 2 : Nat) : Int) := by omega
        have hqm : Int.tmod (((P / 7 : Nat)) : Int) ((m1 : Int) - 2) = ((P / 7 % (m1 - 2) : Nat) : Int) := by
          rw [Int.tmod_eq_emod_of_nonneg (by omega), hm2]
          rfl
        have hsum : (3 : Int) + Int.tmod (Int.tdiv (P : Int) 7) ((m1 : Int) - 2) = (n' : Int) := by rw [hq7, hqm]; omega
        have hne : ¬ ((m1 : Int) - 2 = 0) := by omega
        have hmb : 0 ≤ Int.tmod (Int.tdiv (P : Int) 7) ((m1 : Int) - 2) ∧ Int.tmod (Int.tdiv (P : Int) 7) ((m1 : Int) - 2) ≤ 273 := by omega
        have hem : (P : Int) / 7 % ((m1 : Int) - 2) = ((P / 7 % (m1 - 2) : Nat) : Int) := by rw [hm2]; rfl
        have hsum' : (3 : Int) + (P : Int) / 7 % ((m1 : Int) - 2) = (n' : Int) := by rw [hem]; omega
        have hn273 : n' ≤ 273 := by omega
        have hwr' : IntKind.i64.wrap (3 + (P : Int) / 7 % ((m1 : Int) - 2)) = (n' : Int) := by rw [hsum']; exact IntWalk.i64_in _ (by omega)
        have hwr2 : IntKind.i64.wrap (n' : Int) = (n' : Int) := IntWalk.i64_in _ (by omega)
        have hwr3 : IntKind.i64.wrap ((P : Int) / 7 % ((m1 : Int) - 2)) = (P : Int) / 7 % ((m1 : Int) - 2) := IntWalk.i64_in _ (by omega)
        obtain ⟨E1, E2⟩ := Hend.out n' (by omega) (by omega)
        have HE2 := Lib.hid (And.intro E1 E2)
        have HE1 := Lib.hid (HE.out nq (.int .i64 2) (.int .u8 0) (.int .i64 (n' : Int)) (.int .i64 (m2 : Int)))
        clear E1 E2 HE Hend hn' hlt h5 hqm hm2 hq7 hm5 hem hmb
        go_wp2_with fail
        refine ⟨by simp, .inl ⟨_, _, rfl, run_takeDeferred HE1.out.1, ?_⟩⟩
        obtain ⟨t0, t1, t2, t3⟩ := Blk.four HE1.out.2.1
        exact ⟨.agg #[.int .i64 2, .int .u8 0, .int .i64 (n' : Int), .int .i64 (m2 : Int)], by simp [results, Tryd.results30, go_sem, t0, t1, t2, t3], ⟨2, 0, (n' : Int), (m2 : Int)⟩, rfl, HE2.out.1, HE2.out.2, HE1.out.2.2⟩
      · have hm5 : ¬ Int.tmod (P : Int) 5 = 0 := by rw [Int.tmod_eq_emod_of_nonneg (by omega)]; omega
        have hm5e : ¬ (P : Int) % 5 = 0 := by omega
        have hm5' : ((P : Int) % 5 == 0) = false := by simpa using hm5e
        obtain ⟨E1, E2⟩ := Hend.out m1 (by omega) (Nat.le_refl _)
        have HE2 := Lib.hid (And.intro E1 E2)
        have HE1 := Lib.hid (HE.out nq (.int .i64 2) (.int .u8 0) (.int .i64 (m1 : Int)) (.int .i64 (m2 : Int)))
        clear E1 E2 HE Hend h5 hm5
        go_wp2_with fail
        refine ⟨by simp, .inl ⟨_, _, rfl, run_takeDeferred HE1.out.1, ?_⟩⟩
        obtain ⟨t0, t1, t2, t3⟩ := Blk.four HE1.out.2.1
        exact ⟨.agg #[.int .i64 2, .int .u8 0, .int .i64 (m1 : Int), .int .i64 (m2 : Int)], by simp [results, Tryd.results30, go_sem, t0, t1, t2, t3], ⟨2, 0, (m1 : Int), (m2 : Int)⟩, rfl, HE2.out.1, HE2.out.2, HE1.out.2.2⟩
  case stop => intro W h; exact h.elim
end Go.Proofs.YthlflcnpmabmbaaDoor
