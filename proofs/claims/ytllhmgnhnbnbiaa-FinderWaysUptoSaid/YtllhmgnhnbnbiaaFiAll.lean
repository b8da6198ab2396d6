/-
  Walk of all: the list of the matches. Conditions: the finder lies in memory.
-/
import Derived.Test.YtllhmgnhnbnbiaaFiBest
namespace Go.Proofs.Ytllhmgnhnbnbiaa
open Go.RowKit Go.Shelf
attribute [local go_sem] Oper.semAt_some
set_option maxRecDepth 100000

def ents (l : List (Nat × Nat)) : List Value := l.flatMap fun m => [.int .i64 (m.1 : Int), .int .i64 (m.2 : Int)]
theorem ents_append (l r : List (Nat × Nat)) : ents (l ++ r) = ents l ++ ents r := by simp [ents]
theorem ents_length (l : List (Nat × Nat)) : (ents l).length = l.length * 2 := by
  induction l with
  | nil => rfl
  | cons a r ih =>
    have : ents (a :: r) = [.int .i64 (a.1 : Int), .int .i64 (a.2 : Int)] ++ ents r := rfl
    rw [this, List.length_append, ih]
    simp
    omega
theorem mats_le (l : List UInt8) (dict : Int) (p : Nat) (most : Int) : (mats l dict p most).length ≤ 32 := by
  unfold mats
  split
  · simp
  · rw [List.length_map]
    exact (cand_le l dict p).1
theorem infoM : (Try.prog.info? 30).map (fun i => (i.zero, i.size, i.bytes)) = some (some (.agg #[.int .i64 0, .int .i64 0]), 2, 16) := by kernel_rfl
theorem seq_nil (f : Fn) (a b : Array Value) (w : World) : (binOp .eql 41 (.func f a b) .nilFunc).run Try.prog w = .ok (.bool false) w := by kernel_rfl
/-- the list of the matches in new memory -/
def AllPost (ms : List (Nat × Nat)) (w : World) (e : Ending) (w' : World) : Prop :=
  ∃ L lc, e = .returned (.slice L ms.length lc) ∧ w'.ownsRow w.heap.size 30 2 (.slice L ms.length lc) ms.length (ents ms) ∧ Below w.heap.size w w'
set_option maxHeartbeats 4000000 in
theorem all_any (p : FP) (pos : Nat) (most : Int) (w : World) (hF : Fi p pos w) (hpos : pos ≤ p.l.length) (hl : p.l.length ≤ 1073741824) (hd : 1 ≤ p.dict ∧ p.dict ≤ 4294967295) :
    Calls Try.prog 10 #[.pointer (some ⟨p.fb, 0, none⟩), .int .i64 most] w (AllPost (mats p.l p.dict pos most) w) := by
  obtain ⟨i0, hi0, hz0, hz1, hz2⟩ := info_parts infoM
  have HF := Lib.hid hF
  have hm32 := mats_le p.l p.dict pos most
  obtain ⟨ms, hms⟩ : ∃ ms, mats p.l p.dict pos most = ms := ⟨_, rfl⟩
  rw [hms] at hm32 ⊢
  have Hms := Lib.hid hms
  obtain ⟨B, hB⟩ : ∃ B, w.heap.size = B := ⟨_, rfl⟩
  clear hF hms
  refine (callsIn_wide (n := 3)).1 ?_
  refine callsIn_of_wp_marks Try.func10 rfl trivial ?_ rfl
  refine wpIn_wide.2 ?_
  simp only [Try.ntmps10, List.size_toArray, List.length_cons, List.length_nil, Nat.reduceAdd, Nat.reduceSub, Array.replicate_succ, Array.replicate_zero, List.push_toArray, List.append_toArray, List.nil_append, List.cons_append]
  go_wp2_with fail
  obtain ⟨wB, hwB⟩ : ∃ wB, (w.alloc (.cells #[.slice none 0 0] 32)).alloc (.cells #[.slice none 0 0] 32) = wB := ⟨_, rfl⟩
  rw [hwB]
  have hzB : wB.heap.size = B + 2 := by rw [← hwB, World.size_alloc, World.size_alloc, hB]
  have hbB : Below w.heap.size w wB := by rw [← hwB]; exact ((Below.refl _ _).alloc (Nat.le_refl _) _).alloc (by simp) _
  have hB0 : Blk wB B 32 #[.slice none 0 0] := by rw [← hwB]; exact (Blk.new_at hB.symm).alloc _
  have hB1 : Blk wB (B + 1) 32 #[.slice none 0 0] := by rw [← hwB]; exact Blk.new_at (by simp [hB])
  refine (Matches_any p.fb most wB).mono ?_
  rintro e w2 ⟨rfl, rfl⟩
  rw [hzB]
  obtain ⟨wS, hwS⟩ : ∃ wS, (wB.alloc (.cells #[.pointer (some ⟨p.fb, 0, none⟩)] 23)).alloc (.cells #[.int .i64 most] 3) = wS := ⟨_, rfl⟩
  have hsz : wS.heap.size = B + 4 := by rw [← hwS]; simp [hzB]
  have hbS : Below wB.heap.size wB wS := by rw [← hwS]; exact ((Below.refl _ _).alloc (Nat.le_refl _) _).alloc (by simp) _
  have hfx : Blk wS (B + 2) 23 #[.pointer (some ⟨p.fb, 0, none⟩)] := by rw [← hwS]; exact (Blk.new_at hzB.symm).alloc _
  have hmx : Blk wS (B + 2 + 1) 3 #[.int .i64 most] := by rw [← hwS]; exact Blk.new_at (by simp [hzB])
  rw [hwS]
  have HS := Lib.hid (And.intro (And.intro (hB0.below hbS) (hB1.below hbS)) (And.intro hfx (And.intro hmx (And.intro (bup hbB hbS) ((HF.out.below hbB).below hbS)))))
  have hfT : Hid (p.T ≤ B ∧ p.fb < p.T ∧ ∀ g, FinP p g → g < B) := ⟨by rw [← hB]; exact HF.out.ts, HF.out.fs.2, fun g hg => by have h1 := HF.out.ts; have h2 := hg.2.2; omega⟩
  have HBs := Lib.hid hB
  clear hwB hbB hB0 hB1 hwS hbS hfx hmx hzB hB
  have hsn := seq_nil
  go_wp2_with fail
  refine (wpIn_wide (n := 3)).1 ?_
  refine range_la (n := 3) (by omega) (gf := 17) (lb := #[.pointer (some ⟨B + 2, 0, none⟩), .pointer (some ⟨B + 2 + 1, 0, none⟩)]) rfl (enters_of Try.func17 (by kernel_rfl) rfl) rfl .ret
    (fun k W => ∃ L lc, Blk W B 32 #[.slice none 0 0] ∧ Blk W (B + 1) 32 #[.slice L k lc] ∧ W.ownsRow (B + 6) 30 2 (.slice L k lc) k (ents (ms.take k)) ∧ Blk W (B + 2) 23 #[.pointer (some ⟨p.fb, 0, none⟩)] ∧ Fi p pos W ∧ Below w.heap.size w W) (fun _ => False) (fun k v => ∃ m, ms[k]? = some m ∧ v = mV m) ms.length (B + 4) hsz ?i1 ?x1
    ⟨none, 0, HS.out.1.1, HS.out.1.2, World.ownsRow_nil _ _ _ _, HS.out.2.1, HS.out.2.2.2.2, HS.out.2.2.2.1⟩ ?iter
    (fun v W => { tmps := #[.pointer (some ⟨p.fb, 0, none⟩), .int .i64 most, undef, undef, .pointer (some ⟨B, 0, none⟩), .pointer (some ⟨B + 1, 0, none⟩), .func (.func 17) #[] #[.pointer (some ⟨B + 2, 0, none⟩), .pointer (some ⟨B + 2 + 1, 0, none⟩)], .pointer (some ⟨W.heap.size, 0, none⟩), .pointer (some ⟨p.fb, 0, none⟩), .int .i64 most, .func (.func 17) #[] #[.pointer (some ⟨B + 2, 0, none⟩), .pointer (some ⟨B + 2 + 1, 0, none⟩)], .func (.func 17) #[] #[.pointer (some ⟨B + 2, 0, none⟩), .pointer (some ⟨B + 2 + 1, 0, none⟩)], .bool false, .func (.func 17) #[] #[.pointer (some ⟨B + 2, 0, none⟩), .pointer (some ⟨B + 2 + 1, 0, none⟩)], v, undef, undef, undef, undef, undef, undef, undef, undef, undef], defers := [] }) awM awM_below ?assign ?body ?done ?stop
  case i1 =>
    rintro k W W' ⟨L, lc, h0, h1, h5, h2, h3, h4⟩ hF
    have hB := HBs.out
    refine ⟨L, lc, h0.fr hF (by omega), h1.fr hF (by omega), own_fr h5 hF (fun g hg e => by have := (own_lt h5 hg).1; omega), h2.fr hF (by omega), h3.fr hF (fun g h1 h2 => by have := hfT.out.1; omega), h4.trans (hF.below h4.size (fun k e => by omega))⟩
  case x1 => intro W W' h; exact h.elim
  case iter =>
    intro J Jx r hJ0 hJf hJI hY
    have hbl : Below wS.heap.size wS ((wS.alloc (.deferred (some []))).alloc (.loop r)) := ((Below.refl _ _).alloc (Nat.le_refl _) _).alloc (by simp) _
    have := matches1_lv 2 (B + 4 + 1) (B + 2) (B + 2 + 1) most p pos J Jx _ (HS.out.2.2.2.2.below hbl) (HS.out.2.1.below hbl) (HS.out.2.2.1.below hbl) hpos hl hd hJ0 hJf (fun k W hJ => by
      obtain ⟨⟨L, lc, _, _, _, h2, h3, _⟩, _⟩ := hJI k W hJ
      exact ⟨⟨pos, h3⟩, h2⟩) (fun k m W hJ hm => by
      rw [Hms.out] at hm
      exact hY k (mV m) W hJ ⟨m, hm, rfl⟩ (List.getElem?_eq_some_iff.1 hm).1)
    rw [Hms.out] at this
    exact this
  case assign =>
    rintro k v W R ⟨m, hm, rfl⟩ hR
    unfold mV at hR ⊢
    gi_wp2
    exact hR
  case body =>
    rintro k v W Wb ⟨L, lc, h0, h1, h5, h2, h3, h4⟩ ⟨m, hm, rfl⟩ hk hD hFb
    have hB := HBs.out
    have hF : Fr (fun g => g = B + 4 ∨ g = B + 4 + 1) W Wb := ((Fr.refl _ W).of_below' (awM_below (mV m) W)).trans' hFb (fun i _ e => .inr e)
    have hbx : Blk Wb W.heap.size 30 (mC m) := (awM_box m W).fr hFb (by omega)
    have h0 := h0.fr hF (by omega)
    have h1 := h1.fr hF (by omega)
    have h2 := h2.fr hF (by omega)
    have h3 := h3.fr hF (fun g h1 h2 => by have := hfT.out.1; omega)
    have h5 := own_fr h5 hF (fun g hg e => by have := (own_lt h5 hg).1; omega)
    have h4 : Below w.heap.size w Wb := h4.trans (hF.below h4.size (fun k e => by omega))
    have hsB : B + 6 ≤ Wb.heap.size := by have := hF.size; omega
    obtain ⟨X, hX⟩ : ∃ X, W.heap.size = X := ⟨_, rfl⟩
    rw [hX] at hbx ⊢
    have htk : ents (ms.take (k + 1)) = ents (ms.take k) ++ [.int .i64 (m.1 : Int), .int .i64 (m.2 : Int)] := by rw [take_snoc hm, ents_append]; rfl
    obtain ⟨m1, m2⟩ := m
    obtain ⟨c0, c1⟩ := hbx.two
    have d0 : Wb.cell? ⟨B + 1, 0, none⟩ = some (.slice L k lc) := h1.one
    have f0 := h1.frozen 0
    have hBl := h1.lt
    have H0 := Lib.hid h0
    have H1 := Lib.hid h1
    have H2 := Lib.hid h2
    have H3 := Lib.hid h3
    have H4 := Lib.hid h4
    have H5 := Lib.hid h5
    have Htk := Lib.hid htk
    have hXD : B + 4 + 1 < X := by omega
    have hXl : X < Wb.heap.size := hbx.lt
    obtain ⟨xs, hxs⟩ : ∃ xs, ents (ms.take k) = xs := ⟨_, rfl⟩
    rw [hxs] at H5 Htk
    have hk32 : k ≤ 31 := by omega
    clear h0 h1 h2 h3 h4 h5 hbx htk hF hFb hm hB hX hD hxs hk
    gi_wp2_with (gi_at_builtin; refine wpListIn_append_own_at (w := Wb.alloc (.cells #[.int .i64 (m1 : Int), .int .i64 (m2 : Int)] 30)) rfl (.tmp 15) (.tmp 17) 32 rfl (B + 6) 30 i0 _ 2 16 Try.underlying32 hi0 hz0 hz1 hz2 rfl (by decide) (.slice L k lc) k xs rfl (H5.out.alloc _) ⟨Wb.heap.size, 0, none⟩ 1 1 [.int .i64 (m1 : Int), .int .i64 (m2 : Int)] rfl rfl (World.news_of_block (heap_alloc_new Wb _)) (by simp [Value.oneCell']) (by simp only [maxLen]; omega) (by omega) (by simp; omega) ?_; intro v' w2 hown2 hg2 hnil2 hat2; obtain ⟨g', cap', rfl⟩ := ownsRow_succ hown2; have hb2 := (H1.out.alloc (.cells #[.int .i64 (m1 : Int), .int .i64 (m2 : Int)] 30)).same (hg2.block (B + 1) (by simp; omega) (fun e => own_ne H5.out H1.out (by decide) e)); have hc1 := hb2.cell 0; have hf1 := hb2.frozen 0; have hlt1 := hb2.lt)
    have hB := HBs.out
    have hF : Fr (fun q => q = B + 1 ∨ some q = (Value.slice L k lc).ownBlock) Wb (w2.setCell ⟨B + 1, 0, none⟩ (.slice (some ⟨g', 0, none⟩) (k + 1) cap')) := (((Fr.refl _ Wb).alloc _).grown hg2 (fun q hq => .inl (.inr hq.symm))).setCell (p := ⟨B + 1, 0, none⟩) (.inl (.inl rfl)) _
    have hout : ∀ q, q < B + 6 → q ≠ B + 1 → ¬ (q = B + 1 ∨ some q = (Value.slice L k lc).ownBlock) := fun q hq hne e => by
      rcases e with e | e
      · exact hne e
      · have := (own_lt H5.out e.symm).1; omega
    refine ⟨hF.block (B + 4) (by omega) (hout _ (by omega) (by omega)), hF.block (B + 4 + 1) (by omega) (hout _ (by omega) (by omega)), H0.out.fr hF (hout _ (by omega) (by omega)), some ⟨g', 0, none⟩, cap', ?_, ?_, H2.out.fr hF (hout _ (by omega) (by omega)), H3.out.fr hF (fun g h1 h2 => hout g (by have := hfT.out.1; omega) (by have := hfT.out.1; omega)), ?_⟩
    · exact hb2.set_ 0 _
    · rw [Htk.out]; exact own_far hown2 (p := ⟨B + 1, 0, none⟩) (own_ne hown2 hb2 (by decide)) _
    · refine H4.out.trans (hF.below H4.out.size (fun q e => ?_))
      rcases e with e | e
      · omega
      · have := (own_lt H5.out e.symm).1; omega
  case done =>
    rintro W ⟨L, lc, h0, h1, h5, h2, h3, h4⟩ hM
    rw [List.take_length] at h5
    have hB := HBs.out
    have d0 : W.cell? ⟨B + 1, 0, none⟩ = some (.slice L ms.length lc) := h1.one
    have e0 : W.cell? ⟨B, 0, none⟩ = some (.slice none 0 0) := h0.one
    have f0 := h0.frozen 0
    have hBl := h0.lt
    have hMl : B + 4 < W.heap.size := (Array.getElem?_eq_some_iff.1 hM).1
    have HM' := Lib.hid ((Below.heap_setCell W ⟨B, 0, none⟩ (.slice L ms.length lc) (B + 4) (by show B + 4 ≠ B; omega)).trans hM)
    have hFs : Fr (fun g => g = B ∨ g = B + 4) W ((W.setCell ⟨B, 0, none⟩ (.slice L ms.length lc)).putObj (B + 4) (.deferred none)) := ((Fr.refl (fun g => g = B ∨ g = B + 4) W).setCell (p := ⟨B, 0, none⟩) (.inl (.inl rfl)) _).put_ (.inr rfl) _
    have HB2 := Lib.hid (h4.trans (hFs.below h4.size (fun k e => by omega)))
    have HC2 := Lib.hid ((h0.set_ 0 (.slice L ms.length lc)).fr ((Fr.refl (fun g => g = B + 4) _).put_ rfl (.deferred none)) (by omega))
    have HO := Lib.hid (own_mono (own_fr h5 hFs (fun g hg e => by have := (own_lt h5 hg).1; rcases e with e | e <;> omega)) (show w.heap.size ≤ B + 6 by omega))
    clear h0 h1 h2 h3 h4 h5 hM hFs hB
    go_wp2_with fail
    refine ⟨by simp, .inl ⟨_, _, rfl, run_takeDeferred HM'.out, ?_⟩⟩
    have t0 := HC2.out.cell 0
    simp only [Array.setIfInBounds] at t0
    exact ⟨.slice L ms.length lc, by simp [results, Try.results10, go_sem, t0], L, lc, rfl, HO.out, HB2.out⟩
  case stop => intro W h; exact h.elim
end Go.Proofs.Ytllhmgnhnbnbiaa
