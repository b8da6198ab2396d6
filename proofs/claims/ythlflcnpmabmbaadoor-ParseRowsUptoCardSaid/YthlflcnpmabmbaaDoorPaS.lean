/-
  Walk of steps: the matches that are longer than all nearer ones. Conditions: the piece lies in memory, its finder at the place.
-/
import Derived.Test.YthlflcnpmabmbaaDoorPaG
import Derived.Maps.OwnIn
namespace Go.Proofs.YthlflcnpmabmbaaDoor
open Go.RowKit Go.Shelf
attribute [local go_sem] Oper.semAt_some
set_option maxRecDepth 100000

/-- those longer than all ahead of them, and how long the longest is -/
def recGo (l : List (Nat × Nat)) : List (Nat × Nat) × Nat := l.foldl (fun b m => if b.2 < m.1 then (b.1 ++ [m], m.1) else b) ([], 0)
def recL (l : List (Nat × Nat)) : List (Nat × Nat) := (recGo l).1
theorem recGo_snoc (l : List (Nat × Nat)) (m : Nat × Nat) : recGo (l ++ [m]) = if (recGo l).2 < m.1 then ((recGo l).1 ++ [m], m.1) else recGo l := by
  unfold recGo
  rw [List.foldl_append]
  rfl
theorem recGo_len (l : List (Nat × Nat)) : (recGo l).1.length ≤ l.length := by
  have : ∀ (l : List (Nat × Nat)) (b : List (Nat × Nat) × Nat), (l.foldl (fun b m => if b.2 < m.1 then (b.1 ++ [m], m.1) else b) b).1.length ≤ b.1.length + l.length := by
    intro l
    induction l with
    | nil => intro b; simp
    | cons m l ih =>
      intro b
      simp only [List.foldl_cons, List.length_cons]
      refine Nat.le_trans (ih _) ?_
      split
      · simp; omega
      · omega
  have := this l ([], 0)
  simpa [recGo] using this
def StepsPost (ms : List (Nat × Nat)) (w : World) (e : Ending) (w' : World) : Prop :=
  ∃ L lc, e = .returned (.slice L ms.length lc) ∧ w'.ownsRow w.heap.size 98 2 (.slice L ms.length lc) ms.length (ents ms) ∧ Below w.heap.size w w'
set_option maxHeartbeats 4000000 in
theorem steps_any (x : Pc) (p : Nat) (w : World) (h : PIn x p w) (hp : p < x.hi) :
    Calls Tryd.prog 44 #[.pointer (some ⟨x.cb, 0, none⟩), .int .i64 p] w (StepsPost (recL (mats x.l x.dict p (pmost x.hi p : Int))) w) := by
  obtain ⟨i0, hi0, hz0, hz1, hz2⟩ := info_parts infoM
  have hm32 := mats_le x.l x.dict p (pmost x.hi p : Int)
  obtain ⟨ms, hms⟩ : ∃ ms, mats x.l x.dict p (pmost x.hi p : Int) = ms := ⟨_, rfl⟩
  rw [hms] at hm32 ⊢
  have Hms := Lib.hid hms
  obtain ⟨B, hB⟩ : ∃ B, w.heap.size = B := ⟨_, rfl⟩
  have hcb : x.cb < B := by rw [← hB]; exact h.b.lt
  have HP := Lib.hid h
  obtain ⟨pm, hpm⟩ : ∃ pm, pmost x.hi p = pm := ⟨_, rfl⟩
  have HMo : Hid (∀ W, Below w.heap.size w W → Calls Tryd.prog 66 #[.pointer (some ⟨x.cb, 0, none⟩), .int .i64 p] W fun e w' => e = .returned (.int .i64 (pm : Int)) ∧ W = w') := fun W hW => by
    have := most_any x p p W (h.below hW) (by omega)
    rw [hpm] at this
    exact this
  rw [hpm] at Hms
  clear h hms hpm
  refine (callsIn_wide (n := 3)).1 ?_
  refine callsIn_of_wp_marks Tryd.func44 rfl trivial ?_ rfl
  refine wpIn_wide.2 ?_
  simp only [Tryd.ntmps44, List.size_toArray, List.length_cons, List.length_nil, Nat.reduceAdd, Nat.reduceSub, Array.replicate_succ, Array.replicate_zero, List.push_toArray, List.append_toArray, List.nil_append, List.cons_append]
  go_wp2_with fail
  obtain ⟨wB, hwB⟩ : ∃ wB, (w.alloc (.cells #[.slice none 0 0] 86)).alloc (.cells #[.int .i64 0] 3) = wB := ⟨_, rfl⟩
  have hzB : wB.heap.size = B + 2 := by rw [← hwB, World.size_alloc, World.size_alloc, hB]
  have hbB : Below w.heap.size w wB := by rw [← hwB]; exact ((Below.refl _ _).alloc (Nat.le_refl _) _).alloc (by simp) _
  have hB0 : Blk wB B 86 #[.slice none 0 0] := by rw [← hwB]; exact (Blk.new_at hB.symm).alloc _
  have hB1 : Blk wB (B + 1) 3 #[.int .i64 0] := by rw [← hwB]; exact Blk.new_at (by simp [hB])
  have x3 : wB.cell? ⟨x.cb, 3, none⟩ = some (.pointer (some ⟨x.q.fb, 0, none⟩)) := (HP.out.below hbB).b.cell 3
  have HbB := Lib.hid hbB
  have HB01 := Lib.hid (And.intro hB0 (And.intro hB1 (And.intro hzB hB)))
  clear hB0 hB1 hbB
  simp only [hwB]
  clear hwB hB
  go_region_held3 (fun w' => w'.cell? ⟨x.cb, 3, none⟩ = some (.pointer (some ⟨x.q.fb, 0, none⟩)))
    (first | (with_reducible exact x3) | go_keep)
    (first | (go_at_call 66; refine (HMo.out _ HbB.out.drew).mono ?_; rintro en wp ⟨rfl, rfl⟩) | (go_at_call 56; refine (Matches_any x.q.fb pm _).mono ?_; rintro e w2 ⟨rfl, rfl⟩))
  rename_i hHeld
  clear hHeld x3
  obtain ⟨wS, hwS⟩ : ∃ wS, ((wB.alloc (.cells #[.pointer (some ⟨x.q.fb, 0, none⟩)] 64)).alloc (.cells #[.int .i64 (pm : Int)] 3)).drew = wS := ⟨_, rfl⟩
  have hsz : wS.heap.size = B + 4 := by rw [← hwS]; show (World.alloc (World.alloc _ _) _).heap.size = _; rw [World.size_alloc, World.size_alloc, hzB]
  have hbS : Below wB.heap.size wB wS := by rw [← hwS]; exact (((Below.refl _ _).alloc (Nat.le_refl _) _).alloc (by simp) _).drew
  have hfx : Blk wS (B + 2) 64 #[.pointer (some ⟨x.q.fb, 0, none⟩)] := by rw [← hwS]; exact ((Blk.new_at hzB.symm).alloc _).drewN 1
  have hmx : Blk wS (B + 2 + 1) 3 #[.int .i64 (pm : Int)] := by rw [← hwS]; exact (Blk.new_at (by simp [hzB])).drewN 1
  rw [hwS]
  have HS := Lib.hid (And.intro (And.intro (HB01.out.1.below hbS) (HB01.out.2.1.below hbS)) (And.intro hfx (And.intro hmx (And.intro (bup HbB.out hbS) (HP.out.below (bup HbB.out hbS))))))
  have hfT : Hid (x.cb < B) := hcb
  have HBs : Hid (w.heap.size = B) := HB01.out.2.2.2
  clear hwS hbS hfx hmx hzB HB01 HbB HMo HP hcb
  go_wp2_with fail
  refine (wpIn_wide (n := 3)).1 ?_
  refine range_la (n := 3) (by omega) (gf := 73) (lb := #[.pointer (some ⟨B + 2, 0, none⟩), .pointer (some ⟨B + 2 + 1, 0, none⟩)]) rfl (enters_of Tryd.func73 (by kernel_rfl) rfl) rfl .ret
    (fun k W => ∃ L lc, Blk W B 86 #[.slice L (recGo (ms.take k)).1.length lc] ∧ Blk W (B + 1) 3 #[.int .i64 ((recGo (ms.take k)).2 : Int)] ∧ W.ownsRow (B + 6) 98 2 (.slice L (recGo (ms.take k)).1.length lc) (recGo (ms.take k)).1.length (ents (recGo (ms.take k)).1) ∧ Blk W (B + 2) 64 #[.pointer (some ⟨x.q.fb, 0, none⟩)] ∧ PIn x p W ∧ Below w.heap.size w W) (fun _ => False) (fun k v => ∃ m, ms[k]? = some m ∧ v = mV m) ms.length (B + 4) hsz ?i1 ?x1
    ⟨none, 0, HS.out.1.1, HS.out.1.2, World.ownsRow_nil _ _ _ _, HS.out.2.1, HS.out.2.2.2.2, HS.out.2.2.2.1⟩ ?iter
    (fun v W => { tmps := #[.pointer (some ⟨x.cb, 0, none⟩), .int .i64 p, undef, undef, .slice none 0 0, .pointer (some ⟨B, 0, none⟩), .pointer (some ⟨B + 1, 0, none⟩), .pointer (some ⟨W.heap.size, 0, none⟩), .pointer (some ⟨x.cb, 0, none⟩), .pointer (some ⟨x.cb, 0, none⟩), .pointer (some ⟨x.cb, 3, none⟩), .pointer (some ⟨x.q.fb, 0, none⟩), .pointer (some ⟨x.cb, 0, none⟩), .int .i64 p, .int .i64 pm, .func (.func 73) #[] #[.pointer (some ⟨B + 2, 0, none⟩), .pointer (some ⟨B + 2 + 1, 0, none⟩)], v, undef, undef, undef, undef, undef, undef, undef, undef, undef, undef, undef], defers := [] }) awM awM_below ?assign ?body ?done ?stop
  case i1 =>
    rintro k W W' ⟨L, lc, h0, h1, h5, h2, h3, h4⟩ hF
    have hB := HBs.out
    have hc := hfT.out
    refine ⟨L, lc, h0.fr hF (by omega), h1.fr hF (by omega), own_fr h5 hF (fun g hg e => by have := (own_lt h5 hg).1; omega), h2.fr hF (by omega), h3.fr hF (fun g h1 => by omega), h4.trans (hF.below h4.size (fun k e => by omega))⟩
  case x1 => intro W W' h; exact h.elim
  case iter =>
    intro J Jx r hJ0 hJf hJI hY
    have hbl : Below wS.heap.size wS ((wS.alloc (.deferred (some []))).alloc (.loop r)) := ((Below.refl _ _).alloc (Nat.le_refl _) _).alloc (by simp) _
    have hPS := HS.out.2.2.2.2
    have hlen := hPS.len
    have hle := hPS.le
    have hql := hPS.ql
    have hqd := hPS.qd
    have := matches1_lv 2 (B + 4 + 1) (B + 2) (B + 2 + 1) pm x.q p J Jx _ (hPS.f.below hbl) (HS.out.2.1.below hbl) (HS.out.2.2.1.below hbl) (by rw [hql, hlen]; omega) (by rw [hql, hlen]; omega) (by rw [hqd]; exact hPS.di) hJ0 hJf (fun k W hJ => by
      obtain ⟨⟨L, lc, _, _, _, h2, h3, _⟩, _⟩ := hJI k W hJ
      exact ⟨⟨p, h3.f⟩, h2⟩) (fun k m W hJ hm => by
      rw [hql, hqd, Hms.out] at hm
      exact hY k (mV m) W hJ ⟨m, hm, rfl⟩ (List.getElem?_eq_some_iff.1 hm).1)
    rw [hql, hqd, Hms.out] at this
    exact this
  case assign =>
    rintro k v W R ⟨m, hm, rfl⟩ hR
    unfold mV at hR ⊢
    gi_wp2
    exact hR
  case body =>
    rintro k v W Wb ⟨L, lc, h0, h1, h5, h2, h3, h4⟩ ⟨m, hm, rfl⟩ hk hD hFb
    have hB := HBs.out
    have hc := hfT.out
    have hF : Fr (fun g => g = B + 4 ∨ g = B + 4 + 1) W Wb := ((Fr.refl _ W).of_below' (awM_below (mV m) W)).trans' hFb (fun i _ e => .inr e)
    have hbx : Blk Wb W.heap.size 98 (mC m) := (awM_box m W).fr hFb (by omega)
    have h0 := h0.fr hF (by omega)
    have h1 := h1.fr hF (by omega)
    have h2 := h2.fr hF (by omega)
    have h3 := h3.fr hF (fun g h1 => by omega)
    have hoX : ∀ g, (Value.slice L (recGo (ms.take k)).1.length lc).ownBlock = some g → g < W.heap.size := fun g hg => (own_lt h5 hg).2
    have h5 := own_fr h5 hF (fun g hg e => by have := (own_lt h5 hg).1; omega)
    have h4 : Below w.heap.size w Wb := h4.trans (hF.below h4.size (fun k e => by omega))
    have hsB : B + 6 ≤ Wb.heap.size := by have := hF.size; omega
    obtain ⟨X, hX⟩ : ∃ X, W.heap.size = X := ⟨_, rfl⟩
    rw [hX] at hbx hoX ⊢
    have hnext : recGo (ms.take (k + 1)) = if (recGo (ms.take k)).2 < m.1 then ((recGo (ms.take k)).1 ++ [m], m.1) else recGo (ms.take k) := by rw [take_snoc hm, recGo_snoc]
    have hlen := recGo_len (ms.take k)
    rw [List.length_take] at hlen
    obtain ⟨G, hG⟩ : ∃ G, recGo (ms.take k) = G := ⟨_, rfl⟩
    rw [hG] at hnext h0 h1 h5 hlen hoX
    obtain ⟨g1, g2⟩ := G
    obtain ⟨m1, m2⟩ := m
    simp only [] at hnext h0 h1 h5 hlen hoX
    have HoX := Lib.hid hoX
    obtain ⟨c0, c1⟩ := hbx.two
    have d0 : Wb.cell? ⟨B, 0, none⟩ = some (.slice L g1.length lc) := h0.one
    have d1 : Wb.cell? ⟨B + 1, 0, none⟩ = some (.int .i64 (g2 : Int)) := h1.one
    have H0 := Lib.hid h0
    have H1 := Lib.hid h1
    have H2 := Lib.hid h2
    have H3 := Lib.hid h3
    have H4 := Lib.hid h4
    have H5 := Lib.hid h5
    have HX := Lib.hid hbx
    have Hn := Lib.hid hnext
    have hXD : B + 4 + 1 < X := by omega
    have hk32 : g1.length ≤ 32 := by omega
    clear h0 h1 h2 h3 h4 h5 hbx hnext hF hFb hm hB hX hD hG hlen hk hc hoX
    by_cases hlt : g2 < m1
    · have hlt' : (g2 : Int) < (m1 : Int) := by omega
      have he2 : ents (g1 ++ [(m1, m2)]) = ents g1 ++ [.int .i64 (m1 : Int), .int .i64 (m2 : Int)] := by rw [ents_append]; rfl
      have He2 := Lib.hid he2
      clear he2
      gi_wp2_with (gi_at_builtin; refine wpListIn_append_own_at (w := Wb.alloc (.cells #[.int .i64 (m1 : Int), .int .i64 (m2 : Int)] 98)) rfl (.tmp 21) (.tmp 23) 86 rfl (B + 6) 98 i0 _ 2 16 Tryd.underlying86 hi0 hz0 hz1 hz2 rfl (by decide) (.slice L g1.length lc) g1.length (ents g1) rfl (H5.out.alloc _) ⟨Wb.heap.size, 0, none⟩ 1 1 [.int .i64 (m1 : Int), .int .i64 (m2 : Int)] rfl rfl (World.news_of_block (heap_alloc_new Wb _)) (by simp [Value.oneCell']) (by simp only [maxLen]; omega) (by omega) (by simp; omega) ?_; (intro v' w2 hown2 hg2 hnil2 hat2; obtain ⟨g', cap', rfl⟩ := ownsRow_succ hown2; have hF2 : Fr (fun q => some q = (Value.slice L g1.length lc).ownBlock) Wb w2 := ((Fr.refl _ Wb).alloc _).grown hg2 (fun q hq => .inl hq.symm); have hol : ∀ q, some q = (Value.slice L g1.length lc).ownBlock → B + 6 ≤ q := fun q e => (own_lt H5.out e.symm).1; have hb2 := H0.out.fr hF2 (fun e => by have := hol _ e; omega); have hb1 := H1.out.fr hF2 (fun e => by have := hol _ e; omega); have hbX := (HX.out.alloc (.cells #[.int .i64 (m1 : Int), .int .i64 (m2 : Int)] 98)).same (hg2.block X (by have := HX.out.lt; simp; omega) (fun e => by have := HoX.out X e.symm; omega)); have hc0 := hb2.cell 0; have hf0 := hb2.frozen 0; have hl0 := hb2.lt; have hc1 := hb1.cell 0; have hf1 := hb1.frozen 0; have hl1 := hb1.lt; have hx0 : w2.cell? ⟨X, 0, none⟩ = some (.int .i64 (m1 : Int)) := hbX.two.1; have hne : ¬ X = B := (by omega); have hne' : ¬ B = X := (by omega)))
      have hB := HBs.out
      have hc := hfT.out
      have hF : Fr (fun q => (q = B ∨ q = B + 1) ∨ some q = (Value.slice L g1.length lc).ownBlock) Wb ((w2.setCell ⟨B, 0, none⟩ (.slice (some ⟨g', 0, none⟩) (g1.length + 1) cap')).setCell ⟨B + 1, 0, none⟩ (.int .i64 (m1 : Int))) := ((hF2.mono (fun q _ e => .inr e)).setCell (p := ⟨B, 0, none⟩) (.inl (.inl (.inl rfl))) _).setCell (p := ⟨B + 1, 0, none⟩) (.inl (.inl (.inr rfl))) _
      have hout : ∀ q, q < B + 6 → q ≠ B → q ≠ B + 1 → ¬ ((q = B ∨ q = B + 1) ∨ some q = (Value.slice L g1.length lc).ownBlock) := fun q hq n1 n2 e => by
        rcases e with (e | e) | e
        · exact n1 e
        · exact n2 e
        · have := hol _ e; omega
      rw [Hn.out, if_pos hlt]
      refine ⟨hF.block (B + 4) (by omega) (hout _ (by omega) (by omega) (by omega)), hF.block (B + 4 + 1) (by omega) (hout _ (by omega) (by omega) (by omega)), some ⟨g', 0, none⟩, cap', ?_, ?_, ?_, H2.out.fr hF (hout _ (by omega) (by omega) (by omega)), H3.out.fr hF (fun g h1 => hout g (by omega) (by omega) (by omega)), ?_⟩
      · rw [List.length_append]
        exact (hb2.set_ 0 _).far (p := ⟨B + 1, 0, none⟩) (by show B ≠ B + 1; omega) _
      · exact (hb1.far (p := ⟨B, 0, none⟩) (by show B + 1 ≠ B; omega) _).set_ 0 _
      · rw [List.length_append, He2.out]
        exact own_far (own_far hown2 (p := ⟨B, 0, none⟩) (own_ne hown2 hb2 (by decide)) _) (p := ⟨B + 1, 0, none⟩) (fun e => by have := (own_lt hown2 e.symm).1; simp only [] at this; omega) _
      · refine H4.out.trans (hF.below H4.out.size (fun q e => ?_))
        rcases e with (e | e) | e
        · omega
        · omega
        · have := hol _ e; omega
    · have hlt' : ¬ (g2 : Int) < (m1 : Int) := by omega
      gi_wp2
      rw [Hn.out, if_neg hlt]
      exact ⟨rfl, rfl, L, lc, H0.out, H1.out, H5.out, H2.out, H3.out, H4.out⟩
  case done =>
    rintro W ⟨L, lc, h0, h1, h5, h2, h3, h4⟩ hM
    rw [List.take_length] at h5 h0
    have hB := HBs.out
    have d0 := h0.one
    have hMl : B + 4 < W.heap.size := (Array.getElem?_eq_some_iff.1 hM).1
    have hFs : Fr (fun g => g = B + 4) W (W.putObj (B + 4) (.deferred none)) := (Fr.refl (fun g => g = B + 4) W).put_ rfl _
    have HM := Lib.hid hM
    have HB2 := Lib.hid (h4.trans (hFs.below h4.size (fun k e => by omega)))
    have HO := Lib.hid (own_mono (own_fr h5 hFs (fun g hg e => by have := (own_lt h5 hg).1; omega)) (show w.heap.size ≤ B + 6 by omega))
    clear h0 h1 h2 h3 h4 h5 hM hFs hB
    go_wp2_with fail
    refine ⟨by simp, .inl ⟨_, _, rfl, run_takeDeferred HM.out, ?_⟩⟩
    exact ⟨.slice L (recGo ms).1.length lc, by simp [results, Tryd.results44, go_sem], L, lc, rfl, HO.out, HB2.out⟩
  case stop => intro W h; exact h.elim
end Go.Proofs.YthlflcnpmabmbaaDoor
