/-
  The reference's plan finds the program's own steps; walks of its Plan and Cheap. Conditions: the data lie in memory; a right piece, dictionary and state, or what it refuses.
-/
import Derived.Test.YthlflcnpmabmbaaDoorPaO
import Derived.Test.YthlflcnpmabmbaaDoorRfC
import Derived.Test.YthlflcnpmabmbaaDoorRgD
namespace Go.Proofs.YthlflcnpmabmbaaDoor
open Go.RowKit Go.Shelf
attribute [local go_sem] Oper.semAt_some
set_option maxRecDepth 100000

/-- a step of the reference: taken where it is cheaper, or as cheap and longer -/
def stepQ (R : Nat → Int) (p d n : Nat) (b : Sy × Int) : Sy × Int := if mPr n d + R (p + n) < b.2 ∨ (mPr n d + R (p + n) = b.2 ∧ ysz b.1 < n) then (⟨2, 0, (n : Int), (d : Int)⟩, mPr n d + R (p + n)) else b
/-- a match in each of its lengths from n on -/
def refIn (R : Nat → Int) (p d : Nat) : Nat → Nat → Sy × Int → Sy × Int
  | 0, _, b => b
  | f + 1, n, b => refIn R p d f (n + 1) (stepQ R p d n b)
def refM (R : Nat → Int) (p : Nat) (b : Sy × Int) (m : Nat × Nat) : Sy × Int := refIn R p m.2 (m.1 + 1 - 3) 3 b
def refL (R : Nat → Int) (p : Nat) (c : UInt8) (ms : List (Nat × Nat)) : Sy × Int := ms.foldl (refM R p) (⟨1, c, 0, 0⟩, 9 + R (p + 1))
theorem refL_snoc (R : Nat → Int) (p : Nat) (c : UInt8) (ms : List (Nat × Nat)) (m : Nat × Nat) : refL R p c (ms ++ [m]) = refM R p (refL R p c ms) m := by
  unfold refL
  rw [List.foldl_append]
  rfl
theorem refIn_step (R : Nat → Int) (p d t n : Nat) (b : Sy × Int) (h : n ≤ t) : refIn R p d (t + 1 - n) n b = refIn R p d (t + 1 - (n + 1)) (n + 1) (stepQ R p d n b) := by
  obtain ⟨f, hf⟩ : ∃ f, t + 1 - n = f + 1 := ⟨t - n, by omega⟩
  rw [hf, show t + 1 - (n + 1) = f by omega]
  rfl
theorem ysz_two (n d : Nat) (h : 3 ≤ n) : ysz ⟨2, 0, (n : Int), (d : Int)⟩ = n := by unfold ysz; simp only []; omega
/-- shorter lengths than n0 have been met by matches as near as e -/
def Cov (R : Nat → Int) (p n0 e : Nat) (b : Sy × Int) : Prop := ∀ n, 3 ≤ n → n < n0 → ∃ d, 1 ≤ d ∧ d ≤ e ∧ (b.2 < mPr n d + R (p + n) ∨ (b.2 = mPr n d + R (p + n) ∧ n ≤ ysz b.1))
theorem refIn_skip {R : Nat → Int} {p n0 d e : Nat} {b : Sy × Int} (hc : Cov R p n0 e b) (hed : e ≤ d) (hd : d ≤ 4294967295) (t : Nat) (ht : t ≤ 273) : ∀ f n, n + f = t + 1 → 3 ≤ n → n ≤ n0 → refIn R p d f n b = refIn R p d (t + 1 - max n0 n) (max n0 n) b ∨ t + 1 ≤ n0 ∧ refIn R p d f n b = b := by
  intro f
  induction f with
  | zero =>
    intro n h1 h2 h3
    exact .inr ⟨by omega, rfl⟩
  | succ f ih =>
    intro n h1 h2 h3
    rcases Nat.eq_or_lt_of_le h3 with h4 | h4
    · left
      rw [show max n0 n = n by omega, show t + 1 - n = f + 1 by omega]
    · have hs : stepQ R p d n b = b := by
        unfold stepQ
        obtain ⟨d', g1, g2, g3⟩ := hc n h2 h4
        have hm := mPr_mono (n := n) (d := d') (e := d) h2 (by omega) g1 (by omega) hd
        rw [if_neg]
        rintro (g | ⟨g, g'⟩)
        · omega
        · omega
      show refIn R p d f (n + 1) (stepQ R p d n b) = _ ∨ _ ∧ refIn R p d f (n + 1) (stepQ R p d n b) = b
      rw [hs]
      rcases ih (n + 1) (by omega) (by omega) (by omega) with h5 | h5
      · left
        rw [h5, show max n0 (n + 1) = max n0 n by omega]
      · exact .inr h5
theorem stepQ_C {R : Nat → Int} {p d n : Nat} {b : Sy × Int} (h : ysz b.1 < n) : stepQ R p d n b = stepC R p d n b := by
  unfold stepQ stepC
  by_cases h1 : mPr n d + R (p + n) ≤ b.2
  · rw [if_pos h1, if_pos (by omega)]
  · rw [if_neg h1, if_neg (by omega)]
theorem stepC_sz {R : Nat → Int} {p d n : Nat} {b : Sy × Int} (h : ysz b.1 < n) (h3 : 3 ≤ n) : ysz (stepC R p d n b).1 < n + 1 := by
  unfold stepC
  split
  · rw [ysz_two n d h3]; omega
  · omega
theorem refIn_cheap {R : Nat → Int} {p d : Nat} : ∀ f n b, 3 ≤ n → ysz b.1 < n → refIn R p d f n b = cheapIn R p d f n b ∧ ysz (cheapIn R p d f n b).1 < n + f + 1 := by
  intro f
  induction f with
  | zero => intro n b h3 h; exact ⟨rfl, by show ysz b.1 < _; omega⟩
  | succ f ih =>
    intro n b h3 h
    have h1 := stepQ_C (R := R) (p := p) (d := d) h
    have h2 := stepC_sz (R := R) (p := p) (d := d) h h3
    have h4 := ih (n + 1) (stepC R p d n b) (by omega) h2
    exact ⟨by show refIn R p d f (n + 1) (stepQ R p d n b) = cheapIn R p d f (n + 1) (stepC R p d n b); rw [h1]; exact h4.1, by show ysz (cheapIn R p d f (n + 1) (stepC R p d n b)).1 < _; have := h4.2; omega⟩
theorem cov_step {R : Nat → Int} {p n0 d : Nat} {b : Sy × Int} (hc : Cov R p n0 d b) (h1 : 1 ≤ d) (h3 : 3 ≤ n0) (hs : ysz b.1 < n0) : Cov R p (n0 + 1) d (stepC R p d n0 b) := by
  intro n g3 gn
  unfold stepC
  by_cases hp : mPr n0 d + R (p + n0) ≤ b.2
  · rw [if_pos hp]
    simp only []
    rw [ysz_two n0 d h3]
    rcases (by omega : n < n0 ∨ n = n0) with h4 | h4
    · obtain ⟨d', e1, e2, e3⟩ := hc n g3 h4
      refine ⟨d', e1, e2, ?_⟩
      omega
    · subst h4
      exact ⟨d, h1, Nat.le_refl _, .inr ⟨rfl, Nat.le_refl _⟩⟩
  · rw [if_neg hp]
    rcases (by omega : n < n0 ∨ n = n0) with h4 | h4
    · exact hc n g3 h4
    · subst h4
      exact ⟨d, h1, Nat.le_refl _, .inl (by omega)⟩
theorem cov_in {R : Nat → Int} {p d : Nat} (h1 : 1 ≤ d) : ∀ f n0 b, 3 ≤ n0 → ysz b.1 < n0 → Cov R p n0 d b → Cov R p (n0 + f) d (cheapIn R p d f n0 b) := by
  intro f
  induction f with
  | zero => intro n0 b _ _ hc; exact hc
  | succ f ih =>
    intro n0 b h3 hs hc
    have := ih (n0 + 1) (stepC R p d n0 b) (by omega) (stepC_sz hs h3) (cov_step hc h1 h3 hs)
    rw [show n0 + (f + 1) = n0 + 1 + f by omega]
    exact this
theorem cov_mono {R : Nat → Int} {p n0 e e' : Nat} {b : Sy × Int} (hc : Cov R p n0 e b) (h : e ≤ e') : Cov R p n0 e' b := fun n h1 h2 => by
  obtain ⟨d, a1, a2, a3⟩ := hc n h1 h2
  exact ⟨d, a1, by omega, a3⟩
/-- over matches from near to far the reference's way finds what cheapest finds -/
theorem refL_go (R : Nat → Int) (p : Nat) : ∀ (ms : List (Nat × Nat)) (b : (Sy × Int) × Nat) (e : Nat), 3 ≤ b.2 → ysz b.1.1 < b.2 → Cov R p b.2 e b.1 → ms.Pairwise (fun a b => a.2 < b.2) → (∀ m ∈ ms, e ≤ m.2 ∧ 1 ≤ m.2 ∧ m.2 ≤ 4294967295 ∧ 3 ≤ m.1 ∧ m.1 ≤ 273) →
    ms.foldl (refM R p) b.1 = (ms.foldl (cheapM R p) b).1 := by
  intro ms
  induction ms with
  | nil => intro b e _ _ _ _ _; rfl
  | cons m ms ih =>
    intro b e h3 hs hc hp hm
    obtain ⟨b, n0⟩ := b
    obtain ⟨t, d⟩ := m
    simp only [] at h3 hs hc
    obtain ⟨g1, g2, g3, g4, g5⟩ := hm (t, d) (List.mem_cons_self ..)
    simp only [] at g1 g2 g3 g4 g5
    rw [List.foldl_cons, List.foldl_cons]
    have hM : refM R p b (t, d) = cheapIn R p d (t + 1 - n0) n0 b := by
      show refIn R p d (t + 1 - 3) 3 b = _
      rcases refIn_skip hc g1 g3 t g5 (t + 1 - 3) 3 (by omega) (Nat.le_refl _) h3 with h5 | ⟨h5, h6⟩
      · rw [h5, show max n0 3 = n0 by omega]
        exact (refIn_cheap _ n0 b h3 hs).1
      · rw [h6, show t + 1 - n0 = 0 by omega]
        rfl
    have hC : cheapM R p (b, n0) (t, d) = (cheapIn R p d (t + 1 - n0) n0 b, max n0 (t + 1)) := rfl
    rw [hM, hC]
    refine ih (cheapIn R p d (t + 1 - n0) n0 b, max n0 (t + 1)) d (by show 3 ≤ max n0 (t + 1); omega) ?_ ?_ (List.pairwise_cons.1 hp).2 ?_
    · show ysz (cheapIn R p d (t + 1 - n0) n0 b).1 < max n0 (t + 1)
      rcases (by omega : t + 1 ≤ n0 ∨ n0 < t + 1) with h5 | h5
      · rw [show t + 1 - n0 = 0 by omega]
        show ysz b.1 < _
        omega
      · have : ∀ f n b, 3 ≤ n → ysz b.1 < n → 1 ≤ f → ysz (cheapIn R p d f n b).1 < n + f := by
          intro f
          induction f with
          | zero => intro n b _ _ h; omega
          | succ f ihf =>
            intro n b h3 hs _
            have h2 := stepC_sz (R := R) (p := p) (d := d) hs h3
            rcases Nat.eq_zero_or_pos f with h0 | h0
            · subst h0; exact h2
            · have := ihf (n + 1) (stepC R p d n b) (by omega) h2 h0
              show ysz (cheapIn R p d f (n + 1) (stepC R p d n b)).1 < _
              omega
        have := this (t + 1 - n0) n0 b h3 hs (by omega)
        omega
    · show Cov R p (max n0 (t + 1)) d (cheapIn R p d (t + 1 - n0) n0 b)
      rcases (by omega : t + 1 ≤ n0 ∨ n0 < t + 1) with h5 | h5
      · rw [show t + 1 - n0 = 0 by omega, show max n0 (t + 1) = n0 by omega]
        exact cov_mono hc g1
      · have := cov_in (R := R) (p := p) g2 (t + 1 - n0) n0 b h3 hs (cov_mono hc g1)
        rw [show max n0 (t + 1) = n0 + (t + 1 - n0) by omega]
        exact this
    · intro m hmm
      have h6 := (List.pairwise_cons.1 hp).1 m hmm
      simp only [] at h6
      obtain ⟨_, a2, a3, a4, a5⟩ := hm m (List.mem_cons_of_mem _ hmm)
      exact ⟨by omega, a2, a3, a4, a5⟩
theorem cheapIn_none (R : Nat → Int) (p : Nat) (b : (Sy × Int) × Nat) (m : Nat × Nat) (h : m.1 < b.2) : cheapM R p b m = b := by
  unfold cheapM
  rw [show m.1 + 1 - b.2 = 0 by omega, show max b.2 (m.1 + 1) = b.2 by omega]
  rfl
/-- matches that are no longer than a nearer one change nothing -/
theorem cheapGo_rec (R : Nat → Int) (p : Nat) (c : UInt8) (ms : List (Nat × Nat)) : cheapGo R p c (recL ms) = cheapGo R p c ms := by
  have key : ∀ k, k ≤ ms.length → cheapGo R p c (recGo (ms.take k)).1 = cheapGo R p c (ms.take k) ∧ (cheapGo R p c (ms.take k)).2 = max 3 ((recGo (ms.take k)).2 + 1) := by
    intro k
    induction k with
    | zero => intro _; rw [List.take_zero]; exact ⟨rfl, rfl⟩
    | succ k ih =>
      intro hk
      obtain ⟨i1, i2⟩ := ih (by omega)
      obtain ⟨m, hm⟩ : ∃ m, ms[k]? = some m := ⟨_, List.getElem?_eq_getElem (by omega)⟩
      rw [take_snoc hm, recGo_snoc, cheapGo_snoc]
      by_cases h : (recGo (ms.take k)).2 < m.1
      · rw [if_pos h]
        simp only []
        rw [cheapGo_snoc, i1]
        refine ⟨rfl, ?_⟩
        show max (cheapGo R p c (ms.take k)).2 (m.1 + 1) = _
        rw [i2]
        omega
      · rw [if_neg h]
        rw [cheapIn_none R p _ m (by rw [i2]; omega)]
        exact ⟨i1, i2⟩
  have := (key ms.length (Nat.le_refl _)).1
  rw [List.take_length] at this
  exact this
theorem refL_eq (l : List UInt8) (hi : Nat) (dict : Int) (hd : dict ≤ 4294967295) (R : Nat → Int) (p : Nat) (c : UInt8) : refL R p c (mats l dict p (pmost hi p : Int)) = cheapL R p c (recL (mats l dict p (pmost hi p : Int))) := by
  unfold cheapL
  rw [cheapGo_rec]
  refine refL_go R p (mats l dict p (pmost hi p : Int)) ((⟨1, c, 0, 0⟩, 9 + R (p + 1)), 3) 0 (Nat.le_refl _) (by show 1 < 3; decide) (fun n h1 h2 => absurd h2 (by simp only []; omega)) (mats_sorted _ _ _ _) (fun m hm => ?_)
  obtain ⟨h1, h2, h3, h4, h5⟩ := mats_mem hm
  exact ⟨Nat.zero_le _, h1, by omega, h4, Nat.le_trans h5 (by unfold lft; omega)⟩
theorem planY_len {y : Sy} (h : planY y) : (if y.k = 2 ∨ y.k = 3 then y.l else 1) = (ysz y : Int) := by
  rw [ysz_int]
  rcases h with ⟨c, rfl⟩ | ⟨n, d, rfl, h1, h2, h3, h4⟩
  · rfl
  · show (if (2 : Int) = 2 ∨ (2 : Int) = 3 then (n : Int) else 1) = max 1 (n : Int)
    rw [if_pos (.inl rfl)]
    omega
/-- the reference's length answers a symbol's size -/
def LenOk (y : Sy) : Prop := (if y.k = 2 ∨ y.k = 3 then y.l else 1) = (ysz y : Int)
theorem lenOk_two (n d : Nat) (h : 3 ≤ n) : LenOk ⟨2, 0, (n : Int), (d : Int)⟩ := by
  unfold LenOk
  rw [ysz_two n d h]
  exact if_pos (.inl rfl)
theorem own_g {w : World} {B : Nat} {e : TypeId} {size n c : Nat} {L : Option Addr} {xs : List Value} (h : w.ownsRow B e size (.slice L n c) n xs) (hn : 0 < n) : ∃ g, L = some ⟨g, 0, none⟩ := by
  obtain ⟨g, cap, hv, _⟩ := h.form hn
  injection hv with hA
  exact ⟨g, hA⟩
set_option maxHeartbeats 4000000 in
theorem PlanR_no (A : Option Addr) (m c : Nat) (fr hi di : Int) (w : World) (hne : refE m fr hi di ≠ 0) :
    Calls Tryd.prog 20 #[.agg (rfC A m c fr hi di)] w fun e w' => e = .returned (.tuple #[.slice none 0 0, .int .i64 (refE m fr hi di)]) ∧ Below w.heap.size w w' := by
  have HRf := Lib.hid (fun W => Refuses_any A m c fr hi di W)
  obtain ⟨R, hR⟩ : ∃ R, refE m fr hi di = R := ⟨_, rfl⟩
  rw [hR] at HRf hne ⊢
  obtain ⟨B, hB⟩ : ∃ B, w.heap.size = B := ⟨_, rfl⟩
  obtain ⟨w1, hw1⟩ : ∃ w1, w.alloc (.cells #[.slice A m c, .int .i64 fr, .int .i64 hi, .int .i64 di] 50) = w1 := ⟨_, rfl⟩
  have hb1 : Below w.heap.size w w1 := by rw [← hw1]; exact (Below.refl _ _).alloc (Nat.le_refl _) _
  have hP1 : Blk w1 B 50 #[.slice A m c, .int .i64 fr, .int .i64 hi, .int .i64 di] := by rw [← hw1]; exact Blk.new_at hB.symm
  have HI := Lib.hid hb1
  obtain ⟨x0, x1, x2, x3⟩ := Blk.four hP1
  unfold rfC at HRf
  unfold rfC
  have e2 : (R != 0) = true := by simp [hne]
  clear hb1 hP1 hne hR
  go_enter Tryd.func20, Tryd.ntmps20
  go_wp2_with fail
  clear hw1 hB
  refine (HRf.out w1).mono ?_
  rintro e wa ⟨rfl, hba⟩
  have HA := Lib.hid (bup HI.out hba)
  clear x0 x1 x2 x3 hba
  go_wp2_with fail
  exact bodyPost_ret (v := .tuple #[.slice none 0 0, .int .i64 R]) (by simp [results, Tryd.results20, go_sem, *]) rfl ⟨rfl, HA.out⟩
set_option maxHeartbeats 16000000 in
theorem PlanR_ok (A : Option Addr) (m c : Nat) (l : List UInt8) (fr hi : Nat) (di : Int) (w : World) (h : In w A m l) (hmc : m ≤ c) (hm : m ≤ 1048576) (h1 : fr ≤ hi) (h2 : hi ≤ m) (hd : 1 ≤ di ∧ di ≤ 4294967295) :
    Calls Tryd.prog 20 #[.agg (rfC A m c fr hi di)] w fun e w' => ∃ L lc, e = .returned (.tuple #[.slice L (planL l fr hi di).length lc, .int .i64 0]) ∧ w'.ownsRow w.heap.size 24 4 (.slice L (planL l fr hi di).length lc) (planL l fr hi di).length (syc (planL l fr hi di)) ∧ Below w.heap.size w w' := by
  obtain ⟨i0, hi0, hz0, hz1, hz2⟩ := info_parts infosy
  obtain ⟨i1, hi1, hy0, hy1, hy2⟩ := info_parts infoint
  have hr0 : refE m fr hi di = 0 := refE_zero.2 (by omega)
  have HRf := Lib.hid (fun W => Refuses_any A m c fr hi di W)
  rw [hr0] at HRf
  have HMa := Lib.hid (fun (p : Nat) (W : World) (hW : In W A m l) (hp : p < hi) => MatchesR_any A m c l fr di hi p W hW hm h2 hmc hp)
  obtain ⟨B, hB⟩ : ∃ B, w.heap.size = B := ⟨_, rfl⟩
  obtain ⟨w1, hw1⟩ : ∃ w1, w.alloc (.cells #[.slice A m c, .int .i64 fr, .int .i64 hi, .int .i64 di] 50) = w1 := ⟨_, rfl⟩
  have hb1 : Below w.heap.size w w1 := by rw [← hw1]; exact (Below.refl _ _).alloc (Nat.le_refl _) _
  have hP1 : Blk w1 B 50 #[.slice A m c, .int .i64 fr, .int .i64 hi, .int .i64 di] := by rw [← hw1]; exact Blk.new_at hB.symm
  have hadB : Hid (0 < m → ∀ ad, A = some ad → ad.block < B) := by rw [← hB]; exact h.2.1
  have HI := Lib.hid (And.intro (h.below hb1) (And.intro hP1 (And.intro hb1 hB)))
  obtain ⟨x0, x1, x2, x3⟩ := Blk.four hP1
  unfold rfC at HRf HMa
  unfold rfC
  obtain ⟨n, hn⟩ : ∃ n, hi - fr = n := ⟨_, rfl⟩
  have hnI : (hi : Int) - (fr : Int) = (n : Int) := by omega
  have hfn : fr + n = hi := by omega
  have hn20 : n ≤ 1048576 := by omega
  clear h hb1 hP1 hr0 hn
  go_enter Tryd.func20, Tryd.ntmps20
  go_wp2_with fail
  clear hw1 hB
  refine (HRf.out w1).mono ?_
  rintro e w2 ⟨rfl, hb2⟩
  obtain ⟨x0', x1', x2', x3'⟩ := Blk.four (HI.out.2.1.below hb2)
  have H2 : Hid (In w2 A m l ∧ Blk w2 B 50 #[.slice A m c, .int .i64 fr, .int .i64 hi, .int .i64 di] ∧ Below w.heap.size w w2 ∧ w.heap.size = B ∧ B < w2.heap.size) := ⟨HI.out.1.below hb2, HI.out.2.1.below hb2, bup HI.out.2.2.1 hb2, HI.out.2.2.2, (HI.out.2.1.below hb2).lt⟩
  clear x0 x1 x2 x3 hb2 HI HRf
  obtain ⟨E, hE⟩ : ∃ E, w2.heap.size = E := ⟨_, rfl⟩
  go_upto_region 6 with (at_make; refine wpList_make_full w2 rfl (.tmp 28) (.tmp 28) 61 rfl w2.heap.size 3 i1 _ 1 Tryd.underlying61 hi1 hy0 hy1 .i64 .i64 (n + 1) (n + 1) (n + 1) rfl rfl rfl rfl (by rw [hy2]; omega) (by unfold maxLen; omega) (Nat.le_refl _) ?_; intro w4 hown4 hg4)
  rw [made_one _ _ rfl, ← restX_zero l hi di fr (n + 1)] at hown4
  rw [hE] at hown4
  have hb4 : Below w2.heap.size w2 w4 := ((Fr.refl (fun _ => False) w2).grown hg4 (fun g h => by cases h)).below (Nat.le_refl _) (fun k h => h.elim)
  obtain ⟨X, hX⟩ : ∃ X, w4.heap.size = X := ⟨_, rfl⟩
  have hEX : E < X := by have := (own_lt hown4 (g := E) rfl).2; omega
  have hBE : B < E := by have := H2.out.2.2.2.2; omega
  have H4 : Hid (In w4 A m l ∧ Blk w4 B 50 #[.slice A m c, .int .i64 fr, .int .i64 hi, .int .i64 di] ∧ Below w.heap.size w w4 ∧ w.heap.size = B ∧ w4.ownsRow E 3 1 (.slice (some ⟨E, 0, none⟩) (n + 1) (n + 1)) (n + 1) (restX (planR l hi di 0) fr (n + 1))) := ⟨H2.out.1.below hb4, H2.out.2.1.below hb4, bup H2.out.2.2.1 hb4, H2.out.2.2.2.1, hown4⟩
  clear x0' x1' x2' x3' hE hb4 hown4 hg4 H2
  go_upto_region 7 with (at_make; refine wpList_make_full w4 rfl (.tmp 31) (.tmp 31) 22 rfl w4.heap.size 24 i0 _ 4 Tryd.underlying22 hi0 hz0 hz1 .i64 .i64 (n + 1) (n + 1) (n + 1) rfl rfl rfl rfl (by rw [hz2]; omega) (by unfold maxLen; omega) (Nat.le_refl _) ?_; intro w6 hown6 hg6)
  rw [made_sys, ← bestX_zero l hi di fr (n + 1), hX] at hown6
  have hb6 : Below w4.heap.size w4 w6 := ((Fr.refl (fun _ => False) w4).grown hg6 (fun g h => by cases h)).below (Nat.le_refl _) (fun k h => h.elim)
  have H6 : Hid (In w6 A m l ∧ Blk w6 B 50 #[.slice A m c, .int .i64 fr, .int .i64 hi, .int .i64 di] ∧ Below w.heap.size w w6 ∧ w6.ownsRow E 3 1 (.slice (some ⟨E, 0, none⟩) (n + 1) (n + 1)) (n + 1) (restX (planR l hi di 0) fr (n + 1)) ∧ w6.ownsRow X 24 4 (.slice (some ⟨X, 0, none⟩) (n + 1) (n + 1)) (n + 1) (syc (bestX (planR l hi di 0) fr (n + 1)))) := ⟨H4.out.1.below hb6, H4.out.2.1.below hb6, bup H4.out.2.2.1 hb6, own_below H4.out.2.2.2.2 hb6, hown6⟩
  have HB0 : Hid (w.heap.size = B) := H4.out.2.2.2.1
  have n1 : ¬ E = X := by omega
  have n2 : ¬ X = E := by omega
  have n3 : ¬ B = E := by omega
  have n4 : ¬ B = X := by omega
  clear hX hb6 hown6 hg6 H4
  go_wp2_with fail
  go_loopw [8] (fun s8 wr => ∃ (k : Nat) (x : Int), s8 = .int .i64 x ∧ x + (k : Int) + 1 = (n : Int) ∧ k ≤ n ∧ Hid (In wr A m l ∧ Blk wr B 50 #[.slice A m c, .int .i64 fr, .int .i64 hi, .int .i64 di] ∧ Below w.heap.size w wr ∧ wr.ownsRow E 3 1 (.slice (some ⟨E, 0, none⟩) (n + 1) (n + 1)) (n + 1) (restX (planR l hi di k) fr (n + 1)) ∧ wr.ownsRow X 24 4 (.slice (some ⟨X, 0, none⟩) (n + 1) (n + 1)) (n + 1) (syc (bestX (planR l hi di k) fr (n + 1))))) (fun s8 _ => (intOf s8 + 1).toNat)
  case atStart => exact ⟨0, (n : Int) - 1, rfl, by omega, Nat.zero_le _, H6.out⟩
  case round =>
    clear H6
    obtain ⟨k, xi, rfl, hxk, hk, HJ⟩ := hrel
    by_cases hki : k < n
    · obtain ⟨j, rfl⟩ : ∃ j : Nat, xi = (j : Int) := ⟨xi.toNat, by omega⟩
      have hjk : j + k + 1 = n := by omega
      have hj0 : (0 : Int) ≤ (j : Int) := by omega
      have hji1 : (j : Int) < (n : Int) + 1 := by omega
      have hji2 : (j : Int) + 1 < (n : Int) + 1 := by omega
      have hji3 : ((j : Int) + 1).toNat = j + 1 := by omega
      have hji4 : (0 : Int) ≤ (j : Int) + 1 := by omega
      obtain ⟨p, hp⟩ : ∃ p, fr + j = p := ⟨_, rfl⟩
      have hpI : (fr : Int) + (j : Int) = (p : Int) := by omega
      have hph : p < hi := by omega
      have hpm : (p : Int) < (m : Int) := by omega
      obtain ⟨R, hR⟩ : ∃ R : Nat → Int, (fun t => (planR l hi di k t).2) = R := ⟨_, rfl⟩
      have hRv : ∀ t, (planR l hi di k t).2 = R t := fun t => by rw [← hR]
      have hRb : ∀ t, 0 ≤ R t ∧ R t ≤ 9437184 := fun t => by have := planR_bd l hi di k t; rw [← hRv]; omega
      obtain ⟨ch, hch⟩ : ∃ ch, l.getD p 0 = ch := ⟨_, rfl⟩
      have hnew : planR l hi di (k + 1) p = refL R p ch (mats l di p (pmost hi p : Int)) := by
        rw [refL_eq l hi di hd.2, ← hch, ← hR]
        exact planR_new l hi di k p (by omega)
      obtain ⟨C0, hC0⟩ : ∃ C0, restX (planR l hi di k) fr (n + 1) = C0 := ⟨_, rfl⟩
      obtain ⟨S0, hS0⟩ : ∃ S0, bestX (planR l hi di k) fr (n + 1) = S0 := ⟨_, rfl⟩
      have hCg : ∀ t, t < n + 1 → C0[t]? = some (.int .i64 (R (fr + t))) := fun t ht => by rw [← hC0, restX_get _ _ _ _ ht, hRv]
      have hCl : C0.length = n + 1 := by rw [← hC0, restX_len]
      have hSl : S0.length = n + 1 := by rw [← hS0, bestX_len]
      have hCn : C0.set j (.int .i64 (planR l hi di (k + 1) p).2) = restX (planR l hi di (k + 1)) fr (n + 1) := by rw [← hC0, ← hp]; exact restX_set l hi di fr k j (n + 1) (by omega) (by omega)
      have hSn : S0.set j (planR l hi di (k + 1) p).1 = bestX (planR l hi di (k + 1)) fr (n + 1) := by rw [← hS0, ← hp]; exact bestX_set l hi di fr k j (n + 1) (by omega) (by omega)
      obtain ⟨q1, q2, q3, q4, q5⟩ := HJ.out
      rw [hC0] at q4
      rw [hS0] at q5
      obtain ⟨x0, x1, x2, x3⟩ := Blk.four q2
      obtain ⟨ad, hA, z0⟩ := q1.at_ (j := p) (by omega)
      rw [hch] at z0
      obtain ⟨ys, hys⟩ : ∃ y, S0[j]? = some y := ⟨_, List.getElem?_eq_getElem (by omega)⟩
      obtain ⟨g0, g1, g2, g3⟩ := syc_get hys
      have s0 := (q5.cellAt (g := X) (cap := n + 1) (j * 4) (by omega)).trans g0
      have s1 := (q5.cellAt (g := X) (cap := n + 1) (j * 4 + 1) (by omega)).trans g1
      have s2 := (q5.cellAt (g := X) (cap := n + 1) (j * 4 + 2) (by omega)).trans g2
      have s3 := (q5.cellAt (g := X) (cap := n + 1) (j * 4 + 3) (by omega)).trans g3
      have f0 := q5.frozenAt (g := X) (cap := n + 1) (j * 4)
      have f1 := q5.frozenAt (g := X) (cap := n + 1) (j * 4 + 1)
      have f2 := q5.frozenAt (g := X) (cap := n + 1) (j * 4 + 2)
      have f3 := q5.frozenAt (g := X) (cap := n + 1) (j * 4 + 3)
      have e0 := (q4.cellAt (g := E) (cap := n + 1) j (by omega)).trans (hCg j (by omega))
      have e1 := (q4.cellAt (g := E) (cap := n + 1) (j + 1) (by omega)).trans (hCg (j + 1) (by omega))
      have ef := q4.frozenAt (g := E) (cap := n + 1) j
      obtain ⟨R1, hR1⟩ : ∃ R1, R (fr + (j + 1)) = R1 := ⟨_, rfl⟩
      rw [hR1] at e1
      have hR1b := hRb (fr + (j + 1))
      rw [hR1] at hR1b
      have hR1' : R (p + 1) = R1 := by rw [← hR1, ← hp]; rfl
      have hxl : X < wr.heap.size := (own_lt q5 (g := X) rfl).2
      have hel : E < wr.heap.size := (own_lt q4 (g := E) rfl).2
      have Hq := Lib.hid (And.intro q1 (And.intro q2 (And.intro q3 (And.intro q4 q5))))
      have Hpl := Lib.hid (And.intro hnew (And.intro hCn (And.intro hSn (And.intro hCg (And.intro hCl (And.intro hSl (And.intro hR1' (And.intro hRb hp))))))))
      subst hA
      have wrp : IntKind.i64.wrap ((fr : Int) + (j : Int)) = (p : Int) := by rw [hpI]; exact IntWalk.i64_in _ (by omega)
      clear q1 q2 q3 q4 q5 hR hRv hRb hC0 hS0 hnew hCn hSn hCg hCl hSl hch hys g0 g1 g2 g3 HJ hR1 hR1' hp
      go_upto_region 13 with (fail)
      --PART2
      obtain ⟨wb, hwb⟩ : ∃ wb, ((((wr.setCell ⟨X, j * 4, none⟩ (.int .i64 1)).setCell ⟨X, j * 4 + 1, none⟩ (.int .u8 (ch.toNat : Int))).setCell ⟨X, j * 4 + 2, none⟩ (.int .i64 0)).setCell ⟨X, j * 4 + 3, none⟩ (.int .i64 0)).setCell ⟨E, j, none⟩ (.int .i64 (9 + R1)) = wb := ⟨_, rfl⟩
      rw [hwb]
      have hXE1 : some E ≠ (Value.slice (some ⟨X, 0, none⟩) (n + 1) (n + 1)).ownBlock := fun e => n1 (Option.some.inj e)
      have hXE2 : some X ≠ (Value.slice (some ⟨E, 0, none⟩) (n + 1) (n + 1)).ownBlock := fun e => n2 (Option.some.inj e)
      obtain ⟨hnew, hCn, hSn, hCg, hCl, hSl, hR1', hRb, hp⟩ := Hpl.out
      have Hb : Hid (In wb (some ad) m l ∧ Blk wb B 50 #[.slice (some ad) m c, .int .i64 fr, .int .i64 hi, .int .i64 di] ∧ Below w.heap.size w wb ∧ wb.ownsRow E 3 1 (.slice (some ⟨E, 0, none⟩) (n + 1) (n + 1)) (n + 1) (C0.set j (.int .i64 (9 + R1))) ∧ wb.ownsRow X 24 4 (.slice (some ⟨X, 0, none⟩) (n + 1) (n + 1)) (n + 1) (syc (S0.set j ⟨1, ch, 0, 0⟩)) ∧ X < wb.heap.size) := by
        obtain ⟨q1, q2, q3, q4, q5⟩ := Hq.out
        have hF : Fr (fun g => g = X ∨ g = E) wr wb := by
          rw [← hwb]
          exact (((((Fr.refl (fun g => g = X ∨ g = E) wr).setCell (p := ⟨X, j * 4, none⟩) (.inl (.inl rfl)) _).setCell (p := ⟨X, j * 4 + 1, none⟩) (.inl (.inl rfl)) _).setCell (p := ⟨X, j * 4 + 2, none⟩) (.inl (.inl rfl)) _).setCell (p := ⟨X, j * 4 + 3, none⟩) (.inl (.inl rfl)) _).setCell (p := ⟨E, j, none⟩) (.inl (.inr rfl)) _
        have hB0 := HB0.out
        refine ⟨q1.fr hF (fun h0 ad' had e => by have := hadB.out h0 ad' had; omega), q2.fr hF (by omega), q3.trans (hF.below q3.size (fun g e => by omega)), ?_, ?_, by have := hF.size; omega⟩
        · have := own_set (own_far (own_far (own_far (own_far q4 (p := ⟨X, j * 4, none⟩) hXE2 (.int .i64 1)) (p := ⟨X, j * 4 + 1, none⟩) hXE2 (.int .u8 (ch.toNat : Int))) (p := ⟨X, j * 4 + 2, none⟩) hXE2 (.int .i64 0)) (p := ⟨X, j * 4 + 3, none⟩) hXE2 (.int .i64 0)) j (.int .i64 (9 + R1))
          rw [hwb] at this
          exact this
        · have := own_far (own_set (own_set (own_set (own_set q5 (j * 4) (.int .i64 1)) (j * 4 + 1) (.int .u8 (ch.toNat : Int))) (j * 4 + 2) (.int .i64 0)) (j * 4 + 3) (.int .i64 0)) (p := ⟨E, j, none⟩) hXE1 (.int .i64 (9 + R1))
          rw [hwb] at this
          rw [← syc_set S0 j ⟨1, ch, 0, 0⟩]
          exact this
      obtain ⟨x0, x1, x2, x3⟩ := Blk.four Hb.out.2.1
      clear hwb s0 s1 s2 s3 f0 f1 f2 f3 e0 e1 ef hxl hel z0 Hq hnew hCn hSn hCg hCl hSl hR1' hRb hp wrp
      have hMc := HMa.out p wb Hb.out.1 hph
      obtain ⟨ms, hms⟩ : ∃ ms, mats l di p (pmost hi p : Int) = ms := ⟨_, rfl⟩
      rw [hms] at hMc
      have HMc := Lib.hid hMc
      have Hms : Hid (ms.length ≤ 32 ∧ (∀ mm ∈ ms, 1 ≤ mm.2 ∧ mm.2 ≤ 4294967295 ∧ 3 ≤ mm.1 ∧ mm.1 ≤ 273 ∧ mm.1 ≤ hi - p)) := by
        refine ⟨by rw [← hms]; exact mats_le _ _ _ _, fun mm hmm => ?_⟩
        rw [← hms] at hmm
        obtain ⟨a1, a2, a3, a4, a5⟩ := mats_mem hmm
        have hpo : pmost hi p ≤ hi - p ∧ pmost hi p ≤ 273 := by unfold pmost; omega
        have : lft l p (pmost hi p : Int) ≤ pmost hi p := by unfold lft; omega
        exact ⟨a1, by omega, a4, by omega, by omega⟩
      have Hpl2 : Hid (planR l hi di (k + 1) p = refL R p ch ms) := by show _ = _; rw [← hms]; exact Hpl.out.1
      clear hMc hms
      go_wp2_with fail
      refine HMc.out.mono ?_
      rintro e w3 ⟨L, lc, rfl, hRow, hb3⟩
      have H3 : Hid (In w3 (some ad) m l ∧ Blk w3 B 50 #[.slice (some ad) m c, .int .i64 fr, .int .i64 hi, .int .i64 di] ∧ Below w.heap.size w w3 ∧ w3.ownsRow E 3 1 (.slice (some ⟨E, 0, none⟩) (n + 1) (n + 1)) (n + 1) (C0.set j (.int .i64 (9 + R1))) ∧ w3.ownsRow X 24 4 (.slice (some ⟨X, 0, none⟩) (n + 1) (n + 1)) (n + 1) (syc (S0.set j ⟨1, ch, 0, 0⟩)) ∧ (∀ g, (Value.slice L ms.length lc).ownBlock = some g → ¬ (g = E ∨ g = X)) ∧ w3.ownsRow wb.heap.size 98 2 (.slice L ms.length lc) ms.length (ents ms)) := by
        obtain ⟨q1, q2, q3, q4, q5, q6⟩ := Hb.out
        exact ⟨q1.below hb3, q2.below hb3, bup q3 hb3, own_below q4 hb3, own_below q5 hb3, fun g hg e => by have := (own_lt hRow hg).1; omega, hRow⟩
      have hL0 : (refL R p ch (ms.take 0)) = (⟨1, ch, 0, 0⟩, 9 + R1) := by rw [List.take_zero]; show ((⟨1, ch, 0, 0⟩, 9 + R (p + 1)) : Sy × Int) = _; rw [Hpl.out.2.2.2.2.2.2.1]
      have HL0 := Lib.hid hL0
      clear x0 x1 x2 x3 hRow hb3 Hb HMc hL0
      go_wp2_with fail
      go_loopw [11] (fun s11 wq => ∃ q : Nat, s11 = .int .i64 (q : Int) ∧ q ≤ ms.length ∧ Hid (Fr (fun g => g = E ∨ g = X) w3 wq ∧ wq.ownsRow E 3 1 (.slice (some ⟨E, 0, none⟩) (n + 1) (n + 1)) (n + 1) (C0.set j (.int .i64 (refL R p ch (ms.take q)).2)) ∧ wq.ownsRow X 24 4 (.slice (some ⟨X, 0, none⟩) (n + 1) (n + 1)) (n + 1) (syc (S0.set j (refL R p ch (ms.take q)).1)) ∧ LenOk (refL R p ch (ms.take q)).1 ∧ 0 ≤ (refL R p ch (ms.take q)).2 ∧ (refL R p ch (ms.take q)).2 ≤ 9437193)) (fun s11 _ => ms.length - (intOf s11).toNat)
      case atStart =>
        refine ⟨0, rfl, Nat.zero_le _, ?_⟩
        rw [HL0.out]
        exact ⟨Fr.refl _ _, H3.out.2.2.2.1, H3.out.2.2.2.2.1, rfl, by show (0 : Int) ≤ 9 + R1; omega, by show 9 + R1 ≤ 9437193; omega⟩
      case round =>
        obtain ⟨q, rfl, hq, HQ⟩ := hrel
        obtain ⟨wq, rfl⟩ : ∃ w0, w0 = wr := ⟨_, rfl⟩
        have hm32 : ms.length ≤ 32 := Hms.out.1
        by_cases hlt : q < ms.length
        · have hlt' : (q : Int) < (ms.length : Int) := by omega
          obtain ⟨⟨t, d⟩, hm1⟩ : ∃ x, ms[q]? = some x := ⟨_, List.getElem?_eq_getElem hlt⟩
          obtain ⟨d1, d2, t1, t2, t3⟩ := Hms.out.2 (t, d) (List.mem_of_getElem? hm1)
          simp only [] at d1 d2 t1 t2 t3
          have hnx : refL R p ch (ms.take (q + 1)) = refM R p (refL R p ch (ms.take q)) (t, d) := by rw [take_snoc hm1, refL_snoc]
          obtain ⟨b0, hb0⟩ : ∃ b0, refL R p ch (ms.take q) = b0 := ⟨_, rfl⟩
          obtain ⟨v1, v2, v3, v4, v5, v6⟩ := HQ.out
          rw [hb0] at hnx v2 v3 v4 v5 v6
          have Hnx := Lib.hid hnx
          have HV := Lib.hid (And.intro v1 (And.intro v2 (And.intro v3 (And.intro v4 (And.intro v5 v6)))))
          obtain ⟨g, hLg, m0, m1⟩ := row_get (own_fr H3.out.2.2.2.2.2.2 v1 H3.out.2.2.2.2.2.1) hm1
          simp only [] at m0 m1
          subst hLg
          have hng : ¬ (g = E ∨ g = X) := H3.out.2.2.2.2.2.1 g rfl
          have ng1 : ¬ g = E := fun e => hng (.inl e)
          have ng2 : ¬ g = X := fun e => hng (.inr e)
          have ng3 : ¬ E = g := fun e => hng (.inl e.symm)
          have ng4 : ¬ X = g := fun e => hng (.inr e.symm)
          clear hng
          have HMe : Hid (∀ W, Fr (fun g => g = E ∨ g = X) w3 W → W.cell? ⟨g, q * 2, none⟩ = some (.int .i64 (t : Int)) ∧ W.cell? ⟨g, q * 2 + 1, none⟩ = some (.int .i64 (d : Int))) := fun W hW => by
            obtain ⟨g', hg', a0, a1⟩ := row_get (own_fr H3.out.2.2.2.2.2.2 hW H3.out.2.2.2.2.2.1) hm1
            injection hg' with hg'
            injection hg' with hg'
            subst hg'
            exact ⟨a0, a1⟩
          have HBi := Lib.hid (fun W => bitsQ_any d d1 d2 W)
          have hbf : bitsN (slotUpto d 64) ≤ 31 := bits_fits
          have hmv : ∀ v : Nat, 3 ≤ v → v ≤ t → mPr v d = 8 + lenP (v : Int) + (bitsN (slotUpto d 64) : Int) := fun v h1 h2 => mPr_val h1 (by omega) d1 d2
          have Hmv := Lib.hid hmv
          obtain ⟨bt, hbt⟩ : ∃ bt, bitsN (slotUpto d 64) = bt := ⟨_, rfl⟩
          rw [hbt] at HBi hbf Hmv
          clear hmv hbt hnx v1 v2 v3 v4 v5 v6 HQ hb0 hm1
          go_wp2_with fail
          refine (HBi.out wq).mono ?_
          rintro e wq' ⟨rfl, hwq⟩
          subst hwq
          clear m0 m1
          go_wp2_with fail
          obtain ⟨far, hfar⟩ : ∃ far : Int, 8 + (bt : Int) = far := ⟨_, rfl⟩
          have hfb : 8 ≤ far ∧ far ≤ 39 := by omega
          simp only [hfar]
          go_loopw [13] (fun s13 wv => ∃ (v : Nat) (b : Sy × Int), s13 = .int .i64 (v : Int) ∧ 3 ≤ v ∧ v ≤ t + 1 ∧ Hid (refIn R p d (t + 1 - v) v b = refM R p b0 (t, d) ∧ Fr (fun g => g = E ∨ g = X) w3 wv ∧ wv.ownsRow E 3 1 (.slice (some ⟨E, 0, none⟩) (n + 1) (n + 1)) (n + 1) (C0.set j (.int .i64 b.2)) ∧ wv.ownsRow X 24 4 (.slice (some ⟨X, 0, none⟩) (n + 1) (n + 1)) (n + 1) (syc (S0.set j b.1)) ∧ LenOk b.1 ∧ 0 ≤ b.2 ∧ b.2 ≤ 9437193)) (fun s13 _ => t + 1 - (intOf s13).toNat)
          case atStart => exact ⟨3, b0, rfl, Nat.le_refl _, by omega, rfl, HV.out⟩
          case round =>
            obtain ⟨v, b, rfl, hv3, hvt, HB⟩ := hrel
            obtain ⟨wv, rfl⟩ : ∃ w0, w0 = wr := ⟨_, rfl⟩
            obtain ⟨m0, m1⟩ := HMe.out wv HB.out.2.1
            by_cases hlt : v < t + 1
            · have hvt' : (v : Int) ≤ (t : Int) := by omega
              obtain ⟨c1, c2, c3, c4, c5, c6, c7⟩ := HB.out
              obtain ⟨hnew, hCn, hSn, hCg, hCl, hSl, hR1', hRb, hp⟩ := Hpl.out
              have hst := refIn_step R p d t v b (by omega)
              have hmv := Hmv.out v hv3 (by omega)
              have hlp := lenP_bd (v : Int)
              obtain ⟨lp, hlpe⟩ : ∃ lp, lenP (v : Int) = lp := ⟨_, rfl⟩
              rw [hlpe] at hmv hlp
              have HLo : Hid (∀ W, Calls Tryd.prog 38 #[.int .i64 (v : Int)] W fun e w' => e = .returned (.int .i64 lp) ∧ w' = W) := fun W => by
                have := longR_any (v : Int) W
                rw [hlpe] at this
                exact this.mono fun e w' ⟨h1, h2⟩ => ⟨h1, h2.symm⟩
              have hrv := hRb (p + v)
              obtain ⟨Rv, hRv⟩ : ∃ Rv, R (p + v) = Rv := ⟨_, rfl⟩
              rw [hRv] at hrv
              have hcv : (C0.set j (.int .i64 b.2))[j + v]? = some (.int .i64 Rv) := by
                rw [List.getElem?_set_ne (by omega), hCg (j + v) (by omega), ← hRv, ← hp, show fr + (j + v) = fr + j + v by omega]
              have e1 := (c3.cellAt (g := E) (cap := n + 1) (j + v) (by omega)).trans hcv
              have e0 := (c3.cellAt (g := E) (cap := n + 1) j (by omega)).trans (List.getElem?_set_self (by omega))
              have ef := c3.frozenAt (g := E) (cap := n + 1) j
              obtain ⟨b, bp⟩ := b
              simp only [] at hst e0 c3 c4 c5 c6 c7
              have hsv : (S0.set j b)[j]? = some b := List.getElem?_set_self (by omega)
              obtain ⟨g0, g1, g2, g3⟩ := syc_get hsv
              obtain ⟨zb, hzb⟩ : ∃ zb, ysz b = zb := ⟨_, rfl⟩
              have HLe : Hid (∀ W, Calls Tryd.prog 52 #[.agg #[.int .i64 b.k, .int .u8 (b.y.toNat : Int), .int .i64 b.l, .int .i64 b.x]] W fun e w' => e = .returned (.int .i64 (zb : Int)) ∧ Below W.heap.size W w') := fun W => by
                have := lengthR_any b.k b.l b.x b.y W
                rw [show (if b.k = 2 ∨ b.k = 3 then b.l else 1) = (zb : Int) by rw [← hzb]; exact c5] at this
                exact this
              have s0 := (c4.cellAt (g := X) (cap := n + 1) (j * 4) (by omega)).trans g0
              have s1 := (c4.cellAt (g := X) (cap := n + 1) (j * 4 + 1) (by omega)).trans g1
              have s2 := (c4.cellAt (g := X) (cap := n + 1) (j * 4 + 2) (by omega)).trans g2
              have s3 := (c4.cellAt (g := X) (cap := n + 1) (j * 4 + 3) (by omega)).trans g3
              have f0 := c4.frozenAt (g := X) (cap := n + 1) (j * 4)
              have f1 := c4.frozenAt (g := X) (cap := n + 1) (j * 4 + 1)
              have f2 := c4.frozenAt (g := X) (cap := n + 1) (j * 4 + 2)
              have f3 := c4.frozenAt (g := X) (cap := n + 1) (j * 4 + 3)
              have hxl : X < wv.heap.size := (own_lt c4 (g := X) rfl).2
              have hel : E < wv.heap.size := (own_lt c3 (g := E) rfl).2
              obtain ⟨yk, yy, yl, yx⟩ := b
              simp only [] at HLe s0 s1 s2 s3
              have hpr : mPr v d + R (p + v) = far + lp + Rv := by rw [hmv, hRv]; omega
              have hsq : stepQ R p d v (⟨yk, yy, yl, yx⟩, bp) = if far + lp + Rv < bp ∨ (far + lp + Rv = bp ∧ zb < v) then (⟨2, 0, (v : Int), (d : Int)⟩, far + lp + Rv) else (⟨yk, yy, yl, yx⟩, bp) := by
                unfold stepQ
                rw [hpr]
                simp only [hzb]
              rw [hsq] at hst
              have Hst : Hid (refIn R p d (t + 1 - (v + 1)) (v + 1) (if far + lp + Rv < bp ∨ (far + lp + Rv = bp ∧ zb < v) then (⟨2, 0, (v : Int), (d : Int)⟩, far + lp + Rv) else (⟨yk, yy, yl, yx⟩, bp)) = refM R p b0 (t, d)) := by
                show _ = _
                rw [← hst]; exact c1
              have HC := Lib.hid (And.intro c2 (And.intro c3 (And.intro c4 (And.intro c5 (And.intro c6 (And.intro c7 (And.intro hSl hCl)))))))
              have j1 : (0 : Int) ≤ (j : Int) + (v : Int) := by omega
              have j2 : (j : Int) + (v : Int) < (n : Int) + 1 := by omega
              have j3 : ((j : Int) + (v : Int)).toNat = j + v := by omega
              have j4 : IntKind.i64.wrap ((j : Int) + (v : Int)) = (j : Int) + (v : Int) := IntWalk.i64_in _ (by omega)
              have j5 : IntKind.i64.wrap (far + lp) = far + lp := IntWalk.i64_in _ (by omega)
              have j6 : IntKind.i64.wrap (far + lp + Rv) = far + lp + Rv := IntWalk.i64_in _ (by omega)
              clear c1 c2 c3 c4 c5 c6 c7 hnew hCn hSn hCg hCl hSl hR1' hRb hp hst hmv hlpe hcv hsv g0 g1 g2 g3 hzb hpr hsq hRv HB
              go_wp2_with fail
              go_quiet (first | (go_at_call 38; exact Calls.quiet_of_same (HLo.out _)))
              obtain ⟨pr, hpr⟩ : ∃ pr, far + lp + Rv = pr := ⟨_, rfl⟩
              have hprb : 0 ≤ pr ∧ pr ≤ 9437300 := by omega
              rw [hpr] at Hst j6
              simp only [hpr]
              have HUp : Hid (∀ W, Fr (fun g => g = E ∨ g = X) wv W → W.ownsRow E 3 1 (.slice (some ⟨E, 0, none⟩) (n + 1) (n + 1)) (n + 1) (C0.set j (.int .i64 bp)) → W.ownsRow X 24 4 (.slice (some ⟨X, 0, none⟩) (n + 1) (n + 1)) (n + 1) (syc (S0.set j ⟨yk, yy, yl, yx⟩)) →
                  Fr (fun g => g = E ∨ g = X) w3 (((((W.setCell ⟨E, j, none⟩ (.int .i64 pr)).setCell ⟨X, j * 4, none⟩ (.int .i64 2)).setCell ⟨X, j * 4 + 1, none⟩ (.int .u8 0)).setCell ⟨X, j * 4 + 2, none⟩ (.int .i64 v)).setCell ⟨X, j * 4 + 3, none⟩ (.int .i64 d)) ∧
                  (((((W.setCell ⟨E, j, none⟩ (.int .i64 pr)).setCell ⟨X, j * 4, none⟩ (.int .i64 2)).setCell ⟨X, j * 4 + 1, none⟩ (.int .u8 0)).setCell ⟨X, j * 4 + 2, none⟩ (.int .i64 v)).setCell ⟨X, j * 4 + 3, none⟩ (.int .i64 d)).ownsRow E 3 1 (.slice (some ⟨E, 0, none⟩) (n + 1) (n + 1)) (n + 1) (C0.set j (.int .i64 pr)) ∧
                  (((((W.setCell ⟨E, j, none⟩ (.int .i64 pr)).setCell ⟨X, j * 4, none⟩ (.int .i64 2)).setCell ⟨X, j * 4 + 1, none⟩ (.int .u8 0)).setCell ⟨X, j * 4 + 2, none⟩ (.int .i64 v)).setCell ⟨X, j * 4 + 3, none⟩ (.int .i64 d)).ownsRow X 24 4 (.slice (some ⟨X, 0, none⟩) (n + 1) (n + 1)) (n + 1) (syc (S0.set j ⟨2, 0, (v : Int), (d : Int)⟩))) := fun W hW r1 r2 => by
                refine ⟨(((((HC.out.1.trans hW).setCell (p := ⟨E, j, none⟩) (.inl (.inl rfl)) _).setCell (p := ⟨X, j * 4, none⟩) (.inl (.inr rfl)) _).setCell (p := ⟨X, j * 4 + 1, none⟩) (.inl (.inr rfl)) _).setCell (p := ⟨X, j * 4 + 2, none⟩) (.inl (.inr rfl)) _).setCell (p := ⟨X, j * 4 + 3, none⟩) (.inl (.inr rfl)) _, ?_, ?_⟩
                · have := own_far (own_far (own_far (own_far (own_set r1 j (.int .i64 pr)) (p := ⟨X, j * 4, none⟩) hXE2 (.int .i64 2)) (p := ⟨X, j * 4 + 1, none⟩) hXE2 (.int .u8 0)) (p := ⟨X, j * 4 + 2, none⟩) hXE2 (.int .i64 v)) (p := ⟨X, j * 4 + 3, none⟩) hXE2 (.int .i64 d)
                  rw [List.set_set] at this
                  exact this
                · have := own_set (own_set (own_set (own_set (own_far r2 (p := ⟨E, j, none⟩) hXE1 (.int .i64 pr)) (j * 4) (.int .i64 2)) (j * 4 + 1) (.int .u8 0)) (j * 4 + 2) (.int .i64 v)) (j * 4 + 3) (.int .i64 d)
                  have e := syc_set (S0.set j ⟨yk, yy, yl, yx⟩) j ⟨2, 0, (v : Int), (d : Int)⟩
                  rw [List.set_set] at e
                  rw [← e]
                  exact this
              clear hpr
              rcases (by omega : pr < bp ∨ (pr = bp ∧ zb < v) ∨ (pr = bp ∧ ¬ zb < v) ∨ bp < pr) with hc | ⟨hc, hz⟩ | ⟨hc, hz⟩ | hc
              · have Hn : Hid (refIn R p d (t + 1 - (v + 1)) (v + 1) (⟨2, 0, (v : Int), (d : Int)⟩, pr) = refM R p b0 (t, d)) := by have := Hst.out; rw [if_pos (.inl hc)] at this; exact this
                have HPB : Hid (pr ≤ 9437193) := by have := HC.out.2.2.2.2.2.1; show _ ≤ _; omega
                clear Hst
                go_wp2_with fail
                go_roundw
                case rel =>
                  obtain ⟨u1, u2, u3⟩ := HUp.out (wv.drewN nq) ((Fr.refl _ _).drewN nq) (own_below HC.out.2.1 (below_drewN (Below.refl _ _) _)) (own_below HC.out.2.2.1 (below_drewN (Below.refl _ _) _))
                  exact ⟨v + 1, (⟨2, 0, (v : Int), (d : Int)⟩, pr), by go_num, by omega, by omega, Hn.out, u1, u2, u3, lenOk_two v d hv3, by show 0 ≤ pr; omega, HPB.out⟩
                case measure => simp [intOf]; omega
              · have Hn : Hid (refIn R p d (t + 1 - (v + 1)) (v + 1) (⟨2, 0, (v : Int), (d : Int)⟩, pr) = refM R p b0 (t, d)) := by have := Hst.out; rw [if_pos (.inr ⟨hc, hz⟩)] at this; exact this
                have HPB : Hid (pr ≤ 9437193) := by have := HC.out.2.2.2.2.2.1; show _ ≤ _; omega
                subst hc
                have hz' : (zb : Int) < (v : Int) := by omega
                clear Hst
                go_wp2_with fail
                refine (HLe.out _).mono ?_
                rintro e wl ⟨rfl, hbl⟩
                have hbl' : Below wv.heap.size wv wl := bup (below_drewN (Below.refl _ _) _) hbl
                have r1 := own_below HC.out.2.1 hbl'
                have r2 := own_below HC.out.2.2.1 hbl'
                have Hl := Lib.hid (And.intro (Fr.of_below' (Fr.refl (fun g => g = E ∨ g = X) wv) hbl') (And.intro r1 r2))
                obtain ⟨m0', m1'⟩ := HMe.out wl (HC.out.1.of_below' hbl')
                have hsv : (S0.set j ⟨yk, yy, yl, yx⟩)[j]? = some ⟨yk, yy, yl, yx⟩ := List.getElem?_set_self (by have := HC.out.2.2.2.2.2.2.1; omega)
                obtain ⟨g0, g1, g2, g3⟩ := syc_get hsv
                have s0' := (r2.cellAt (g := X) (cap := n + 1) (j * 4) (by omega)).trans g0
                have s1' := (r2.cellAt (g := X) (cap := n + 1) (j * 4 + 1) (by omega)).trans g1
                have s2' := (r2.cellAt (g := X) (cap := n + 1) (j * 4 + 2) (by omega)).trans g2
                have s3' := (r2.cellAt (g := X) (cap := n + 1) (j * 4 + 3) (by omega)).trans g3
                have f0' := r2.frozenAt (g := X) (cap := n + 1) (j * 4)
                have f1' := r2.frozenAt (g := X) (cap := n + 1) (j * 4 + 1)
                have f2' := r2.frozenAt (g := X) (cap := n + 1) (j * 4 + 2)
                have f3' := r2.frozenAt (g := X) (cap := n + 1) (j * 4 + 3)
                have e0' := (r1.cellAt (g := E) (cap := n + 1) j (by omega)).trans (List.getElem?_set_self (by have := HC.out.2.2.2.2.2.2.2; omega))
                have ef' := r1.frozenAt (g := E) (cap := n + 1) j
                have hxl' : X < wl.heap.size := (own_lt r2 (g := X) rfl).2
                have hel' : E < wl.heap.size := (own_lt r1 (g := E) rfl).2
                clear s0 s1 s2 s3 f0 f1 f2 f3 e0 e1 ef hxl hel m0 m1 hbl hbl' r1 r2 g0 g1 g2 g3 hsv
                go_wp2_with fail
                go_roundw
                case rel =>
                  obtain ⟨u1, u2, u3⟩ := HUp.out wl Hl.out.1 Hl.out.2.1 Hl.out.2.2
                  exact ⟨v + 1, (⟨2, 0, (v : Int), (d : Int)⟩, pr), by go_num, by omega, by omega, Hn.out, u1, u2, u3, lenOk_two v d hv3, by show 0 ≤ pr; omega, HPB.out⟩
                case measure => simp [intOf]; omega
              · have Hn : Hid (refIn R p d (t + 1 - (v + 1)) (v + 1) (⟨yk, yy, yl, yx⟩, bp) = refM R p b0 (t, d)) := by have := Hst.out; rw [if_neg (by omega)] at this; exact this
                have hc0 : ¬ pr < bp := by omega
                have hc1 : (pr == bp) = true := by simp [hc]
                have hz' : ¬ (zb : Int) < (v : Int) := by omega
                clear Hst HUp
                go_wp2_with fail
                refine (HLe.out _).mono ?_
                rintro e wl ⟨rfl, hbl⟩
                have hbl' : Below wv.heap.size wv wl := bup (below_drewN (Below.refl _ _) _) hbl
                have Hl := Lib.hid (And.intro (HC.out.1.of_below' hbl') (And.intro (own_below HC.out.2.1 hbl') (own_below HC.out.2.2.1 hbl')))
                clear s0 s1 s2 s3 f0 f1 f2 f3 e0 e1 ef hxl hel m0 m1 hbl hbl'
                go_wp2_with fail
                go_roundw
                case rel =>
                  exact ⟨v + 1, (⟨yk, yy, yl, yx⟩, bp), by go_num, by omega, by omega, Hn.out, Hl.out.1, Hl.out.2.1, Hl.out.2.2, HC.out.2.2.2.1, HC.out.2.2.2.2.1, HC.out.2.2.2.2.2.1⟩
                case measure => simp [intOf]; omega
              · have Hn : Hid (refIn R p d (t + 1 - (v + 1)) (v + 1) (⟨yk, yy, yl, yx⟩, bp) = refM R p b0 (t, d)) := by have := Hst.out; rw [if_neg (by omega)] at this; exact this
                have hc0 : ¬ pr < bp := by omega
                have hc1 : (pr == bp) = false := beq_eq_false_iff_ne.2 (by omega)
                clear Hst HUp
                go_wp2_with fail
                go_roundw
                case rel =>
                  exact ⟨v + 1, (⟨yk, yy, yl, yx⟩, bp), by go_num, by omega, by omega, Hn.out, HC.out.1.drewN nq, own_below HC.out.2.1 (below_drewN (Below.refl _ _) _), own_below HC.out.2.2.1 (below_drewN (Below.refl _ _) _), HC.out.2.2.2.1, HC.out.2.2.2.2.1, HC.out.2.2.2.2.2.1⟩
                case measure => simp [intOf]; omega
            · have hvt' : ¬ (v : Int) ≤ (t : Int) := by omega
              have hve : v = t + 1 := by omega
              have He : Hid (b = refM R p b0 (t, d)) := by
                have := HB.out.1
                rw [hve, Nat.sub_self] at this
                exact this
              go_wp2_with fail
              go_roundw
              case rel =>
                refine ⟨q + 1, by go_num, by omega, ?_⟩
                rw [Hnx.out, ← He.out]
                exact HB.out.2
              case measure => simp [intOf]; omega
        · have hq' : q = ms.length := by omega
          have hge : ¬ (q : Int) < (ms.length : Int) := by omega
          obtain ⟨v1, v2, v3, v4, v5, v6⟩ := HQ.out
          rw [hq', List.take_length, ← Hpl2.out] at v2 v3
          rw [Hpl.out.2.1] at v2
          rw [Hpl.out.2.2.1] at v3
          have HV := Lib.hid (And.intro v1 (And.intro v2 v3))
          clear v1 v2 v3 v4 v5 v6 HQ
          go_wp2_with fail
          go_roundw
          case rel =>
            obtain ⟨v1, v2, v3⟩ := HV.out
            obtain ⟨g1, g2, g3, g4, g5, g6, g7⟩ := H3.out
            have hB0 := HB0.out
            exact ⟨k + 1, (j : Int) - 1, by go_num, by omega, by omega, g1.fr v1 (fun h0 ad' had e => by have := hadB.out h0 ad' had; omega), g2.fr v1 (by omega), g3.trans (v1.below g3.size (fun g e => by omega)), v2, v3⟩
          case measure => simp [intOf]
    · obtain rfl : k = n := by omega
      have hneg : ¬ (0 : Int) ≤ xi := by omega
      obtain ⟨q1, q2, q3, q4, q5⟩ := HJ.out
      obtain ⟨wJ, rfl⟩ : ∃ wJ, wJ = wr := ⟨_, rfl⟩
      obtain ⟨G, hG⟩ : ∃ G, wJ.heap.size = G := ⟨_, rfl⟩
      have hXG : X < G := by have := (own_lt q5 (g := X) rfl).2; omega
      obtain ⟨T, hT⟩ : ∃ T, (fun p => (planT l hi di p).1) = T := ⟨_, rfl⟩
      have HT0 : Hid (planL l fr hi di = pathGo T hi (hi - fr) fr) := by rw [← hT]; rfl
      have HTy : Hid (∀ p, p < hi → p + ysz (T p) ≤ hi ∧ planY (T p)) := fun p hp => by rw [← hT]; exact ⟨planT_ysz l hi di p hp, planT_Y l hi di p hp hd.2⟩
      have HTb : Hid (∀ a, a < k + 1 → (bestX (planR l hi di k) fr (k + 1))[a]? = some (T (fr + a))) := fun a ha => by
        rw [bestX_get _ _ _ _ ha, ← hT, planR_T l hi di k (fr + a) (by omega)]
      obtain ⟨S1, hS1⟩ : ∃ S1, bestX (planR l hi di k) fr (k + 1) = S1 := ⟨_, rfl⟩
      rw [hS1] at q5 HTb
      obtain ⟨PL, hPL⟩ : ∃ PL, planL l fr hi di = PL := ⟨_, rfl⟩
      rw [hPL] at HT0
      have HPL := Lib.hid hPL
      have H5 := Lib.hid (And.intro q3 q5)
      have HG := Lib.hid hG
      clear hT hPL hG hS1 q1 q2 q3 q4 q5 HJ hxk hki hk
      go_wp2_with fail
      go_loopw [15, 16] (fun s15 s16 wr => ∃ (a : Nat) (acc : List Sy) (L : Option Addr) (lc : Nat), s15 = .slice L acc.length lc ∧ s16 = .int .i64 (a : Int) ∧ a ≤ k ∧ acc.length ≤ a ∧ Hid (PL = acc ++ pathGo T hi (hi - (fr + a)) (fr + a) ∧ wr.ownsRow G 24 4 (.slice L acc.length lc) acc.length (syc acc) ∧ wr.ownsRow X 24 4 (.slice (some ⟨X, 0, none⟩) (k + 1) (k + 1)) (k + 1) (syc S1) ∧ Below w.heap.size w wr ∧ G ≤ wr.heap.size)) (fun _ s16 _ => k - (intOf s16).toNat)
      case atStart => exact ⟨0, [], none, 0, rfl, rfl, Nat.zero_le _, Nat.zero_le _, HT0.out, World.ownsRow_nil _ _ _ _, H5.out.2, H5.out.1, by have := HG.out; omega⟩
      case round =>
        obtain ⟨a, acc, L, lc, rfl, rfl, hak, haa, HK⟩ := hrel
        by_cases hlt : a < k
        · have hlt' : (a : Int) < (k : Int) := by omega
          have hlt'' : (a : Int) < (k : Int) + 1 := by omega
          obtain ⟨k1, k2, k3, k4, k5⟩ := HK.out
          have hpa : fr + a < hi := by omega
          rw [path_step T hi (fr + a) hpa] at k1
          obtain ⟨hz, hpy⟩ := HTy.out (fr + a) hpa
          have hg := HTb.out a (by omega)
          obtain ⟨g0, g1, g2, g3⟩ := syc_get hg
          have hyp := ysz_pos (T (fr + a))
          have hle := planY_len hpy
          obtain ⟨y, hy⟩ : ∃ y, T (fr + a) = y := ⟨_, rfl⟩
          rw [hy] at k1 hz g0 g1 g2 g3 hyp hle
          obtain ⟨z, hzz⟩ : ∃ z, ysz y = z := ⟨_, rfl⟩
          rw [hzz] at k1 hz hyp hle
          obtain ⟨yk, yy, yl, yx⟩ := y
          simp only [] at g0 g1 g2 g3 hle
          have b0 := (k3.cellAt (g := X) (cap := k + 1) (a * 4) (by omega)).trans g0
          have b1 := (k3.cellAt (g := X) (cap := k + 1) (a * 4 + 1) (by omega)).trans g1
          have b2 := (k3.cellAt (g := X) (cap := k + 1) (a * 4 + 2) (by omega)).trans g2
          have b3 := (k3.cellAt (g := X) (cap := k + 1) (a * 4 + 3) (by omega)).trans g3
          have HG4 := Lib.hid (And.intro g0 (And.intro g1 (And.intro g2 g3)))
          have HK2 := Lib.hid (And.intro k2 (And.intro k3 (And.intro k4 k5)))
          have HP : Hid (PL = (acc ++ [⟨yk, yy, yl, yx⟩]) ++ pathGo T hi (hi - (fr + (a + z))) (fr + (a + z))) := by
            show _ = _
            rw [k1, List.append_assoc]
            rw [show fr + a + z = fr + (a + z) by omega]
            rfl
          have HSz := Lib.hid (fun (W : World) => lengthR_any yk yl yx yy W)
          rw [hle] at HSz
          have hsc : syc (acc ++ [⟨yk, yy, yl, yx⟩]) = syc acc ++ syc [⟨yk, yy, yl, yx⟩] := syc_append _ _
          have Hsc := Lib.hid hsc
          have hGw := k5
          clear k1 k2 k3 k4 k5 HK hg g0 g1 g2 g3 hsc hzz hy hle hpy
          go_upto_region 29 with (at_builtin; refine wpList_append_rd (w := wr.alloc (.cells #[.int .i64 yk, .int .u8 (yy.toNat : Int), .int .i64 yl, .int .i64 yx] 24)) rfl (.tmp 137) (.tmp 142) 22 rfl G 24 i0 _ 4 32 Tryd.underlying22 hi0 hz0 hz1 hz2 rfl (by decide) (.slice L acc.length lc) acc.length (syc acc) rfl (HK2.out.1.alloc _) (some ⟨wr.heap.size, 0, none⟩) 1 1 (syc [⟨yk, yy, yl, yx⟩]) rfl (Rd.of_blk (Blk.new _ _ _) rfl rfl) (syc_one _) (by simp only [maxLen]; omega) (by omega) (by simp; omega) ?_; intro L2 lc2 we hown hg hat)
          obtain ⟨k2, k3, k4, k5⟩ := HK2.out
          have hFe : Fr (fun g => some g = (Value.slice L acc.length lc).ownBlock) wr we := ((Fr.refl _ wr).alloc _).grown hg (fun g hg' => .inl hg'.symm)
          have hol : ∀ g, some g = (Value.slice L acc.length lc).ownBlock → G ≤ g := fun g e => (own_lt k2 e.symm).1
          have k3e := own_fr k3 hFe (fun g hg' e => by have := hol _ e; have hq : X = g := Option.some.inj hg'; omega)
          have hB0 := HB0.out
          have k4e : Below w.heap.size w we := k4.trans (hFe.below k4.size (fun g e => by have := hol _ e; omega))
          have b0' := (k3e.cellAt (g := X) (cap := k + 1) (a * 4) (by omega)).trans HG4.out.1
          have b1' := (k3e.cellAt (g := X) (cap := k + 1) (a * 4 + 1) (by omega)).trans HG4.out.2.1
          have b2' := (k3e.cellAt (g := X) (cap := k + 1) (a * 4 + 2) (by omega)).trans HG4.out.2.2.1
          have b3' := (k3e.cellAt (g := X) (cap := k + 1) (a * 4 + 3) (by omega)).trans HG4.out.2.2.2
          rw [← Hsc.out] at hown
          have HE := Lib.hid (And.intro hown (And.intro k3e (And.intro k4e (show G ≤ we.heap.size from Nat.le_trans hGw hFe.size))))
          clear k2 k3 k4 k5 hFe hol k3e k4e hown hg hat b0 b1 b2 b3 HK2 HG4 hB0
          go_wp2_with fail
          refine (HSz.out _).mono ?_
          rintro en ws ⟨rfl, hbs⟩
          have Hbs := Lib.hid hbs
          clear hbs b0' b1' b2' b3'
          go_wp2_with fail
          go_roundw
          case rel =>
            obtain ⟨k2, k3, k4, k5⟩ := HE.out
            have hbs := Hbs.out
            refine ⟨a + z, acc ++ [⟨yk, yy, yl, yx⟩], L2, lc2, by rw [List.length_append]; rfl, by go_num, by omega, by rw [List.length_append]; simp only [List.length_cons, List.length_nil]; omega, HP.out, ?_, own_below k3 hbs, bup k4 hbs, Nat.le_trans k5 hbs.size⟩
            rw [List.length_append]
            exact own_below k2 hbs
          case measure => simp [intOf]; omega
        · have hge : ¬ (a : Int) < (k : Int) := by omega
          obtain ⟨k1, k2, k3, k4, k5⟩ := HK.out
          rw [path_done T hi (fr + a) (by omega), List.append_nil] at k1
          have HF := Lib.hid (And.intro k1 (And.intro k2 k4))
          clear k1 k2 k3 k4 k5 HK
          go_wp2_with fail
          go_ret2
          obtain ⟨rfl, k2, k4⟩ := HF.out
          rw [HPL.out]
          have hB0 := HB0.out
          exact ⟨L, lc, rfl, own_mono k2 (by have := HG.out; omega), k4⟩
set_option maxHeartbeats 4000000 in
theorem CheapR_no (A : Option Addr) (m c : Nat) (l : List UInt8) (fr hi di : Int) (s : St) (w : World) (h : In w A m l) (hmc : m ≤ c) (hm : m ≤ 1048576) (hne : rowE m fr hi di s ≠ 0) :
    Calls Tryd.prog 19 #[.agg (rfC A m c fr hi di), s.v] w fun e w' => e = .returned (.tuple #[.slice none 0 0, St.zero.v, .int .i64 (rowE m fr hi di s)]) ∧ Below w.heap.size w w' := by
  have HRi := Lib.hid (fun W => RightR_any s W)
  have hc := rowE_ne hne
  obtain ⟨E, hE⟩ : ∃ E, rowE m fr hi di s = E := ⟨_, rfl⟩
  rw [hE] at hc ⊢
  obtain ⟨B, hB⟩ : ∃ B, w.heap.size = B := ⟨_, rfl⟩
  obtain ⟨w1, hw1⟩ : ∃ w1, ((w.alloc (.cells #[.slice A m c, .int .i64 fr, .int .i64 hi, .int .i64 di] 50)).alloc (.cells #[.int .i64 s.n, .int .i64 s.a, .int .i64 s.b, .int .i64 s.c, .int .i64 s.d] 48)).alloc (.cells #[.int .i64 0, .int .i64 0, .int .i64 0, .int .i64 0, .int .i64 0] 48) = w1 := ⟨_, rfl⟩
  have hb1 : Below w.heap.size w w1 := by rw [← hw1]; exact (((Below.refl _ _).alloc (Nat.le_refl _) _).alloc (by simp) _).alloc (by simp only [World.size_alloc]; omega) _
  have hP1 : Blk w1 B 50 #[.slice A m c, .int .i64 fr, .int .i64 hi, .int .i64 di] := by rw [← hw1]; exact ((Blk.new_at hB.symm).alloc _).alloc _
  have hS1 : Blk w1 (B + 1) 48 #[.int .i64 s.n, .int .i64 s.a, .int .i64 s.b, .int .i64 s.c, .int .i64 s.d] := by rw [← hw1]; exact (Blk.new_at (by simp [hB])).alloc _
  have hT1 : Blk w1 (B + 1 + 1) 48 #[.int .i64 0, .int .i64 0, .int .i64 0, .int .i64 0, .int .i64 0] := by rw [← hw1]; exact Blk.new_at (by simp [hB])
  have HI := Lib.hid (And.intro hb1 (And.intro hS1 (And.intro hT1 hB)))
  obtain ⟨x0, x1, x2, x3⟩ := Blk.four hP1
  unfold St.v stC at HRi
  unfold St.v stC
  have HBel : Hid (∀ (W : World) (u0 u1 u2 u3 u4 : Value), Below w1.heap.size w1 W → Below w.heap.size w (((((W.setCell ⟨B + 1 + 1, 0, none⟩ u0).setCell ⟨B + 1 + 1, 1, none⟩ u1).setCell ⟨B + 1 + 1, 2, none⟩ u2).setCell ⟨B + 1 + 1, 3, none⟩ u3).setCell ⟨B + 1 + 1, 4, none⟩ u4)) := fun W u0 u1 u2 u3 u4 hW => by
    have hB : w.heap.size ≤ B + 1 + 1 := by have := HI.out.2.2.2; omega
    exact (((((bup HI.out.1 hW).setCell (p := ⟨B + 1 + 1, 0, none⟩) hB _).setCell (p := ⟨B + 1 + 1, 1, none⟩) hB _).setCell (p := ⟨B + 1 + 1, 2, none⟩) hB _).setCell (p := ⟨B + 1 + 1, 3, none⟩) hB _).setCell (p := ⟨B + 1 + 1, 4, none⟩) hB _
  rcases hc with ⟨h1, h2⟩ | ⟨h1, h2, h3⟩
  · have HN := Lib.hid (fun W => PlanR_no A m c fr hi di W h1)
    rw [h2]
    obtain ⟨R, hR⟩ : ∃ R, refE m fr hi di = R := ⟨_, rfl⟩
    rw [hR] at HN h1 ⊢
    have e1 : (R == 0) = false := by simp [h1]
    have e2 : (R != 0) = true := by simp [h1]
    unfold rfC at HN
    unfold rfC
    clear h1 h2 hE hR h hne hb1 hP1 hS1 hT1
    go_enter Tryd.func19, Tryd.ntmps19
    go_wp2_with fail
    clear hw1 hB
    refine (HN.out w1).mono ?_
    rintro e wa ⟨rfl, hba⟩
    obtain ⟨⟨t0, t1, t2, t3, t4⟩, ⟨f0, f1, f2, f3, f4⟩⟩ := st_five (HI.out.2.2.1.below hba)
    have hl := (HI.out.2.2.1.below hba).lt
    have HA := Lib.hid hba
    clear x0 x1 x2 x3 hba
    go_wp2_with fail
    exact bodyPost_ret (v := .tuple #[.slice none 0 0, .agg #[.int .i64 0, .int .i64 0, .int .i64 0, .int .i64 0, .int .i64 0], .int .i64 R]) (by simp [results, Tryd.results19, go_sem, *]) rfl ⟨rfl, HBel.out _ _ _ _ _ _ HA.out⟩
  · rw [h3]
    rw [decide_eq_false h2] at HRi
    obtain ⟨r1, r2, r3, r4, r5⟩ := refE_zero.1 h1
    obtain ⟨frn, rfl⟩ : ∃ n : Nat, fr = (n : Int) := ⟨fr.toNat, by omega⟩
    obtain ⟨hin, rfl⟩ : ∃ n : Nat, hi = (n : Int) := ⟨hi.toNat, by omega⟩
    have HN := Lib.hid (PlanR_ok A m c l frn hin di w1 (h.below hb1) hmc hm (by omega) (by omega) ⟨r4, r5⟩)
    unfold rfC at HN
    unfold rfC
    clear h1 h2 h3 hE h hne hb1 hP1 hS1 hT1
    go_enter Tryd.func19, Tryd.ntmps19
    go_wp2_with fail
    clear hw1 hB
    refine HN.out.mono ?_
    rintro e wa ⟨L, lc, rfl, hrow, hba⟩
    obtain ⟨⟨s0, s1, s2, s3, s4⟩, _⟩ := st_five (HI.out.2.1.below hba)
    have HA := Lib.hid hba
    clear x0 x1 x2 x3 hrow hba HN
    go_wp2_with fail
    refine (HRi.out wa).mono ?_
    rintro e wb ⟨rfl, hbb⟩
    have HB := Lib.hid (bup HA.out hbb)
    obtain ⟨⟨t0, t1, t2, t3, t4⟩, ⟨f0, f1, f2, f3, f4⟩⟩ := st_five (HI.out.2.2.1.below (bup HA.out hbb))
    have hl := (HI.out.2.2.1.below (bup HA.out hbb)).lt
    clear s0 s1 s2 s3 s4 hbb
    go_wp2_with fail
    exact bodyPost_ret (v := .tuple #[.slice none 0 0, .agg #[.int .i64 0, .int .i64 0, .int .i64 0, .int .i64 0, .int .i64 0], .int .i64 7]) (by simp [results, Tryd.results19, go_sem, *]) rfl ⟨rfl, HBel.out _ _ _ _ _ _ HB.out⟩
set_option maxHeartbeats 8000000 in
theorem CheapR_ok (A : Option Addr) (m c : Nat) (l : List UInt8) (fr hi : Nat) (di : Int) (s : St) (w : World) (h : In w A m l) (hmc : m ≤ c) (hm : m ≤ 1048576) (h1 : fr ≤ hi) (h2 : hi ≤ m) (hd : 1 ≤ di ∧ di ≤ 4294967295) (hs : s.right) :
    Calls Tryd.prog 19 #[.agg (rfC A m c fr hi di), s.v] w fun e w' => ∃ L lc, e = .returned (.tuple #[.slice L (cheapS l hi di fr s (planL l fr hi di)).1.length lc, (cheapS l hi di fr s (planL l fr hi di)).2.v, .int .i64 0]) ∧ w'.ownsRow w.heap.size 24 4 (.slice L (cheapS l hi di fr s (planL l fr hi di)).1.length lc) (cheapS l hi di fr s (planL l fr hi di)).1.length (syc (cheapS l hi di fr s (planL l fr hi di)).1) ∧ Below w.heap.size w w' := by
  obtain ⟨i0, hi0, hz0, hz1, hz2⟩ := info_parts infosy
  have HRi := Lib.hid (fun W => RightR_any s W)
  rw [decide_eq_true hs] at HRi
  have hfit := planL_fits l fr hi di hd.2 h1
  have hflen := fits_len hfit
  obtain ⟨R, hR⟩ : ∃ R, cheapS l hi di fr s (planL l fr hi di) = R := ⟨_, rfl⟩
  rw [hR]
  have Hs := Lib.hid hs
  obtain ⟨B, hB⟩ : ∃ B, w.heap.size = B := ⟨_, rfl⟩
  obtain ⟨w1, hw1⟩ : ∃ w1, ((w.alloc (.cells #[.slice A m c, .int .i64 fr, .int .i64 hi, .int .i64 di] 50)).alloc (.cells #[.int .i64 s.n, .int .i64 s.a, .int .i64 s.b, .int .i64 s.c, .int .i64 s.d] 48)).alloc (.cells #[.int .i64 0, .int .i64 0, .int .i64 0, .int .i64 0, .int .i64 0] 48) = w1 := ⟨_, rfl⟩
  have hb1 : Below w.heap.size w w1 := by rw [← hw1]; exact (((Below.refl _ _).alloc (Nat.le_refl _) _).alloc (by simp) _).alloc (by simp only [World.size_alloc]; omega) _
  have hP1 : Blk w1 B 50 #[.slice A m c, .int .i64 fr, .int .i64 hi, .int .i64 di] := by rw [← hw1]; exact ((Blk.new_at hB.symm).alloc _).alloc _
  have hS1 : Blk w1 (B + 1) 48 (stC s.n s.a s.b s.c s.d) := by rw [← hw1]; exact (Blk.new_at (by simp [hB])).alloc _
  have hT1 : Blk w1 (B + 1 + 1) 48 #[.int .i64 0, .int .i64 0, .int .i64 0, .int .i64 0, .int .i64 0] := by rw [← hw1]; exact Blk.new_at (by simp [hB])
  have hz : w1.heap.size = B + 3 := by rw [← hw1]; simp [hB]
  have hadB : Hid (0 < m → ∀ ad, A = some ad → ad.block < B) := by rw [← hB]; exact h.2.1
  have HI := Lib.hid (And.intro (h.below hb1) (And.intro hP1 (And.intro hS1 (And.intro hT1 (And.intro hb1 (And.intro hB hz))))))
  have HNm := Lib.hid (fun (p : Nat) (yk yl yx : Int) (yz : UInt8) (t : St) (W : World) (hW : In W A m l) (hp : p < hi) => namedR_any A m c l fr di hi p yk yl yx yz t W hW hm h2 hmc hp)
  have HN := Lib.hid (PlanR_ok A m c l fr hi di w1 (h.below hb1) hmc hm h1 h2 hd)
  obtain ⟨PL, hPL⟩ : ∃ PL, planL l fr hi di = PL := ⟨_, rfl⟩
  rw [hPL] at HN hR hfit hflen
  have HR := Lib.hid hR
  have Hfit := Lib.hid hfit
  obtain ⟨x0, x1, x2, x3⟩ := Blk.four hP1
  unfold rfC at HN HNm
  unfold rfC
  unfold St.v stC at HRi
  unfold St.v stC
  clear h hb1 hP1 hS1 hT1 hR hs hPL hfit
  go_enter Tryd.func19, Tryd.ntmps19
  go_wp2_with fail
  clear hw1 hB
  refine HN.out.mono ?_
  rintro e wa ⟨PA, pc, rfl, hrow, hba⟩
  obtain ⟨⟨s0, s1, s2, s3, s4⟩, _⟩ := st_five (HI.out.2.2.1.below hba)
  rw [hz] at hrow
  have HA := Lib.hid (And.intro hba hrow)
  clear x0 x1 x2 x3 hba hrow HN hz
  go_wp2_with fail
  refine (HRi.out wa).mono ?_
  rintro e wb ⟨rfl, hbb⟩
  have hb2 := bup HA.out.1 hbb
  obtain ⟨x0, x1, x2, x3⟩ := Blk.four (HI.out.2.1.below hb2)
  obtain ⟨D, hD⟩ : ∃ D, wb.heap.size = D := ⟨_, rfl⟩
  have H2 : Hid (Blk wb B 50 #[.slice A m c, .int .i64 fr, .int .i64 hi, .int .i64 di] ∧ Blk wb (B + 1) 48 (stC s.n s.a s.b s.c s.d) ∧ Blk wb (B + 1 + 1) 48 #[.int .i64 0, .int .i64 0, .int .i64 0, .int .i64 0, .int .i64 0] ∧ In wb A m l ∧ Below w.heap.size w wb ∧ wb.ownsRow (B + 3) 24 4 (.slice PA PL.length pc) PL.length (syc PL)) := ⟨HI.out.2.1.below hb2, HI.out.2.2.1.below hb2, HI.out.2.2.2.1.below hb2, HI.out.1.below hb2, bup HI.out.2.2.2.2.1 hb2, own_below HA.out.2 hbb⟩
  have hPB : Hid (∀ q, (Value.slice PA PL.length pc).ownBlock = some q → B + 3 ≤ q ∧ q < D) := fun q hq => by rw [← hD]; exact own_lt H2.out.2.2.2.2.2 hq
  have HDB : Hid (B + 3 ≤ D ∧ w.heap.size = B) := ⟨by rw [← hD]; have := hb2.size; have := HI.out.2.2.2.2.2.2; omega, HI.out.2.2.2.2.2.1⟩
  clear s0 s1 s2 s3 s4 hbb hb2 HA HI HRi
  go_wp2_with fail
  clear x0 x1 x2 x3
  go_loopw [9, 10, 11] (fun s9 s10 s11 wr => ∃ (p : Nat) (t : St) (done rest : List Sy) (L : Option Addr) (lc : Nat), s9 = .slice L done.length lc ∧ s10 = .int .i64 (p : Int) ∧ s11 = .int .i64 ((PL.length - rest.length : Nat) : Int) ∧ rest.length ≤ PL.length ∧ done.length = PL.length - rest.length ∧ PL.drop (PL.length - rest.length) = rest ∧ Hid (t.right ∧ fits hi p rest ∧ R = (done ++ (cheapS l hi di p t rest).1, (cheapS l hi di p t rest).2) ∧ Blk wr (B + 1) 48 (stC t.n t.a t.b t.c t.d) ∧ Blk wr (B + 1 + 1) 48 #[.int .i64 0, .int .i64 0, .int .i64 0, .int .i64 0, .int .i64 0] ∧ Blk wr B 50 #[.slice A m c, .int .i64 fr, .int .i64 hi, .int .i64 di] ∧ In wr A m l ∧ wr.ownsRow D 24 4 (.slice L done.length lc) done.length (syc done) ∧ wr.ownsRow (B + 3) 24 4 (.slice PA PL.length pc) PL.length (syc PL) ∧ Below w.heap.size w wr ∧ D ≤ wr.heap.size)) (fun _ _ s11 _ => PL.length - (intOf s11).toNat)
  case atStart => exact ⟨fr, s, [], PL, none, 0, rfl, rfl, by rw [Nat.sub_self]; rfl, Nat.le_refl _, by simp, by simp, Hs.out, Hfit.out, by rw [List.nil_append]; exact HR.out.symm, H2.out.2.1, H2.out.2.2.1, H2.out.1, H2.out.2.2.2.1, World.ownsRow_nil _ _ _ _, H2.out.2.2.2.2.2, H2.out.2.2.2.2.1, by omega⟩
  case round =>
    clear H2 hD HR Hfit
    obtain ⟨p, t, done, rest, L, lc, rfl, rfl, rfl, hrl, hdl, hdr, HJ⟩ := hrel
    obtain ⟨k, hk⟩ : ∃ k, PL.length - rest.length = k := ⟨_, rfl⟩
    rw [hk] at hdl hdr ⊢
    by_cases hlt : k < PL.length
    · cases rest with
      | nil => simp only [List.length_nil] at hk; omega
      | cons y rest =>
        obtain ⟨i1, i2, i3, i4, i5, i6, i7, i8, i9, i10, i11⟩ := HJ.out
        obtain ⟨hY, i2⟩ := i2
        have hple := fits_le i2
        have hyp := ysz_pos y
        have hgy : PL[k]? = some y := by
          have : (PL.drop k)[0]? = some y := by rw [hdr]; rfl
          simpa using this
        have hdr2 : PL.drop (k + 1) = rest := by
          rw [← List.drop_drop, hdr]; rfl
        have hlr : rest.length + 1 + k = PL.length := by simp only [List.length_cons] at hk hrl; omega
        obtain ⟨hok1, hok2⟩ := toldP_ok l hi di p y t hY i1
        have hle := told_len l hi di p y t hY
        have hTo := HNm.out p y.k y.l y.x y.y t
        have hNx := NextR_fn t (toldP l hi di p y t)
        have hrt := nextS_right hok1
        rw [hok1] at hNx
        simp only [cheapS] at i3
        have hye : (⟨y.k, y.y, y.l, y.x⟩ : Sy) = y := rfl
        rw [hye] at hTo
        obtain ⟨tv, htv⟩ : ∃ tv, toldP l hi di p y t = tv := ⟨_, rfl⟩
        rw [htv] at hTo hNx hrt i3 hle
        obtain ⟨u, hu⟩ : ∃ u, nextS t tv = u := ⟨_, rfl⟩
        rw [hu] at hNx hrt i3
        obtain ⟨z, hz⟩ : ∃ z, ysz y = z := ⟨_, rfl⟩
        rw [hz] at i2 hple hyp i3 hle
        have HR2 : Hid (R = ((done ++ [tv]) ++ (cheapS l hi di (p + z) u rest).1, (cheapS l hi di (p + z) u rest).2)) := by
          show _ = _
          rw [i3, List.append_assoc]; rfl
        have Hrt := Lib.hid (And.intro hrt i2)
        obtain ⟨g, rfl⟩ := own_g i9 (by omega)
        obtain ⟨g0, g1, g2, g3⟩ := syc_get hgy
        obtain ⟨yk, yy, yl, yx⟩ := y
        have hsc : syc (done ++ [tv]) = syc done ++ syc [tv] := syc_append _ _
        obtain ⟨vk, vy, vl, vx⟩ := tv
        obtain ⟨tn, ta, tb, tc, td⟩ := t
        obtain ⟨un, ua, ub, uc, ud⟩ := u
        unfold St.v Sy.v Sy.cs stC at hTo
        unfold stC at hNx
        unfold stC at i4
        simp only [] at hNx hTo i4 g0 g1 g2 g3 hle
        have e0 := (i9.cellAt (g := g) (cap := pc) (k * 4) (by omega)).trans g0
        have e1 := (i9.cellAt (g := g) (cap := pc) (k * 4 + 1) (by omega)).trans g1
        have e2 := (i9.cellAt (g := g) (cap := pc) (k * 4 + 2) (by omega)).trans g2
        have e3 := (i9.cellAt (g := g) (cap := pc) (k * 4 + 3) (by omega)).trans g3
        obtain ⟨⟨b0, b1, b2, b3, b4⟩, _⟩ := st_five i4
        obtain ⟨x0, x1, x2, x3⟩ := Blk.four i6
        have HTo := Lib.hid (fun (W : World) (hW : Below wr.heap.size wr W) => hTo W (i7.below hW) (by omega))
        have HNx := Lib.hid hNx
        have HSz := Lib.hid (fun (W : World) => lengthR_any vk vl vx vy W)
        rw [hle] at HSz
        have HJ2 := Lib.hid (And.intro i4 (And.intro i5 (And.intro i6 (And.intro i7 (And.intro i8 (And.intro i9 (And.intro i10 i11)))))))
        have Hsc := Lib.hid hsc
        have Hg4 := Lib.hid (And.intro g0 (And.intro g1 (And.intro g2 g3)))
        have hlt' : (k : Int) < (PL.length : Int) := by omega
        have hPb := hPB.out g rfl
        clear i1 i2 i3 i4 i5 i6 i7 i8 i9 i10 i11 HJ hok1 hok2 hNx hTo hrt hz hu htv hY g0 g1 g2 g3 hle hsc hye hgy hdr
        have HCe : Hid (∀ W, Below wr.heap.size wr W → W.cell? ⟨B, 0, none⟩ = some (.slice A m c) ∧ W.cell? ⟨B, 1, none⟩ = some (.int .i64 fr) ∧ W.cell? ⟨B, 2, none⟩ = some (.int .i64 hi) ∧ W.cell? ⟨B, 3, none⟩ = some (.int .i64 di) ∧ W.cell? ⟨g, k * 4, none⟩ = some (.int .i64 yk) ∧ W.cell? ⟨g, k * 4 + 1, none⟩ = some (.int .u8 (yy.toNat : Int)) ∧ W.cell? ⟨g, k * 4 + 2, none⟩ = some (.int .i64 yl) ∧ W.cell? ⟨g, k * 4 + 3, none⟩ = some (.int .i64 yx) ∧ W.cell? ⟨B + 1, 0, none⟩ = some (.int .i64 tn) ∧ W.cell? ⟨B + 1, 1, none⟩ = some (.int .i64 ta) ∧ W.cell? ⟨B + 1, 2, none⟩ = some (.int .i64 tb) ∧ W.cell? ⟨B + 1, 3, none⟩ = some (.int .i64 tc) ∧ W.cell? ⟨B + 1, 4, none⟩ = some (.int .i64 td)) := fun W hW => by
          obtain ⟨x0, x1, x2, x3⟩ := Blk.four (HJ2.out.2.2.1.below hW)
          obtain ⟨⟨b0, b1, b2, b3, b4⟩, _⟩ := st_five (HJ2.out.1.below hW)
          have k6 := own_below HJ2.out.2.2.2.2.2.1 hW
          exact ⟨x0, x1, x2, x3, (k6.cellAt (g := g) (cap := pc) (k * 4) (by omega)).trans Hg4.out.1, (k6.cellAt (g := g) (cap := pc) (k * 4 + 1) (by omega)).trans Hg4.out.2.1, (k6.cellAt (g := g) (cap := pc) (k * 4 + 2) (by omega)).trans Hg4.out.2.2.1, (k6.cellAt (g := g) (cap := pc) (k * 4 + 3) (by omega)).trans Hg4.out.2.2.2, b0, b1, b2, b3, b4⟩
        have hk0 : (0 : Int) ≤ (k : Int) := by omega
        have hsz : done.length ≤ 1048576 := by omega
        have Hdl := Lib.hid hdl
        clear hdl
        go_upto_region 11 with (fail)
        go_cut [12] from 37 to 44 (fun s12 wy => ∃ T, s12 = .pointer (some ⟨T, 0, none⟩) ∧ Hid (wr.heap.size ≤ T ∧ Blk wy T 24 #[.int .i64 vk, .int .u8 (vy.toNat : Int), .int .i64 vl, .int .i64 vx] ∧ Below wr.heap.size wr wy))
        case first =>
          have HB4 : Hid (∀ (wn : World) (u0 u1 u2 u3 : Value), Below wr.heap.size wr wn → Below wr.heap.size wr ((((wn.setCell ⟨wr.heap.size, 0, none⟩ u0).setCell ⟨wr.heap.size, 1, none⟩ u1).setCell ⟨wr.heap.size, 2, none⟩ u2).setCell ⟨wr.heap.size, 3, none⟩ u3)) := fun wn u0 u1 u2 u3 hb =>
            (((hb.setCell (p := ⟨wr.heap.size, 0, none⟩) (Nat.le_refl _) _).setCell (p := ⟨wr.heap.size, 1, none⟩) (Nat.le_refl _) _).setCell (p := ⟨wr.heap.size, 2, none⟩) (Nat.le_refl _) _).setCell (p := ⟨wr.heap.size, 3, none⟩) (Nat.le_refl _) _
          go_region_held3 (fun W => W.cell? ⟨B, 0, none⟩ = some (.slice A m c) ∧ W.cell? ⟨B, 1, none⟩ = some (.int .i64 fr) ∧ W.cell? ⟨B, 2, none⟩ = some (.int .i64 hi) ∧ W.cell? ⟨B, 3, none⟩ = some (.int .i64 di) ∧ W.cell? ⟨g, k * 4, none⟩ = some (.int .i64 yk) ∧ W.cell? ⟨g, k * 4 + 1, none⟩ = some (.int .u8 (yy.toNat : Int)) ∧ W.cell? ⟨g, k * 4 + 2, none⟩ = some (.int .i64 yl) ∧ W.cell? ⟨g, k * 4 + 3, none⟩ = some (.int .i64 yx) ∧ W.cell? ⟨B + 1, 0, none⟩ = some (.int .i64 tn) ∧ W.cell? ⟨B + 1, 1, none⟩ = some (.int .i64 ta) ∧ W.cell? ⟨B + 1, 2, none⟩ = some (.int .i64 tb) ∧ W.cell? ⟨B + 1, 3, none⟩ = some (.int .i64 tc) ∧ W.cell? ⟨B + 1, 4, none⟩ = some (.int .i64 td))
            (first | (with_reducible exact HCe.out _ (Below.refl _ _).drew) | (with_reducible exact HCe.out _ ((Below.refl _ wr).alloc (Nat.le_refl _) _).drew) | (with_reducible exact HCe.out _ hb34) | (with_reducible exact HCe.out _ (bmk hb34 _)) | (with_reducible exact HCe.out _ (HB4.out _ _ _ _ _ hb34)))
            (first | (go_at_call 53; refine (HTo.out _ (by first | (with_reducible exact (Below.refl _ _).drew) | (with_reducible exact ((Below.refl _ wr).alloc (Nat.le_refl _) _).drew))).mono ?_; rintro en wn ⟨rfl, hbn⟩; have hb34 : Below wr.heap.size wr wn := (by first | (with_reducible exact bd1 hbn) | (with_reducible exact bd2 hbn)); (try (have hz : Blk wn wr.heap.size 24 #[.int .i64 0, .int .u8 0, .int .i64 0, .int .i64 0] := (by with_reducible exact (Blk.new wr 24 #[.int .i64 0, .int .u8 0, .int .i64 0, .int .i64 0]).drew.below hbn); have z0 := hz.cell 0; have z1 := hz.cell 1; have z2 := hz.cell 2; have z3 := hz.cell 3; have q0 := hz.frozen 0; have q1 := hz.frozen 1; have q2 := hz.frozen 2; have q3 := hz.frozen 3; have ql := hz.lt))))
          all_goals go_wp2_with fail
          all_goals go_meet
          · exact ⟨_, rfl, hb34.size, Blk.new _ _ _, bmk hb34 _⟩
          · exact ⟨_, rfl, Nat.le_refl _, (((hz.set_ 0 _).set_ 1 _).set_ 2 _).set_ 3 _, HB4.out _ _ _ _ _ hb34⟩
        case rest =>
          obtain ⟨Yb, rfl, hT⟩ := hcut
          obtain ⟨wd, rfl⟩ : ∃ w0, w0 = wc := ⟨_, rfl⟩
          have Hd : Hid (Below wr.heap.size wr wd ∧ Blk wd Yb 24 #[.int .i64 vk, .int .u8 (vy.toNat : Int), .int .i64 vl, .int .i64 vx] ∧ wr.heap.size ≤ Yb) := ⟨hT.out.2.2, hT.out.2.1, hT.out.1⟩
          obtain ⟨v0, v1, v2, v3⟩ := hT.out.2.1.four
          have hDw : D ≤ wd.heap.size := Nat.le_trans HJ2.out.2.2.2.2.2.2.2 Hd.out.1.size
          clear b0 b1 b2 b3 b4 e0 e1 e2 e3 x0 x1 x2 x3 hT HCe HTo Hg4
          go_upto_region 13 with (at_builtin; refine wpList_append_rd (w := wd.alloc (.cells #[.int .i64 vk, .int .u8 (vy.toNat : Int), .int .i64 vl, .int .i64 vx] 24)) rfl (.tmp 45) (.tmp 47) 22 rfl D 24 i0 _ 4 32 Tryd.underlying22 hi0 hz0 hz1 hz2 rfl (by decide) (.slice L done.length lc) done.length (syc done) rfl ((own_below HJ2.out.2.2.2.2.1 Hd.out.1).alloc _) (some ⟨wd.heap.size, 0, none⟩) 1 1 (syc [⟨vk, vy, vl, vx⟩]) rfl (Rd.of_blk (Blk.new _ _ _) rfl rfl) (syc_one _) (by simp only [maxLen]; omega) (by omega) (by simp; omega) ?_; intro L2 lc2 we hown hg hat)
          clear v0 v1 v2 v3
          obtain ⟨j2, j3, j4, j5, j6, j9, j7, j8⟩ := HJ2.out
          have hFe : Fr (fun g => some g = (Value.slice L done.length lc).ownBlock) wd we := ((Fr.refl _ wd).alloc _).grown hg (fun g hg' => .inl hg'.symm)
          have hol : ∀ g, some g = (Value.slice L done.length lc).ownBlock → D ≤ g ∧ g < wr.heap.size := fun g e => own_lt j6 e.symm
          obtain ⟨hFd, hYd, hYr⟩ := Hd.out
          obtain ⟨d1, d2⟩ := HDB.out
          have hB4 := (j2.below hFd).fr hFe (fun e => by have := hol _ e; omega)
          have hC4 := (j3.below hFd).fr hFe (fun e => by have := hol _ e; omega)
          have hP4 := (j4.below hFd).fr hFe (fun e => by have := hol _ e; omega)
          have hY4 := hYd.fr hFe (fun e => by have := hol _ e; omega)
          have hI4 : In we A m l := (j5.below hFd).fr hFe (fun h0 ad had e => by have := hol _ e; have := hadB.out h0 ad had; omega)
          have hL4 := own_fr (own_below j9 hFd) hFe (fun q hq e => by have := hol _ e; have := hPB.out q hq; omega)
          have hb4 : Below w.heap.size w we := (bup j7 hFd).trans (hFe.below (bup j7 hFd).size (fun g e => by have := hol _ e; omega))
          have hDe : D ≤ we.heap.size := by have := hFe.size; omega
          rw [← Hsc.out] at hown
          have HE := Lib.hid (And.intro hB4 (And.intro hC4 (And.intro hP4 (And.intro hY4 (And.intro hI4 (And.intro hb4 (And.intro hDe (And.intro hown hL4))))))))
          have hYD : Hid (D ≤ Yb) := by show _ ≤ _; omega
          obtain ⟨⟨b0, b1, b2, b3, b4⟩, _⟩ := st_five hB4
          obtain ⟨v0, v1, v2, v3⟩ := hY4.four
          clear j2 j3 j4 j5 j6 j7 j8 j9 hFe hol hFd hYd hYr d1 d2 hB4 hC4 hP4 hY4 hI4 hb4 hDe hown hg hat Hd hL4
          go_wp2_with fail
          refine (HNx.out we).mono ?_
          rintro e wf ⟨rfl, hbf⟩
          have HF2 : Hid (Blk wf (B + 1) 48 #[.int .i64 tn, .int .i64 ta, .int .i64 tb, .int .i64 tc, .int .i64 td] ∧ Blk wf (B + 1 + 1) 48 #[.int .i64 0, .int .i64 0, .int .i64 0, .int .i64 0, .int .i64 0] ∧ Blk wf B 50 #[.slice A m c, .int .i64 fr, .int .i64 hi, .int .i64 di] ∧ Blk wf Yb 24 #[.int .i64 vk, .int .u8 (vy.toNat : Int), .int .i64 vl, .int .i64 vx] ∧ In wf A m l ∧ Below w.heap.size w wf ∧ D ≤ wf.heap.size ∧ wf.ownsRow D 24 4 (.slice L2 (done.length + 1) lc2) (done.length + 1) (syc (done ++ [⟨vk, vy, vl, vx⟩])) ∧ wf.ownsRow (B + 3) 24 4 (.slice (some ⟨g, 0, none⟩) PL.length pc) PL.length (syc PL)) := by
            obtain ⟨e1, e2, e3, e4, e5, e6, e7, e8, e9⟩ := HE.out
            exact ⟨e1.below hbf, e2.below hbf, e3.below hbf, e4.below hbf, e5.below hbf, bup e6 hbf, Nat.le_trans e7 hbf.size, own_below e8 hbf, own_below e9 hbf⟩
          clear b0 b1 b2 b3 b4 v0 v1 v2 v3 HE hbf HNx
          obtain ⟨⟨b0, b1, b2, b3, b4⟩, ⟨f0, f1, f2, f3, f4⟩⟩ := st_five HF2.out.1
          have hBl := HF2.out.1.lt
          go_upto_region 14 with (fail)
          obtain ⟨wg, hwg⟩ : ∃ wg, ((((wf.setCell ⟨B + 1, 0, none⟩ (.int .i64 un)).setCell ⟨B + 1, 1, none⟩ (.int .i64 ua)).setCell ⟨B + 1, 2, none⟩ (.int .i64 ub)).setCell ⟨B + 1, 3, none⟩ (.int .i64 uc)).setCell ⟨B + 1, 4, none⟩ (.int .i64 ud) = wg := ⟨_, rfl⟩
          rw [hwg]
          have HG : Hid (Blk wg (B + 1) 48 (stC un ua ub uc ud) ∧ Blk wg (B + 1 + 1) 48 #[.int .i64 0, .int .i64 0, .int .i64 0, .int .i64 0, .int .i64 0] ∧ Blk wg B 50 #[.slice A m c, .int .i64 fr, .int .i64 hi, .int .i64 di] ∧ Blk wg Yb 24 #[.int .i64 vk, .int .u8 (vy.toNat : Int), .int .i64 vl, .int .i64 vx] ∧ In wg A m l ∧ Below w.heap.size w wg ∧ D ≤ wg.heap.size ∧ wg.ownsRow D 24 4 (.slice L2 (done.length + 1) lc2) (done.length + 1) (syc (done ++ [⟨vk, vy, vl, vx⟩])) ∧ wg.ownsRow (B + 3) 24 4 (.slice (some ⟨g, 0, none⟩) PL.length pc) PL.length (syc PL)) := by
            obtain ⟨e1, e2, e3, e4, e5, e6, e7, e8, e9⟩ := HF2.out
            have hFg : Fr (fun g => g = B + 1) wf wg := by
              rw [← hwg]
              exact (((((Fr.refl (fun g => g = B + 1) wf).setCell (p := ⟨B + 1, 0, none⟩) (.inl rfl) _).setCell (p := ⟨B + 1, 1, none⟩) (.inl rfl) _).setCell (p := ⟨B + 1, 2, none⟩) (.inl rfl) _).setCell (p := ⟨B + 1, 3, none⟩) (.inl rfl) _).setCell (p := ⟨B + 1, 4, none⟩) (.inl rfl) _
            have h5 := set5_st e1 un ua ub uc ud
            rw [hwg] at h5
            have d1 := HDB.out.1
            have d2 := HDB.out.2
            have d3 := hYD.out
            exact ⟨h5, e2.fr hFg (by omega), e3.fr hFg (by omega), e4.fr hFg (by omega), e5.fr hFg (fun h0 ad had e => by have := hadB.out h0 ad had; omega), e6.trans (hFg.below e6.size (fun g e => by omega)), Nat.le_trans e7 hFg.size, own_fr e8 hFg (fun g hg e => by have := (own_lt e8 hg).1; omega), own_fr e9 hFg (fun q hq e => by have := hPB.out q hq; omega)⟩
          clear b0 b1 b2 b3 b4 f0 f1 f2 f3 f4 hBl hwg HF2
          obtain ⟨v0, v1, v2, v3⟩ := HG.out.2.2.2.1.four
          go_wp2_with fail
          refine (HSz.out wg).mono ?_
          rintro e wh ⟨rfl, hbh⟩
          have HH : Hid (Below wg.heap.size wg wh) := hbh
          clear v0 v1 v2 v3 hbh
          have hzp : p + z ≤ 1048576 := by omega
          go_wp2_with fail
          go_roundw
          case rel =>
            obtain ⟨e1, e2, e3, e4, e5, e6, e7, e8, e9⟩ := HG.out
            have hbh := HH.out
            have hdl := Hdl.out
            refine ⟨p + z, ⟨un, ua, ub, uc, ud⟩, done ++ [⟨vk, vy, vl, vx⟩], rest, L2, lc2, by rw [List.length_append]; rfl, by go_num, by rw [show PL.length - rest.length = k + 1 by omega]; go_num, by omega, by rw [List.length_append]; simp only [List.length_cons, List.length_nil]; omega, by rw [show PL.length - rest.length = k + 1 by omega]; exact hdr2, Hrt.out.1, Hrt.out.2, HR2.out, e1.below hbh, e2.below hbh, e3.below hbh, e5.below hbh, ?_, own_below e9 hbh, bup e6 hbh, Nat.le_trans e7 hbh.size⟩
            rw [List.length_append]
            exact own_below e8 hbh
          case measure => simp [intOf]; omega
    · have hge : ¬ (k : Int) < (PL.length : Int) := by omega
      obtain ⟨j0, j1, i2, i4, i5, j4, j5, i7, j9, i8, j8⟩ := HJ.out
      clear hdl
      have hr0 : rest = [] := List.eq_nil_of_length_eq_zero (by omega)
      subst hr0
      obtain ⟨tn, ta, tb, tc, td⟩ := t
      simp only [cheapS, List.append_nil] at i2
      unfold stC at i4
      simp only [] at i4
      obtain ⟨⟨b0, b1, b2, b3, b4⟩, _⟩ := st_five i4
      obtain ⟨⟨c0, c1, c2, c3, c4⟩, ⟨f0, f1, f2, f3, f4⟩⟩ := st_five i5
      have hcl := i5.lt
      have HI2 := Lib.hid (And.intro i2 (And.intro i5 (And.intro i7 i8)))
      clear j0 j1 i2 i4 i5 j4 j5 i7 j9 i8 j8 HJ
      go_wp2_with fail
      go_region_with (fail)
      go_wp2_with fail
      obtain ⟨j2, j5, j7, j8⟩ := HI2.out
      have hFz : Fr (fun g => g = B + 1 + 1) wr ((((((wr.setCell ⟨B + 1 + 1, 0, none⟩ (.int .i64 tn)).setCell ⟨B + 1 + 1, 1, none⟩ (.int .i64 ta)).setCell ⟨B + 1 + 1, 2, none⟩ (.int .i64 tb)).setCell ⟨B + 1 + 1, 3, none⟩ (.int .i64 tc)).setCell ⟨B + 1 + 1, 4, none⟩ (.int .i64 td)).drew) :=
        ((((((Fr.refl (fun g => g = B + 1 + 1) wr).setCell (p := ⟨B + 1 + 1, 0, none⟩) (.inl rfl) _).setCell (p := ⟨B + 1 + 1, 1, none⟩) (.inl rfl) _).setCell (p := ⟨B + 1 + 1, 2, none⟩) (.inl rfl) _).setCell (p := ⟨B + 1 + 1, 3, none⟩) (.inl rfl) _).setCell (p := ⟨B + 1 + 1, 4, none⟩) (.inl rfl) _).drew
      obtain ⟨d1, d2⟩ := HDB.out
      refine bodyPost_ret (v := .tuple #[.slice L done.length lc, .agg #[.int .i64 tn, .int .i64 ta, .int .i64 tb, .int .i64 tc, .int .i64 td], .int .i64 0]) (by simp [results, Tryd.results19, go_sem, Act.put, *]) rfl ?_
      rw [j2]
      exact ⟨L, lc, rfl, own_mono (own_fr j7 hFz (fun g hg e => by have := (own_lt j7 hg).1; omega)) (by omega), j8.trans (hFz.below j8.size (fun g e => by omega))⟩
end Go.Proofs.YthlflcnpmabmbaaDoor
