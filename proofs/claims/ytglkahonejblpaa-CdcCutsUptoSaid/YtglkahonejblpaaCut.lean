/-
  Walk of Cut: it answers the pieces' ends. Conditions: the data lie in memory.
-/
import Derived.Test.YtglkahonejblpaaRange
import Derived.Maps.OwnIn
namespace Go.Proofs.Ytglkahonejblpaa
open Go.RowKit Go.Shelf
attribute [local go_sem] Oper.semAt_some

theorem infoint : (Try.prog.info? 3).map (fun i => (i.zero, i.size, i.bytes)) = some (some (.int .i64 0), 1, 8) := by kernel_rfl
def nis (l : List Nat) : List Value := l.map fun (x : Nat) => Value.int .i64 (x : Int)
theorem nis_append (l r : List Nat) : nis (l ++ r) = nis l ++ nis r := by simp [nis]
theorem nis_length (l : List Nat) : (nis l).length = l.length := by simp [nis]
theorem nis_one (l : List Nat) : ∀ u ∈ nis l, u.oneCell' = true := by
  intro u h
  simp only [nis, List.mem_map] at h
  obtain ⟨x, _, rfl⟩ := h
  rfl
theorem ends_any (A : Option Addr) (m c : Nat) (least most bits : Int) (w : World) : Calls Try.prog 32 #[.slice A m c, .agg #[.int .i64 least, .int .i64 most, .int .i64 bits]] w fun e w' =>
    e = .returned (.func (.func 37) #[] #[.pointer (some ⟨w.heap.size + 1, 0, none⟩), .pointer (some ⟨w.heap.size, 0, none⟩)]) ∧ w' = (w.alloc (.cells #[.slice A m c] 32)).alloc (.cells #[.int .i64 least, .int .i64 most, .int .i64 bits] 23) := by
  go_enter Try.func32, Try.ntmps32
  go_wp2
  go_ret
  exact ⟨rfl, rfl⟩
def CutPost (cuts : List Nat) (er : Int) (w : World) (e : Ending) (w' : World) : Prop :=
  ∃ L lc, e = .returned (.tuple #[.slice L cuts.length lc, .int .i64 er]) ∧ w'.ownsRow w.heap.size 3 1 (.slice L cuts.length lc) cuts.length (nis cuts) ∧ Below w.heap.size w w'
set_option maxRecDepth 100000 in
set_option maxHeartbeats 4000000 in
theorem Cut_yes (A : Option Addr) (m c : Nat) (l : List UInt8) (least most bits : Int) (w : World) (hI : In w A m l) (hmc : m ≤ c) (hm : m ≤ 17179869184) (hok : CutsOk least most bits) :
    Calls Try.prog 18 #[.slice A m c, .agg #[.int .i64 least, .int .i64 most, .int .i64 bits]] w (CutPost (cutsL least most bits l) 0 w) := by
  obtain ⟨i0, hi0, hz0, hz1, hz2⟩ := info_parts infoint
  refine (callsIn_wide (n := 3)).1 ?_
  refine callsIn_of_wp_marks Try.func18 rfl trivial ?_ rfl
  simp only [Try.ntmps18, List.size_toArray, List.length_cons, List.length_nil, Nat.reduceAdd, Nat.reduceSub, Array.replicate_succ, Array.replicate_zero, List.push_toArray, List.append_toArray, List.nil_append, List.cons_append]
  have HL := Lib.hid (Legal_any least most bits (w.alloc (.cells #[.int .i64 least, .int .i64 most, .int .i64 bits] 23)))
  gi_wp2
  refine ⟨trivial, ?_⟩
  refine (callsIn_wide.2 HL.out).mono ?_
  rintro e w1 ⟨rfl, hb1⟩
  rw [if_pos hok]
  have hbw : Below w.heap.size w w1 := bup ((Below.refl _ _).alloc (Nat.le_refl _) _) hb1
  have hcx := (Blk.new w 23 #[.int .i64 least, .int .i64 most, .int .i64 bits]).below hb1
  obtain ⟨c0, c1, c2⟩ : w1.cell? ⟨w.heap.size, 0, none⟩ = some (.int .i64 least) ∧ w1.cell? ⟨w.heap.size, 1, none⟩ = some (.int .i64 most) ∧ w1.cell? ⟨w.heap.size, 2, none⟩ = some (.int .i64 bits) := ⟨hcx.cell 0, hcx.cell 1, hcx.cell 2⟩
  have hcl := hcx.lt
  have Hbw := Lib.hid hbw
  clear hb1 hbw hcx
  gi_wp2
  refine ⟨trivial, ?_⟩
  refine (callsIn_wide.2 (ends_any A m c least most bits _)).mono ?_
  rintro e w2 ⟨rfl, rfl⟩
  gi_wp2
  obtain ⟨D, hD⟩ : ∃ D, w1.heap.size + 3 = D := ⟨_, rfl⟩
  obtain ⟨wS, hwS⟩ : ∃ wS, ((w1.alloc (.cells #[.slice none 0 0] 46)).alloc (.cells #[.slice A m c] 32)).alloc (.cells #[.int .i64 least, .int .i64 most, .int .i64 bits] 23) = wS := ⟨_, rfl⟩
  have hsz : wS.heap.size = D := by rw [← hwS, ← hD]; simp
  have hx0 : Blk wS w1.heap.size 46 #[.slice none 0 0] := by rw [← hwS]; exact ((Blk.new _ _ _).alloc _).alloc _
  have hx1 : Blk wS (w1.heap.size + 1) 32 #[.slice A m c] := by rw [← hwS]; exact (Blk.new_at (by simp)).alloc _
  have hx2 : Blk wS (w1.heap.size + 2) 23 #[.int .i64 least, .int .i64 most, .int .i64 bits] := by rw [← hwS]; exact Blk.new_at (by simp)
  have hbS : Below w.heap.size w wS := by rw [← hwS]; exact bmk_ (bmk_ (bmk_ Hbw.out _) _) _
  have hw1 : w.heap.size ≤ w1.heap.size := Hbw.out.size
  have hIS : In wS A m l := hI.below hbS
  rw [hwS]
  have HX := Lib.hid (And.intro hx0 (And.intro hx1 (And.intro hx2 (And.intro hbS hIS))))
  have HI := Lib.hid hI
  clear hx0 hx1 hx2 hbS hIS hwS hI
  refine range_on (n := 3) (by omega) (gf := 37) (lb := #[.pointer (some ⟨w1.heap.size + 2, 0, none⟩), .pointer (some ⟨w1.heap.size + 1, 0, none⟩)]) rfl (enters_of Try.func37 (by kernel_rfl) rfl) rfl
    (fun pre W => ∃ L lc, Blk W w1.heap.size 46 #[.slice L pre.length lc] ∧ W.ownsRow (D + 3) 3 1 (.slice L pre.length lc) pre.length (nis pre) ∧ Below w.heap.size w W)
    (fun g => g = D + 2 ∨ g = w1.heap.size + 2 ∨ g = w1.heap.size + 1 ∨ (0 < m ∧ ∃ ad, A = some ad ∧ g = ad.block)) m (cutsL least most bits l) D hsz ?kk ?i1 ?i2 ⟨none, 0, HX.out.1, World.ownsRow_nil _ _ _ _, HX.out.2.2.2.1⟩ ?iter
    (fun x => { tmps := #[.slice A m c, .agg #[.int .i64 least, .int .i64 most, .int .i64 bits], undef, .pointer (some ⟨w.heap.size, 0, none⟩), .slice none 0 0, .int .i64 0, .int .i64 0, .pointer (some ⟨w1.heap.size, 0, none⟩), .int .i64 (x : Int), .agg #[.int .i64 least, .int .i64 most, .int .i64 bits], .int .i64 0, .int .i64 0, .bool false, undef, .slice A m c, .agg #[.int .i64 least, .int .i64 most, .int .i64 bits], .func (.func 37) #[] #[.pointer (some ⟨w1.heap.size + 1 + 1, 0, none⟩), .pointer (some ⟨w1.heap.size + 1, 0, none⟩)], .int .i64 (x : Int), undef, undef, undef, undef, undef], defers := [] }) ?assign ?body ?done
  case kk =>
    rintro g (h | h | h | ⟨h0, ad, had, h⟩)
    · omega
    · omega
    · omega
    · have := HI.out.2.1 h0 ad had; omega
  case i1 =>
    rintro pre W W' ⟨L, lc, h1, h2, h3⟩ hF
    exact ⟨L, lc, h1.fr hF (by omega), own_fr h2 hF (fun g hg e => by have := (own_lt h2 hg).1; omega), h3.trans (hF.below h3.size (fun k e => by omega))⟩
  case i2 =>
    rintro pre W W' ⟨L, lc, h1, h2, h3⟩ hF
    exact ⟨L, lc, h1.fr hF (by omega), own_fr h2 hF (fun g hg e => by have := (own_lt h2 hg).1; omega), h3.trans (hF.below h3.size (fun k e => by omega))⟩
  case iter =>
    intro J r hJ0 hJf hY
    have hsz2 : ((wS.alloc (.deferred (some []))).alloc (.loop r)).heap.size = D + 2 := by simp [hsz]
    have hbl : Below wS.heap.size wS ((wS.alloc (.deferred (some []))).alloc (.loop r)) := ((Below.refl _ _).alloc (Nat.le_refl _) _).alloc (by simp) _
    exact ends1_in 2 (by omega) (D + 1) (w1.heap.size + 2) (w1.heap.size + 1) least most bits hok A m c l J _ (HX.out.2.2.1.below hbl) (HX.out.2.1.below hbl) (HX.out.2.2.2.2.below hbl) hmc hJ0 (by rw [hsz2]; exact hJf) (by rw [hsz2]; exact hY)
  case assign =>
    intro x W R hR
    gi_wp2
    exact hR
  case body =>
    rintro pre x W ⟨L, lc, h1, h2, h3⟩ hx hln hDlt
    have v0 : W.cell? ⟨w1.heap.size, 0, none⟩ = some (.slice L pre.length lc) := h1.cell 0
    have hbt : ∀ g, (Value.slice L pre.length lc).ownBlock = some g → g ≠ w1.heap.size := fun g hg => (own_bt h2 hg).ne ⟨_, h1⟩ (by decide)
    have H1 := Lib.hid h1
    have H2 := Lib.hid h2
    have H3 := Lib.hid h3
    have Hbt := Lib.hid hbt
    obtain ⟨k, hk⟩ : ∃ k, pre.length = k := ⟨_, rfl⟩
    rw [hk] at v0 H1 H2 Hbt hln
    have hcl1 : w1.heap.size < W.heap.size := by omega
    clear h1 h2 h3 hbt
    gi_wp2_with (gi_at_builtin; refine wpListIn_append_own_at (w := W.alloc (.cells #[.int .i64 (x : Int)] 3)) rfl (.tmp 18) (.tmp 20) 46 rfl (D + 3) 3 i0 _ 1 8 Try.underlying46 hi0 hz0 hz1 hz2 rfl (by decide) (.slice L k lc) k (nis pre) rfl (H2.out.alloc _) ⟨W.heap.size, 0, none⟩ 1 1 [.int .i64 (x : Int)] rfl rfl (cell_one_new _ _ _) (by simp [Value.oneCell']) (by simp only [maxLen]; omega) (by omega) (by simp; omega) ?_; intro v' w2 hown2 hg2 hnil2 hat2; obtain ⟨g', cap', rfl⟩ := ownsRow_succ hown2; have hb2 := (H1.out.alloc (.cells #[.int .i64 (x : Int)] 3)).same (hg2.block w1.heap.size (by simp; omega) (fun e => Hbt.out _ e.symm rfl)); have hc1 := hb2.cell 0; have hf1 := hb2.frozen 0; have hlt1 := hb2.lt)
    have hF : Fr (fun q => q = w1.heap.size ∨ some q = (Value.slice L k lc).ownBlock) W (w2.setCell ⟨w1.heap.size, 0, none⟩ (.slice (some ⟨g', 0, none⟩) (k + 1) cap')) := (((Fr.refl _ W).alloc _).grown hg2 (fun q hq => .inl (.inr hq.symm))).setCell (p := ⟨w1.heap.size, 0, none⟩) (.inl (.inl rfl)) _
    have hout : ∀ q, q < D + 3 → q ≠ w1.heap.size → ¬ (q = w1.heap.size ∨ some q = (Value.slice L k lc).ownBlock) := fun q hq hne e => by
      rcases e with e | e
      · exact hne e
      · have := (own_lt H2.out e.symm).1; omega
    have hpl : (pre ++ [x]).length = k + 1 := by rw [List.length_append, hk]; rfl
    refine ⟨hF.block D (by omega) (hout D (by omega) (by omega)), hF.block (D + 1) (by omega) (hout _ (by omega) (by omega)), ⟨some ⟨g', 0, none⟩, cap', ?_, ?_, ?_⟩, hF.size, ?_⟩
    · rw [hpl]; exact hb2.set_ 0 _
    · rw [hpl, nis_append]; exact own_far hown2 (p := ⟨w1.heap.size, 0, none⟩) (own_ne hown2 hb2 (by decide)) _
    · refine H3.out.trans (hF.below H3.out.size (fun q e => ?_))
      rcases e with e | e
      · omega
      · have := (own_lt H2.out e.symm).1; omega
    · rintro q (e | e | e | ⟨e0, ad, had, e⟩)
      · exact hF.block q (by omega) (hout q (by omega) (by omega))
      · exact hF.block q (by omega) (hout q (by omega) (by omega))
      · exact hF.block q (by omega) (hout q (by omega) (by omega))
      · have := HI.out.2.1 e0 ad had
        exact hF.block q (by omega) (hout q (by omega) (by omega))
  case done =>
    rintro W ⟨L, lc, h1, h2, h3⟩ hM
    have v0 : W.cell? ⟨w1.heap.size, 0, none⟩ = some (.slice L (cutsL least most bits l).length lc) := h1.cell 0
    gi_wp2
    refine ⟨by simp, .inl ⟨_, _, rfl, run_takeDeferred hM, ?_⟩⟩
    refine ⟨.tuple #[.slice L (cutsL least most bits l).length lc, .int .i64 0], by simp [results, Try.results18, go_sem], L, lc, rfl, own_mono (ownsRow_putObj h2 _ hM rfl) (by omega), ?_⟩
    exact h3.trans (((Fr.refl (fun k => k = D) W).put_ rfl _).below h3.size (fun q e => by omega))
theorem Cut_no (A : Option Addr) (m c : Nat) (least most bits : Int) (w : World) (hok : ¬ CutsOk least most bits) :
    Calls Try.prog 18 #[.slice A m c, .agg #[.int .i64 least, .int .i64 most, .int .i64 bits]] w (CutPost [] 6 w) := by
  have HL := Lib.hid (Legal_any least most bits (w.alloc (.cells #[.int .i64 least, .int .i64 most, .int .i64 bits] 23)))
  go_enter Try.func18, Try.ntmps18
  go_wp2_with fail
  refine HL.out.mono ?_
  rintro e w1 ⟨rfl, hb1⟩
  rw [if_neg hok]
  have Hbw : Hid (Below w.heap.size w w1) := bup ((Below.refl _ _).alloc (Nat.le_refl _) _) hb1
  clear hb1
  go_wp2_with fail
  go_ret2
  exact ⟨none, 0, rfl, World.ownsRow_nil _ _ _ _, Hbw.out⟩
/-- the ends of the pieces, of any cuts -/
def cutsAny (least most bits : Int) (l : List UInt8) : List Nat := if CutsOk least most bits then cutsL least most bits l else []
theorem Cut_any (A : Option Addr) (m c : Nat) (l : List UInt8) (least most bits : Int) (w : World) (hI : In w A m l) (hmc : m ≤ c) (hm : m ≤ 17179869184) :
    Calls Try.prog 18 #[.slice A m c, .agg #[.int .i64 least, .int .i64 most, .int .i64 bits]] w (CutPost (cutsAny least most bits l) (if CutsOk least most bits then 0 else 6) w) := by
  unfold cutsAny
  by_cases hok : CutsOk least most bits
  · rw [if_pos hok, if_pos hok]
    exact Cut_yes A m c l least most bits w hI hmc hm hok
  · rw [if_neg hok, if_neg hok]
    exact Cut_no A m c least most bits w hok
end Go.Proofs.Ytglkahonejblpaa
