/-
  Walks of the document's Cut and Pieces. Conditions: the bytes lie in memory; legal cuts.
-/
import Derived.Test.YtglkahonejblpaaRef1
import Derived.Test.YtglkahonejblpaaSizesM
import Derived.Deep.CutBlock
namespace Go.Proofs.Ytglkahonejblpaa
open Go.RowKit

section
variable (least most bits : Int)
/-- the piece so far, and the ends that are still to come -/
def curL (l : List UInt8) (f j : Nat) : List UInt8 := (l.drop f).take (j - f)
def stL (l : List UInt8) (f j : Nat) : List Nat := endsB least most bits j (rollL 0 (curL l f j)) (curL l f j).length (decide (curL l f j ≠ [])) (l.drop j)
theorem curL_nil (l : List UInt8) (j : Nat) : curL l j j = [] := by simp [curL]
theorem curL_len (l : List UInt8) (f j : Nat) (hf : f ≤ j) (hj : j ≤ l.length) : (curL l f j).length = j - f := by
  rw [curL, List.length_take, List.length_drop]; omega
theorem curL_next (l : List UInt8) (f j : Nat) (z : UInt8) (hf : f ≤ j) (hz : l[j]? = some z) : curL l f (j + 1) = curL l f j ++ [z] := by
  unfold curL
  have h1 := (List.getElem?_eq_some_iff.1 hz).1
  rw [show j + 1 - f = (j - f) + 1 by omega, List.take_add_one, List.getElem?_drop, show f + (j - f) = j by omega, hz]
  rfl
theorem stL_yes (hok : CutsOk least most bits) (l : List UInt8) (f j : Nat) (hf : f ≤ j) (hj : j < l.length) (hm : ((j : Int) - f) < most) (h : endsR least most bits (curL l f (j + 1)) = true ∨ j + 1 = l.length) : stL least most bits l f j = (j + 1) :: stL least most bits l (j + 1) (j + 1) := by
  obtain ⟨z, hz⟩ : ∃ z, l[j]? = some z := ⟨_, List.getElem?_eq_getElem hj⟩
  have hd : l.drop j = z :: l.drop (j + 1) := by
    obtain ⟨h1, h2⟩ := List.getElem?_eq_some_iff.1 hz
    rw [List.drop_eq_getElem_cons h1, h2]
  have hlen := curL_len l f (j + 1) (by omega) (by omega)
  have hE := endsR_here least most bits hok (curL l f (j + 1)) (by rw [hlen]; omega) (by intro e; rw [e] at hlen; simp at hlen; omega)
  have hn := curL_next l f j z hf hz
  unfold stL
  rw [curL_nil, hd, endsB, ← rollL_snoc, ← hn]
  have hl2 : (curL l f j).length + 1 = (curL l f (j + 1)).length := by rw [hn]; simp
  rw [hl2]
  by_cases hh : here least most bits (rollL 0 (curL l f (j + 1))) (curL l f (j + 1)).length
  · rw [if_pos hh]; rfl
  · rw [if_neg hh]
    rcases h with h | h
    · rw [decide_eq_false hh] at hE
      rw [hE] at h
      cases h
    · rw [List.drop_of_length_le (show l.length ≤ j + 1 by omega)]
      simp [endsB]
theorem stL_no (hok : CutsOk least most bits) (l : List UInt8) (f j : Nat) (hf : f ≤ j) (hj : j < l.length) (hm : ((j : Int) - f) < most) (h : endsR least most bits (curL l f (j + 1)) = false) : stL least most bits l f j = stL least most bits l f (j + 1) ∧ ((j + 1 : Nat) : Int) - f < most := by
  obtain ⟨z, hz⟩ : ∃ z, l[j]? = some z := ⟨_, List.getElem?_eq_getElem hj⟩
  have hd : l.drop j = z :: l.drop (j + 1) := by
    obtain ⟨h1, h2⟩ := List.getElem?_eq_some_iff.1 hz
    rw [List.drop_eq_getElem_cons h1, h2]
  have hlen := curL_len l f (j + 1) (by omega) (by omega)
  have hne : curL l f (j + 1) ≠ [] := by intro e; rw [e] at hlen; simp at hlen; omega
  have hE := endsR_here least most bits hok (curL l f (j + 1)) (by rw [hlen]; omega) hne
  rw [h] at hE
  have hh : ¬ here least most bits (rollL 0 (curL l f (j + 1))) (curL l f (j + 1)).length := fun hh => by rw [decide_eq_true hh] at hE; cases hE
  have hn := curL_next l f j z hf hz
  have hl2 : (curL l f j).length + 1 = (curL l f (j + 1)).length := by rw [hn]; simp
  refine ⟨?_, ?_⟩
  · unfold stL
    rw [hd, endsB, ← rollL_snoc, ← hn, hl2, if_neg hh, decide_eq_true hne]
  · obtain ⟨k1, k2, k3, k4, k5⟩ := hok
    have : ¬ (least ≤ (((curL l f (j + 1)).length : Nat) : Int) ∧ (((curL l f (j + 1)).length : Nat) : Int) = most) := fun ⟨h1, h2⟩ => hh ⟨h1, .inl h2⟩
    rw [hlen] at this
    omega
theorem endsR_long (hok : CutsOk least most bits) (l : List UInt8) (h : endsR least most bits l = true) : 64 ≤ l.length := by
  obtain ⟨k1, k2, k3, k4, k5⟩ := hok
  unfold endsR at h
  by_cases h1 : (l.length : Int) < least
  · rw [if_pos h1] at h; cases h
  · omega
end
set_option maxHeartbeats 4000000 in
set_option maxRecDepth 100000 in
theorem RCut_yes (A : Option Addr) (m c : Nat) (l : List UInt8) (least most bits : Int) (w : World) (hI : In w A m l) (hmc : m ≤ c) (hm : m ≤ 1099511627776) (hok : CutsOk least most bits) :
    Calls Try.prog 24 #[.slice A m c, .agg #[.int .i64 least, .int .i64 most, .int .i64 bits]] w fun e w' => ∃ (L : Option Addr) (lc q : Nat), e = .returned (.tuple #[.slice L q lc, .int .i64 0]) ∧ (cutsL least most bits l).length = q ∧ 64 * q ≤ m + 64 ∧ w'.ownsRow w.heap.size 3 1 (.slice L q lc) q (nis (cutsL least most bits l)) ∧ Below w.heap.size w w' := by
  obtain ⟨i0, hi0, hz0, hz1, hz2⟩ := info_parts infoint
  obtain ⟨w0, hw0⟩ : ∃ w0, w.alloc (.cells #[.int .i64 least, .int .i64 most, .int .i64 bits] 23) = w0 := ⟨_, rfl⟩
  have Hb0 : Hid (Below w.heap.size w w0) := by rw [← hw0]; exact bmk_ (Below.refl _ _) _
  obtain ⟨Z, hZ⟩ : ∃ Z, w.heap.size = Z := ⟨_, rfl⟩
  have HX : Hid (Blk w0 Z 23 #[.int .i64 least, .int .i64 most, .int .i64 bits]) := by rw [← hw0, ← hZ]; exact Blk.new _ _ _
  have HC : Hid (∀ W : World, Below w0.heap.size w0 W → W.cell? ⟨Z, 0, none⟩ = some (.int .i64 least) ∧ W.cell? ⟨Z, 1, none⟩ = some (.int .i64 most) ∧ W.cell? ⟨Z, 2, none⟩ = some (.int .i64 bits)) := fun W hW => ⟨(HX.out.below hW).cell 0, (HX.out.below hW).cell 1, (HX.out.below hW).cell 2⟩
  have HI : Hid (In w0 A m l) := hI.below Hb0.out
  have Hlen := Lib.hid hI.len
  have hz0' : Z < w0.heap.size := HX.out.lt
  obtain ⟨x0, x1, x2⟩ := HC.out w0 (Below.refl _ _)
  obtain ⟨cl, hcl⟩ : ∃ cl, cutsL least most bits l = cl := ⟨_, rfl⟩
  rw [hcl]
  have HS : Hid (stL least most bits l 0 0 = cl) := by
    rw [← hcl]
    unfold stL
    rw [curL_nil]
    exact (cutsAt_endsB least most bits l _ 0 (Nat.le_refl _)).symm
  have HLg := Lib.hid (RLegal_any least most bits w0)
  rw [if_pos hok] at HLg
  have Hok := Lib.hid hok
  obtain ⟨k1, k2, k3, k4, k5⟩ := hok
  clear hI hcl
  go_enter Try.func24, Try.ntmps24
  go_wp2_with fail
  refine HLg.out.mono ?_
  rintro e w1 ⟨rfl, hb1⟩
  have Hb1 : Hid (Below w0.heap.size w0 w1) := hb1
  clear hb1 HLg x0 x1 x2
  go_upto_block 0 with (fail)
  go_wp2_with fail
  go_loopw [6, 7, 8] (fun s6 s7 s8 wr => ∃ (L : Option Addr) (lc k f j i : Nat) (out : List Nat), s6 = .slice L k lc ∧ s7 = .int .i64 (f : Int) ∧ s8 = .int .i64 (i : Int) ∧ i ≤ j + 1 ∧ j + 1 ≤ i ∧ f ≤ j ∧ j ≤ m ∧ (j < m → 64 * k ≤ f) ∧ 64 * k ≤ f + 64 ∧ (j = m → f = m) ∧ (j : Int) - f < most ∧
    Hid (wr.ownsRow w0.heap.size 3 1 (.slice L k lc) k (nis out)) ∧ Hid (out.length = k) ∧ Hid (Below w0.heap.size w0 wr) ∧ Hid (out ++ stL least most bits l f j = cl)) (fun _ _ s8 _ => m + 1 - (intOf s8).toNat)
  case atStart => exact ⟨none, 0, 0, 0, 0, 1, [], rfl, rfl, rfl, by omega, by omega, Nat.le_refl _, Nat.zero_le _, fun _ => Nat.le_refl _, by omega, fun h => h, by omega, World.ownsRow_nil _ _ _ _, rfl, Hb1, HS⟩
  case round => as_aux_lemma =>
    clear HS Hb1
    obtain ⟨L, lc, k, f, j, i, out, rfl, rfl, rfl, hi1, hi2, hfj, hjm, hk1, hk2, hfm, hfmo, HO, HOl, Hb, HS⟩ := hrel
    obtain ⟨x0, x1, x2⟩ := HC.out wr Hb.out
    have hzr : Z < wr.heap.size := by have := Hb.out.size; omega
    have Hij : Hid (i = j + 1) := Nat.le_antisymm hi1 hi2
    have Hk1 := Lib.hid hk1
    have Hfm := Lib.hid hfm
    clear hk1 hfm
    by_cases hlt : j < m
    · have hlt1 : (i : Int) ≤ (m : Int) := by omega
      have hlt2 : i ≤ m := by omega
      have hfc : f ≤ i ∧ i ≤ c ∧ f ≤ c ∧ f ≤ m := by omega
      have hfc' : (f : Int) ≤ (i : Int) ∧ (i : Int) ≤ (c : Int) := by omega
      obtain ⟨A2, hA2⟩ : ∃ A2, (if c = f then A else A.map (·.add f)) = A2 := ⟨_, rfl⟩
      have hI4 := ((HI.out.below Hb.out).cut (k := f) (by omega) hmc).take (k := i - f) (by omega)
      rw [hA2] at hI4
      have HI4 : Hid (In wr A2 (i - f) (curL l f i)) := hI4
      obtain ⟨E, hE⟩ : ∃ E, endsR least most bits (curL l f i) = E := ⟨_, rfl⟩
      have HE := Lib.hid hE
      have Hlong : Hid (E = true → 64 ≤ i - f) := fun h => by
        have := endsR_long least most bits Hok.out _ (hE.trans h)
        rwa [curL_len l f i (by omega) (by rw [Hlen.out]; omega)] at this
      have HRE := Lib.hid (fun (W : World) (hW : Below wr.heap.size wr W) => Rends_any least most bits A2 (i - f) (c - f) (curL l f i) W (HI4.out.below hW) Hok.out)
      rw [hE] at HRE
      clear hI4 hE
      obtain ⟨b, hb⟩ : ∃ b : Bool, (E || decide (i = m)) = b := ⟨_, rfl⟩
      go_upto_region 8 with (fail)
      go_cut [29] (fun s29 wy => s29 = .bool b ∧ Hid (Below wr.heap.size wr wy))
      case first => as_aux_lemma =>
        cases E
        · rw [Bool.false_or] at hb
          subst hb
          have Hdd : Hid (decide ((i : Int) = (m : Int)) = decide (i = m)) := decide_eq_decide.2 (by omega)
          go_region_held3 (fun w' => w'.cell? ⟨Z, 0, none⟩ = some (.int .i64 least) ∧ w'.cell? ⟨Z, 1, none⟩ = some (.int .i64 most) ∧ w'.cell? ⟨Z, 2, none⟩ = some (.int .i64 bits))
            (first | (with_reducible exact ⟨x0, x1, x2⟩) | (with_reducible exact ⟨p0, p1, p2⟩) | go_keep)
            ((go_at_call 31; refine (HRE.out _ (by first | (with_reducible exact (Below.refl _ _)) | (with_reducible exact (Below.refl _ _).drew))).mono ?_; rintro en wp ⟨rfl, hbp1⟩; have hbp : Below wr.heap.size wr wp := bup (by first | (with_reducible exact (Below.refl _ _)) | (with_reducible exact (Below.refl _ _).drew)) hbp1; obtain ⟨p0, p1, p2⟩ := HC.out wp (bup Hb.out hbp)))
          all_goals go_wp2_with fail
          all_goals go_meet
          all_goals exact ⟨by first | rfl | exact congrArg Value.bool Hdd.out, hbp⟩
        · rw [Bool.true_or] at hb
          subst hb
          first | (go_region_with (go_at_call 31; refine (HRE.out _ (by first | (with_reducible exact (Below.refl _ _)) | (with_reducible exact (Below.refl _ _).drew))).mono ?_; rintro en wp ⟨rfl, hbp1⟩; have hbp : Below wr.heap.size wr wp := bup (by first | (with_reducible exact (Below.refl _ _)) | (with_reducible exact (Below.refl _ _).drew)) hbp1)) | (fail)
          all_goals go_wp2_with fail
          all_goals go_meet
          all_goals exact ⟨rfl, hbp⟩
      case rest => as_aux_lemma =>
        obtain ⟨rfl, Hc⟩ := hcut
        obtain ⟨w2, rfl⟩ : ∃ w2 : World, w2 = wc := ⟨_, rfl⟩
        have HO2 := Lib.hid (own_below HO.out Hc.out)
        have Hb2 : Hid (Below w0.heap.size w0 w2) := bup Hb.out Hc.out
        have Hsz := Lib.hid Hb2.out.size
        clear x0 x1 x2 HRE HI4 Hc HO
        have Hb := Lib.hid hb
        clear hb
        cases b
        · have HF : Hid (stL least most bits l f j = stL least most bits l f i ∧ (i : Int) - f < most ∧ ¬ i = m) := by
            obtain ⟨hE0, hj0⟩ := Bool.or_eq_false_iff.1 Hb.out
            have h1 := stL_no least most bits Hok.out l f j hfj (by rw [Hlen.out]; exact hlt) hfmo (by rw [← Hij.out, HE.out]; exact hE0)
            rw [← Hij.out] at h1
            exact ⟨h1.1, h1.2, of_decide_eq_false hj0⟩
          have HS2 : Hid (out ++ stL least most bits l f i = cl) := by rw [← HF.out.1]; exact HS.out
          clear HS
          go_wp2_with fail
          go_roundw
          case rel => exact ⟨L, lc, k, f, i, i + 1, out, rfl, rfl, by go_num, Nat.le_refl _, Nat.le_refl _, by omega, hlt2, fun _ => Hk1.out hlt, hk2, fun h => absurd h HF.out.2.2, HF.out.2.1, HO2, HOl, Hb2, HS2⟩
          case measure => simp [intOf]; omega
        · have HEm : Hid (E = true ∨ i = m) := by
            rcases Bool.or_eq_true_iff.1 Hb.out with h | h
            · exact .inl h
            · exact .inr (of_decide_eq_true h)
          have HS2 : Hid ((out ++ [i]) ++ stL least most bits l i i = cl) := by
            have h1 := stL_yes least most bits Hok.out l f j hfj (by rw [Hlen.out]; exact hlt) hfmo (by rw [← Hij.out, HE.out, Hlen.out]; exact HEm.out)
            rw [← Hij.out] at h1
            rw [List.append_assoc, List.singleton_append, ← h1]
            exact HS.out
          have Hkk : Hid (i < m → 64 * (k + 1) ≤ i) := fun h => by
            have h1 := Hlong.out (by rcases HEm.out with h2 | h2; exact h2; omega)
            have := Hk1.out hlt
            omega
          have hkk2 : 64 * (k + 1) ≤ i + 64 := by have := Hk1.out hlt; omega
          clear HS
          go_wp2_with (at_builtin; refine wpList_append_rd (w := w2.alloc (.cells #[.int .i64 (i : Int)] 3)) rfl (.tmp 30) (.tmp 32) 46 rfl w0.heap.size 3 i0 _ 1 8 Try.underlying46 hi0 hz0 hz1 hz2 rfl (by decide) (.slice L k lc) k (nis out) rfl (HO2.out.alloc _) (some ⟨w2.heap.size, 0, none⟩) 1 1 (nis [i]) rfl ⟨rfl, fun _ => ⟨_, rfl, World.news_of_block (heap_alloc_new w2 _)⟩⟩ (nis_one _) (by simp only [maxLen]; omega) (by omega) (by have := Hsz.out; simp; omega) ?_; intro O3 oc3 w3 hown3 hg3 hat3)
          rw [← nis_append] at hown3
          have Hb3 : Hid (Below w0.heap.size w0 w3) := (Hb2.out.alloc Hsz.out _).grown hg3 (by have := Hsz.out; simp; omega) (fun g hg => (own_lt HO2.out hg).1)
          go_roundw
          case rel => exact ⟨O3, oc3, k + 1, i, i, i + 1, out ++ [i], rfl, rfl, by go_num, Nat.le_refl _, Nat.le_refl _, Nat.le_refl _, hlt2, Hkk.out, hkk2, fun h => h, by omega, hown3, by rw [List.length_append, HOl.out]; rfl, Hb3, HS2⟩
          case measure => simp [intOf]; omega
    · have hjm2 : j = m := by omega
      have hfm2 := Hfm.out hjm2
      have hd1 : decide ((i : Int) ≤ (m : Int)) = false := decide_eq_false (by omega)
      have hd2 : ¬ (i : Int) ≤ (m : Int) := by omega
      have Hoc : Hid (out = cl) := by
        have := HS.out
        rw [hjm2, hfm2] at this
        unfold stL at this
        rw [curL_nil, List.drop_of_length_le (by rw [Hlen.out]; exact Nat.le_refl _)] at this
        exact (by simpa [endsB] using this : out = cl)
      have h64 : 64 * k ≤ m + 64 := by omega
      clear hjm2 hfm2
      go_wp2_with fail
      refine bodyPost_ret (v := .tuple #[.slice L k lc, .int .i64 0]) (by simp [results, Try.results24, go_sem, *]) rfl ?_
      refine ⟨L, lc, k, rfl, by rw [← Hoc.out]; exact HOl.out, h64, ?_, ?_⟩
      · rw [← Hoc.out]
        exact own_mono HO.out (hZ ▸ Hb0.out.size)
      · exact hZ ▸ bup Hb0.out Hb.out
end Go.Proofs.Ytglkahonejblpaa
