/-
  Walks of the laws' small functions: joined, right, ints, behind, has. Conditions: what is handed in lies in memory.
-/
import Derived.Test.YtglkahonejblpaaCut
namespace Go.Proofs.Ytglkahonejblpaa
open Go.RowKit

/-- a list of numbers that lies in memory -/
def InN (w : World) (A : Option Addr) (n : Nat) (l : List Nat) : Prop :=
  l.length = n ∧ n ≤ 17179869184 ∧ (0 < n → ∃ b off, A = some ⟨b, off, none⟩ ∧ b < w.heap.size ∧ ∀ (i x : Nat), l[i]? = some x → w.cell? ⟨b, off + i, none⟩ = some (.int .i64 (x : Int)))
theorem InN.below {w w' : World} {A : Option Addr} {n : Nat} {l : List Nat} (h : InN w A n l) (hb : Below w.heap.size w w') : InN w' A n l :=
  ⟨h.1, h.2.1, fun h0 => by
    obtain ⟨b, off, e, hlt, hc⟩ := h.2.2 h0
    exact ⟨b, off, e, Nat.lt_of_lt_of_le hlt hb.size, fun i x hx => (hb.cell (p := ⟨b, off + i, none⟩) hlt).trans (hc i x hx)⟩⟩
theorem InN.of_own {w : World} {B : Nat} {A : Option Addr} {n c : Nat} {l : List Nat} (h : w.ownsRow B 3 1 (.slice A n c) n (nis l)) (hn : n ≤ 17179869184) : InN w A n l := by
  have hl : l.length = n := by have := h.1; rw [nis_length] at this; omega
  refine ⟨hl, hn, fun h0 => ?_⟩
  obtain ⟨g, cap, hv, _, _⟩ := h.form h0
  injection hv with hA _ hcap
  subst hA
  subst hcap
  refine ⟨g, 0, rfl, (own_lt h (by simp only [Value.ownBlock])).2, fun i x hx => ?_⟩
  have hi : i < l.length := (List.getElem?_eq_some_iff.1 hx).1
  rw [Nat.zero_add, h.cellAt i (by omega)]
  simp only [nis, List.getElem?_map, hx, Option.map_some]
theorem joined_any (A C : Option Addr) (n c m cc : Nat) (l r : List UInt8) (w : World) (h : In w A n l) (h2 : In w C m r) (hn : n ≤ 17179869184) (hm : m ≤ 17179869184) :
    Calls Try.prog 19 #[.slice A n c, .slice C m cc] w fun e w' => ∃ O oc, e = .returned (.slice O (n + m) oc) ∧ w'.ownsRow w.heap.size 5 1 (.slice O (n + m) oc) (n + m) (bys (l ++ r)) ∧ Below w.heap.size w w' := by
  obtain ⟨i0, hi0, hz0, hz1, hz2⟩ := info_parts infou8
  have H := Lib.hid h
  have H2 := Lib.hid h2
  clear h h2
  go_enter Try.func19, Try.ntmps19
  go_wp2_with (first | (at_builtin; refine wpList_fresh rfl (.tmp 6) (.tmp 7) rfl w.heap.size rfl rfl A n c l rfl H.out ?_; intro a1 c1 w1 hF; have H1 := Lib.hid hF; have H3 := Lib.hid (H2.out.below hF.2); clear hF) | (at_builtin; refine wpList_append_rd (w := w1) rfl (.tmp 9) (.tmp 10) 32 rfl w.heap.size 5 i0 _ 1 1 Try.underlying32 hi0 hz0 hz1 hz2 rfl (by decide) (.slice a1 n c1) n (bys l) rfl H1.out.1 C m cc (bys r) rfl H3.out.1 (bys_one _) (by simp only [maxLen]; omega) (by omega) H1.out.2.size ?_; intro O oc w2 hown2 hg2 hat2))
  go_ret
  rw [← bys_append] at hown2
  exact ⟨O, oc, rfl, hown2, H1.out.2.grown hg2 H1.out.2.size (fun g hg => (own_lt H1.out.1 hg).1)⟩
theorem right_any (least most bits : Int) (w : World) : Calls Try.prog 20 #[.agg #[.int .i64 least, .int .i64 most, .int .i64 bits]] w fun e w' => e = .returned (.bool (decide (CutsOk least most bits))) ∧ Below w.heap.size w w' := by
  by_cases h1 : 64 ≤ least
  · by_cases h2 : least ≤ most
    · by_cases h3 : most ≤ 1048576
      · by_cases h4 : 0 ≤ bits
        · by_cases h5 : bits ≤ 20
          · rw [decide_eq_true (show CutsOk least most bits from ⟨h1, h2, h3, h4, h5⟩)]
            go_enter Try.func20, Try.ntmps20
            go_wp2
            go_ret
            exact ⟨rfl, (Below.refl _ _).alloc (Nat.le_refl _) _⟩
          · rw [decide_eq_false (show ¬ CutsOk least most bits from fun h => h5 h.e)]
            go_enter Try.func20, Try.ntmps20
            go_wp2
            go_ret
            exact ⟨rfl, (Below.refl _ _).alloc (Nat.le_refl _) _⟩
        · rw [decide_eq_false (show ¬ CutsOk least most bits from fun h => h4 h.d)]
          go_enter Try.func20, Try.ntmps20
          go_wp2
          go_ret
          exact ⟨rfl, (Below.refl _ _).alloc (Nat.le_refl _) _⟩
      · rw [decide_eq_false (show ¬ CutsOk least most bits from fun h => h3 h.c)]
        go_enter Try.func20, Try.ntmps20
        go_wp2
        go_ret
        exact ⟨rfl, (Below.refl _ _).alloc (Nat.le_refl _) _⟩
    · rw [decide_eq_false (show ¬ CutsOk least most bits from fun h => h2 h.b)]
      go_enter Try.func20, Try.ntmps20
      go_wp2
      go_ret
      exact ⟨rfl, (Below.refl _ _).alloc (Nat.le_refl _) _⟩
  · rw [decide_eq_false (show ¬ CutsOk least most bits from fun h => h1 h.a)]
    go_enter Try.func20, Try.ntmps20
    go_wp2
    go_ret
    exact ⟨rfl, (Below.refl _ _).alloc (Nat.le_refl _) _⟩
theorem ints_same (A C : Option Addr) (n c cc : Nat) (l : List Nat) (w : World) (h : InN w A n l) (h2 : InN w C n l) (hc : n ≤ c) (hcc : n ≤ cc) :
    Calls Try.prog 21 #[.slice A n c, .slice C n cc] w fun e w' => e = .returned (.bool true) ∧ Below w.heap.size w w' := by
  have H := Lib.hid h
  have H2 := Lib.hid h2
  have hn := h.2.1
  clear h h2
  go_enter Try.func21, Try.ntmps21
  go_wp2_with fail
  go_loopw [5] (fun s5 wr => ∃ (i : Nat), s5 = .int .i64 (i : Int) ∧ i ≤ n ∧ Hid (Below w.heap.size w wr)) (fun s5 _ => n - (intOf s5).toNat)
  case atStart => exact ⟨0, rfl, Nat.zero_le _, Below.refl _ _⟩
  case round =>
    obtain ⟨i, rfl, hi, Hb⟩ := hrel
    by_cases hlt : i < n
    · have hlt' : (i : Int) < (n : Int) := by omega
      obtain ⟨x, hx⟩ : ∃ x, l[i]? = some x := ⟨_, List.getElem?_eq_getElem (by rw [H.out.1]; exact hlt)⟩
      obtain ⟨b1, o1, rfl, hb1, hc1⟩ := (H.out.below Hb.out).2.2 (by omega)
      obtain ⟨b2, o2, rfl, hb2, hc2⟩ := (H2.out.below Hb.out).2.2 (by omega)
      have z1 := hc1 i x hx
      have z2 := hc2 i x hx
      clear hc1 hc2 hx
      go_wp2_with fail
      go_quiet (fail)
      have Hb2 : Hid (Below w.heap.size w (wr.drewN nq)) := below_drewN Hb.out _
      go_wp2_with fail
      go_roundw
      case rel => exact ⟨i + 1, by go_num, by omega, Hb2⟩
      case measure => simp [intOf]; omega
    · have hge : ¬ (i : Int) < (n : Int) := by omega
      go_wp2_with fail
      go_ret
      exact ⟨rfl, Hb.out⟩
/-- the ends behind k, less k -/
def behindL (k : Int) : List Nat → List Nat
  | [] => []
  | x :: r => if k < (x : Int) then ((x : Int) - k).toNat :: behindL k r else behindL k r
theorem behindL_len (k : Int) (l : List Nat) : (behindL k l).length ≤ l.length := by
  induction l with
  | nil => exact Nat.le_refl _
  | cons x r ih =>
    rw [behindL]
    split <;> simp only [List.length_cons] <;> omega
theorem behindL_snoc (k : Int) (l : List Nat) (x : Nat) : behindL k (l ++ [x]) = if k < (x : Int) then behindL k l ++ [((x : Int) - k).toNat] else behindL k l := by
  induction l with
  | nil => simp [behindL]
  | cons y r ih =>
    rw [List.cons_append, behindL, behindL, ih]
    split <;> split <;> simp
theorem behind_any (A : Option Addr) (n c : Nat) (l : List Nat) (k : Int) (w : World) (h : InN w A n l) (hc : n ≤ c) (hk0 : 0 ≤ k) (hk1 : k ≤ 1099511627776) (hl : ∀ x, x ∈ l → x ≤ 1099511627776) :
    Calls Try.prog 22 #[.slice A n c, .int .i64 k] w fun e w' => ∃ O oc, e = .returned (.slice O (behindL k l).length oc) ∧ w'.ownsRow w.heap.size 3 1 (.slice O (behindL k l).length oc) (behindL k l).length (nis (behindL k l)) ∧ Below w.heap.size w w' := by
  obtain ⟨i0, hi0, hz0, hz1, hz2⟩ := info_parts infoint
  have H := Lib.hid h
  have hn := h.2.1
  have Hl := Lib.hid hl
  have H0 : Hid (w.ownsRow w.heap.size 3 1 (.slice none 0 0) 0 (nis (behindL k (l.take 0))) ∧ Below w.heap.size w w) := ⟨by rw [List.take_zero]; exact World.ownsRow_nil _ _ _ _, Below.refl _ _⟩
  clear h hl
  go_enter Try.func22, Try.ntmps22
  go_wp2_with fail
  go_loopw [6, 5] (fun s6 s5 wr => ∃ (i q : Nat) (O : Option Addr) (oc : Nat), s6 = .int .i64 (i : Int) ∧ i ≤ n ∧ q ≤ i ∧ s5 = .slice O q oc ∧ Hid (wr.ownsRow w.heap.size 3 1 (.slice O q oc) q (nis (behindL k (l.take i))) ∧ Below w.heap.size w wr)) (fun s6 _ _ => n - (intOf s6).toNat)
  case atStart => exact ⟨0, 0, none, 0, rfl, Nat.zero_le _, Nat.le_refl _, rfl, H0⟩
  case round =>
    clear H0
    obtain ⟨i, q, O, oc, rfl, hi, hq, rfl, HO⟩ := hrel
    by_cases hlt : i < n
    · have hlt' : (i : Int) < (n : Int) := by omega
      obtain ⟨x, hx⟩ : ∃ x, l[i]? = some x := ⟨_, List.getElem?_eq_getElem (by rw [H.out.1]; exact hlt)⟩
      obtain ⟨b1, o1, rfl, hb1, hc1⟩ := (H.out.below HO.out.2).2.2 (by omega)
      have z1 := hc1 i x hx
      have hxb : x ≤ 1099511627776 := Hl.out x (List.mem_of_getElem? hx)
      have Hst : Hid (l.take (i + 1) = l.take i ++ [x]) := by show _ = _; rw [List.take_add_one, hx]; rfl
      have HOw := Lib.hid HO.out.1
      have HOs : Hid (w.heap.size ≤ wr.heap.size) := HO.out.2.size
      clear hc1 hx
      by_cases hgt : k < (x : Int)
      · obtain ⟨y, hy⟩ : ∃ y : Nat, (x : Int) - k = (y : Int) := ⟨((x : Int) - k).toNat, by omega⟩
        have hwr : IntKind.i64.wrap ((x : Int) - k) = (y : Int) := by rw [hy]; exact IntWalk.i64_in _ (by omega)
        have Hstep : Hid (behindL k (l.take (i + 1)) = behindL k (l.take i) ++ [y]) := by
          show _ = _
          rw [Hst.out, behindL_snoc, if_pos hgt, show ((x : Int) - k).toNat = y by omega]
        go_wp2_with (at_builtin; refine wpList_append_rd (w := wr.alloc (.cells #[.int .i64 (y : Int)] 3)) rfl (.tmp 19) (.tmp 26) 46 rfl w.heap.size 3 i0 _ 1 8 Try.underlying46 hi0 hz0 hz1 hz2 rfl (by decide) (.slice O q oc) q (nis (behindL k (l.take i))) rfl (HOw.out.alloc _) (some ⟨wr.heap.size, 0, none⟩) 1 1 (nis [y]) rfl ⟨rfl, fun _ => ⟨_, rfl, World.news_of_block (heap_alloc_new wr _)⟩⟩ (nis_one _) (by simp only [maxLen]; omega) (by omega) (by have := HOs.out; simp; omega) ?_; intro O2 oc2 w2 hown2 hg2 hat2)
        go_roundw
        case rel =>
          refine ⟨i + 1, q + 1, O2, oc2, by go_num, by omega, by omega, rfl, ?_, ?_⟩
          · rw [Hstep.out, nis_append]; exact hown2
          · exact (bmk_ HO.out.2 _).grown hg2 (by have := HOs.out; simp; omega) (fun g hg => (own_lt HOw.out hg).1)
        case measure => simp [intOf]; omega
      · have Hstep : Hid (behindL k (l.take (i + 1)) = behindL k (l.take i)) := by
          show _ = _
          rw [Hst.out, behindL_snoc, if_neg hgt]
        go_wp2_with fail
        go_roundw
        case rel => exact ⟨i + 1, q, O, oc, by go_num, by omega, by omega, rfl, by rw [Hstep.out]; exact HO.out.1, HO.out.2⟩
        case measure => simp [intOf]; omega
    · have hge : ¬ (i : Int) < (n : Int) := by omega
      have hin : i = n := by omega
      have Hfin : Hid (l.take i = l) := by show _ = _; rw [List.take_of_length_le (by rw [H.out.1]; omega)]
      have hq2 : q = (behindL k l).length := by
        have := HO.out.1.1
        rw [nis_length, Hfin.out] at this
        omega
      clear hin
      go_wp2_with fail
      go_ret
      have h1 := HO.out.1
      rw [Hfin.out] at h1
      subst hq2
      exact ⟨O, oc, rfl, h1, HO.out.2⟩
theorem has_any (A : Option Addr) (n c : Nat) (l : List Nat) (k : Int) (w : World) (h : InN w A n l) (hc : n ≤ c) :
    Calls Try.prog 23 #[.slice A n c, .int .i64 k] w fun e w' => e = .returned (.bool (decide (∃ x, x ∈ l ∧ (x : Int) = k))) ∧ w = w' := by
  have H := Lib.hid h
  have hn := h.2.1
  obtain ⟨d, hd⟩ : ∃ d, decide (∃ x, x ∈ l ∧ (x : Int) = k) = d := ⟨_, rfl⟩
  rw [hd]
  have Hd : Hid (decide (∃ x, x ∈ l ∧ (x : Int) = k) = d) := hd
  have H0 : Hid (∀ (j x : Nat), j < 0 → l[j]? = some x → (x : Int) ≠ k) := fun j x hj _ => absurd hj (Nat.not_lt_zero j)
  clear h hd
  go_enter Try.func23, Try.ntmps23
  go_wp2_with fail
  go_loopw [5] (fun s5 wr => ∃ (i : Nat), s5 = .int .i64 (i : Int) ∧ i ≤ n ∧ w = wr ∧ Hid (∀ (j x : Nat), j < i → l[j]? = some x → (x : Int) ≠ k)) (fun s5 _ => n - (intOf s5).toNat)
  case atStart => exact ⟨0, rfl, Nat.zero_le _, rfl, H0⟩
  case round =>
    clear H0
    obtain ⟨i, rfl, hi, rfl, HN⟩ := hrel
    by_cases hlt : i < n
    · have hlt' : (i : Int) < (n : Int) := by omega
      obtain ⟨x, hx⟩ : ∃ x, l[i]? = some x := ⟨_, List.getElem?_eq_getElem (by rw [H.out.1]; exact hlt)⟩
      obtain ⟨b1, o1, rfl, hb1, hc1⟩ := H.out.2.2 (by omega)
      have z1 := hc1 i x hx
      have Hx := Lib.hid hx
      clear hc1 hx
      by_cases he : (x : Int) = k
      · have he' : ((x : Int) == k) = true := beq_iff_eq.2 he
        have hdt : d = true := by rw [← Hd.out]; exact decide_eq_true ⟨x, List.mem_of_getElem? Hx.out, he⟩
        subst hdt
        clear he
        go_wp2_with fail
        go_ret
        exact ⟨rfl, rfl⟩
      · have he' : ((x : Int) == k) = false := beq_eq_false_iff_ne.2 he
        have HN2 : Hid (∀ (j x : Nat), j < i + 1 → l[j]? = some x → (x : Int) ≠ k) := fun j y hj hy => by
          rcases (by omega : j < i ∨ j = i) with h | h
          · exact HN.out j y h hy
          · subst h
            rw [Hx.out] at hy
            cases hy
            exact he
        have He := Lib.hid he
        clear he
        go_wp2_with fail
        go_roundw
        case rel => exact ⟨i + 1, by go_num, by omega, by first | rfl | trivial, HN2⟩
        case measure => simp [intOf]; omega
    · have hge : ¬ (i : Int) < (n : Int) := by omega
      have hdf : d = false := by
        rw [← Hd.out]
        refine decide_eq_false ?_
        rintro ⟨x, hx, he⟩
        obtain ⟨j, hj, hjx⟩ := List.getElem_of_mem hx
        exact HN.out j x (by have := H.out.1; omega) (by rw [List.getElem?_eq_getElem hj, hjx]) he
      subst hdf
      go_wp2_with fail
      go_ret
      exact ⟨rfl, rfl⟩
end Go.Proofs.Ytglkahonejblpaa
