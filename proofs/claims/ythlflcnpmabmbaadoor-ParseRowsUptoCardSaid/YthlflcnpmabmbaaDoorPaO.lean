/-
  No plan is cheaper than the table's: each step of literals and of the finder's matches costs no less. Conditions: none.
-/
import Derived.Test.YthlflcnpmabmbaaDoorPaC
import Derived.Test.YthlflcnpmabmbaaDoorPaQ
import Derived.Test.YthlflcnpmabmbaaDoorFiMis
namespace Go.Proofs.YthlflcnpmabmbaaDoor
open Go.RowKit

theorem bitsN_mono {i j : Nat} (h : i ≤ j) : bitsN i ≤ bitsN j := by
  unfold bitsN
  split <;> split <;> omega
theorem slotUpto_mono {d e : Nat} (h : d ≤ e) : ∀ n, slotUpto d n ≤ slotUpto e n := by
  intro n
  induction n with
  | zero => exact Nat.le_refl _
  | succ n ih =>
    unfold slotUpto
    by_cases h1 : leastN n ≤ d
    · rw [if_pos h1, if_pos (by omega)]; exact Nat.le_refl _
    · rw [if_neg h1]
      by_cases h2 : leastN n ≤ e
      · rw [if_pos h2]
        rcases Nat.eq_zero_or_pos n with h0 | h0
        · subst h0; exact Nat.le_refl _
        · exact Nat.le_of_lt (slot_lt d n h0)
      · rw [if_neg h2]; exact ih
theorem mPr_val {n d : Nat} (h1 : 3 ≤ n) (h2 : n ≤ 273) (h3 : 1 ≤ d) (h4 : d ≤ 4294967295) : mPr n d = 8 + lenP (n : Int) + (bitsN (slotUpto d 64) : Int) := by
  unfold mPr prV
  have hf : formedN 2 (n : Int) (d : Int) = 0 := by rw [formedN_2, if_pos ⟨by unfold isL; omega, by unfold isD; omega⟩]
  rw [if_pos hf, if_neg (by decide), if_neg (by decide), if_neg (by decide), Int.toNat_natCast]
theorem mPr_mono {n d e : Nat} (h1 : 3 ≤ n) (h2 : n ≤ 273) (h3 : 1 ≤ d) (h4 : d ≤ e) (h5 : e ≤ 4294967295) : mPr n d ≤ mPr n e := by
  rw [mPr_val h1 h2 h3 (by omega), mPr_val h1 h2 (by omega) h5]
  have := bitsN_mono (slotUpto_mono h4 64)
  omega
/-! ### cheapest is cheapest -/
theorem cheapIn_covers (R : Nat → Int) (p d : Nat) : ∀ f n b k, n ≤ k → k < n + f → (cheapIn R p d f n b).2 ≤ mPr k d + R (p + k) := by
  intro f
  induction f with
  | zero => intro n b k h1 h2; omega
  | succ f ih =>
    intro n b k h1 h2
    unfold cheapIn
    by_cases he : k = n
    · subst he
      refine Int.le_trans ?_ (stepC_le R p d k b).2
      exact cheapIn_inv (I := fun c => c.2 ≤ (stepC R p d k b).2) f (k + 1) (k + f) (by omega) (fun j c _ _ hc => Int.le_trans (stepC_le R p d j c).1 hc) _ (Int.le_refl _)
    · exact ih (n + 1) _ k (by omega) (by omega)
theorem cheapIn_le (R : Nat → Int) (p d f n : Nat) (b : Sy × Int) : (cheapIn R p d f n b).2 ≤ b.2 := by
  induction f generalizing n b with
  | zero => exact Int.le_refl _
  | succ f ih => unfold cheapIn; exact Int.le_trans (ih _ _) (stepC_le R p d n b).1
theorem cheapL_opt (R : Nat → Int) (p : Nat) (c : UInt8) (ms : List (Nat × Nat)) (hs : ms.Pairwise (fun a b => a.2 ≤ b.2)) (hb : ∀ m ∈ ms, 1 ≤ m.2 ∧ m.2 ≤ 4294967295 ∧ m.1 ≤ 273) :
    ∀ m ∈ ms, ∀ k, 3 ≤ k → k ≤ m.1 → (cheapL R p c ms).2 ≤ mPr k m.2 + R (p + k) := by
  have key : ∀ (ms : List (Nat × Nat)) (b : (Sy × Int) × Nat), 3 ≤ b.2 → ms.Pairwise (fun a b => a.2 ≤ b.2) → (∀ m ∈ ms, 1 ≤ m.2 ∧ m.2 ≤ 4294967295 ∧ m.1 ≤ 273) →
      (∀ k, 3 ≤ k → k < b.2 → k ≤ 273 → ∃ d, 1 ≤ d ∧ (∀ m ∈ ms, d ≤ m.2) ∧ b.1.2 ≤ mPr k d + R (p + k)) →
      ((ms.foldl (cheapM R p) b).1.2 ≤ b.1.2) ∧ ∀ m ∈ ms, ∀ k, 3 ≤ k → k ≤ m.1 → (ms.foldl (cheapM R p) b).1.2 ≤ mPr k m.2 + R (p + k) := by
    intro ms
    induction ms with
    | nil => intro b _ _ _ _; exact ⟨Int.le_refl _, fun m h => by cases h⟩
    | cons m ms ih =>
      intro b h3 hs hb hI
      rw [List.foldl_cons]
      obtain ⟨hs1, hs2⟩ := List.pairwise_cons.1 hs
      obtain ⟨m1, m2, m3⟩ := hb m (List.mem_cons_self ..)
      have hle : (cheapM R p b m).1.2 ≤ b.1.2 := cheapIn_le R p m.2 _ _ _
      have hcov : ∀ k, 3 ≤ k → k ≤ m.1 → (cheapM R p b m).1.2 ≤ mPr k m.2 + R (p + k) := fun k hk1 hk2 => by
        rcases Nat.lt_or_ge k b.2 with h | h
        · obtain ⟨d, d1, d2, d3⟩ := hI k hk1 h (by omega)
          have := mPr_mono hk1 (by omega : k ≤ 273) d1 (d2 m (List.mem_cons_self ..)) m2
          omega
        · exact cheapIn_covers R p m.2 _ _ _ k h (by omega)
      obtain ⟨r1, r2⟩ := ih (cheapM R p b m) (by unfold cheapM; simp only []; omega) hs2 (fun m' hm' => hb m' (List.mem_cons_of_mem _ hm')) (fun k hk1 hk2 hk3 => by
        rcases Nat.lt_or_ge k b.2 with h | h
        · obtain ⟨d, d1, d2, d3⟩ := hI k hk1 h hk3
          exact ⟨d, d1, fun m' hm' => d2 m' (List.mem_cons_of_mem _ hm'), by omega⟩
        · have hk4 : k < max b.2 (m.1 + 1) := hk2
          exact ⟨m.2, m1, fun m' hm' => hs1 m' hm', hcov k hk1 (by omega)⟩)
      refine ⟨Int.le_trans r1 hle, fun m' hm' k hk1 hk2 => ?_⟩
      rcases List.mem_cons.1 hm' with h | h
      · subst h
        exact Int.le_trans r1 (hcov k hk1 hk2)
      · exact r2 m' h k hk1 hk2
  exact (key ms _ (Nat.le_refl _) hs hb (fun k h1 h2 => by simp only [] at h2; omega)).2
/-- the matches lie by rising distance -/
theorem mats_sorted (l : List UInt8) (dict : Int) (p : Nat) (most : Int) : (mats l dict p most).Pairwise (fun a b => a.2 < b.2) := by
  rw [List.pairwise_iff_getElem]
  intro i j hi hj hij
  obtain ⟨k, hk⟩ : ∃ k, j = i + 1 + k := ⟨j - i - 1, by omega⟩
  subst hk
  induction k with
  | zero =>
    have := (mats_at (List.getElem?_eq_getElem hj)).2.2.2.2.2.2 _ (by omega) (List.getElem?_eq_getElem (show i + 1 + 0 - 1 < _ by omega))
    simpa using this
  | succ k ih =>
    have h1 := ih (by omega) (by omega)
    have := (mats_at (List.getElem?_eq_getElem hj)).2.2.2.2.2.2 _ (by omega) (List.getElem?_eq_getElem (show i + 1 + (k + 1) - 1 < _ by omega))
    have e : i + 1 + (k + 1) - 1 = i + 1 + k := by omega
    simp only [e] at this
    omega
theorem recGo_inv (l : List (Nat × Nat)) (hs : l.Pairwise (fun a b => a.2 < b.2)) (hp : ∀ m ∈ l, 1 ≤ m.1) : ∀ i, i ≤ l.length → (∀ m ∈ (recGo (l.take i)).1, m ∈ l.take i) ∧ (∀ m ∈ l.take i, m.1 ≤ (recGo (l.take i)).2) ∧ (∀ m ∈ l.take i, ∃ m' ∈ (recGo (l.take i)).1, m.1 ≤ m'.1 ∧ m'.2 ≤ m.2) ∧ ((recGo (l.take i)).1 = [] ∧ (recGo (l.take i)).2 = 0 ∨ ∃ m' ∈ (recGo (l.take i)).1, m'.1 = (recGo (l.take i)).2) ∧ (recGo (l.take i)).1.Pairwise (fun a b => a.2 ≤ b.2) := by
  intro i
  induction i with
  | zero => intro _; refine ⟨fun m h => by simp [recGo] at h, fun m h => by simp at h, fun m h => by simp at h, .inl ⟨rfl, rfl⟩, List.Pairwise.nil⟩
  | succ i ih =>
    intro hi
    obtain ⟨h0, h1, h2, h3, h4⟩ := ih (by omega)
    have hg : l[i]? = some l[i] := List.getElem?_eq_getElem (by omega)
    have hlt : ∀ m ∈ l.take i, m.2 < (l[i]).2 := fun m hm => by
      obtain ⟨j, hj, he⟩ := List.getElem_of_mem hm
      rw [List.length_take] at hj
      have := (List.pairwise_iff_getElem.1 hs) j i (by omega) (by omega) (by omega)
      rw [List.getElem_take] at he
      rw [he] at this
      exact this
    have hp1 := hp _ (List.mem_of_getElem? hg)
    rw [take_snoc hg, recGo_snoc]
    generalize l[i] = a at *
    split
    · rename_i hlt1
      refine ⟨fun m hm => ?_, fun m hm => ?_, fun m hm => ?_, .inr ⟨a, by simp, rfl⟩, ?_⟩
      · rcases List.mem_append.1 hm with h | h
        · exact List.mem_append_left _ (h0 m h)
        · exact List.mem_append_right _ h
      · rcases List.mem_append.1 hm with h | h
        · have := h1 m h; simp only []; omega
        · simp at h; subst h; exact Nat.le_refl _
      · rcases List.mem_append.1 hm with h | h
        · obtain ⟨m', a1, a2⟩ := h2 m h; exact ⟨m', by simp [a1], a2⟩
        · simp at h; subst h; exact ⟨m, by simp, Nat.le_refl _, Nat.le_refl _⟩
      · rw [List.pairwise_append]
        refine ⟨h4, List.pairwise_singleton _ _, fun x hx y hy => ?_⟩
        simp at hy
        subst hy
        exact Nat.le_of_lt (hlt x (h0 x hx))
    · rename_i hge
      have hge' : a.1 ≤ (recGo (l.take i)).2 := by omega
      refine ⟨fun m hm => List.mem_append_left _ (h0 m hm), fun m hm => ?_, fun m hm => ?_, h3, h4⟩
      · rcases List.mem_append.1 hm with h | h
        · exact h1 m h
        · simp at h; subst h; exact hge'
      · rcases List.mem_append.1 hm with h | h
        · exact h2 m h
        · simp at h
          subst h
          rcases h3 with ⟨e1, e2⟩ | ⟨m', a1, a2⟩
          · omega
          · exact ⟨m', a1, by omega, Nat.le_of_lt (hlt m' (h0 m' a1))⟩
theorem rec_covers (l : List UInt8) (dict : Int) (p : Nat) (most : Int) : (∀ m ∈ mats l dict p most, ∃ m' ∈ recL (mats l dict p most), m.1 ≤ m'.1 ∧ m'.2 ≤ m.2) ∧ (recL (mats l dict p most)).Pairwise (fun a b => a.2 ≤ b.2) := by
  have := recGo_inv (mats l dict p most) (mats_sorted l dict p most) (fun m hm => by have := (mats_mem hm).2.2.2.1; omega) _ (Nat.le_refl _)
  rw [List.take_length] at this
  exact ⟨this.2.2.1, this.2.2.2.2⟩
/-- THE TABLE IS CHEAPEST: the literal, and each match in each of its lengths, cost no less -/
theorem planT_opt (l : List UInt8) (hi : Nat) (dict : Int) (hd : dict ≤ 4294967295) (p : Nat) (h : p < hi) :
    (planT l hi dict p).2 ≤ 9 + (planT l hi dict (p + 1)).2 ∧ ∀ m ∈ mats l dict p (pmost hi p : Int), ∀ k, 3 ≤ k → k ≤ m.1 → (planT l hi dict p).2 ≤ mPr k m.2 + (planT l hi dict (p + k)).2 := by
  obtain ⟨R, hR, _, hT⟩ := planT_step l hi dict p h
  obtain ⟨h1, h2⟩ := rec_covers l dict p (pmost hi p : Int)
  refine ⟨?_, fun m hm k h3 h4 => ?_⟩
  · rw [hT, ← hR (p + 1) (by omega)]; exact cheapL_lit _ _ _ _
  · obtain ⟨m', hm', a1, a2⟩ := h1 m hm
    have hbd : ∀ m ∈ recL (mats l dict p (pmost hi p : Int)), 1 ≤ m.2 ∧ m.2 ≤ 4294967295 ∧ m.1 ≤ 273 := fun m hm => by
      obtain ⟨b1, b2, b3, b4, b5⟩ := mats_mem (recGo_mem _ m hm)
      have : pmost hi p ≤ 273 := by unfold pmost; omega
      unfold lft at b5
      omega
    obtain ⟨b1, b2, b3, b4, b5⟩ := mats_mem hm
    have hm3 := (hbd m' hm').2.2
    have := cheapL_opt R p (l.getD p 0) _ h2 hbd m' hm' k h3 (by omega)
    rw [← hT, hR (p + k) (by omega)] at this
    have := mPr_mono h3 (by omega : k ≤ 273) (hbd m' hm').1 a2 (by omega)
    omega
/-- what the plan's symbols cost together -/
theorem prs_lit (s : Int) (c : UInt8) (r : List Sy) : prsGo s (⟨1, c, 0, 0⟩ :: r) = prsGo (s + 9) r := rfl
theorem prs_match (s : Int) (n d : Nat) (r : List Sy) (h1 : 3 ≤ n) (h2 : n ≤ 273) (h3 : 1 ≤ d) (h4 : d ≤ 4294967295) : prsGo s (⟨2, 0, (n : Int), (d : Int)⟩ :: r) = prsGo (s + mPr n d) r := by
  have hf : formedN 2 (n : Int) (d : Int) = 0 := by rw [formedN_2, if_pos ⟨by unfold isL; omega, by unfold isD; omega⟩]
  show (if formedN 2 (n : Int) (d : Int) = 0 then _ else _) = _
  rw [if_pos hf]
  rfl
theorem path_price (l : List UInt8) (hi : Nat) (dict : Int) (hd : dict ≤ 4294967295) : ∀ f p s, hi - p ≤ f → p ≤ hi → prsGo s (pathGo (fun p => (planT l hi dict p).1) hi f p) = (s + (planT l hi dict p).2, 0) := by
  intro f
  induction f with
  | zero =>
    intro p s h1 h2
    rw [planT_end l hi dict p (by omega)]
    show (s, (0 : Int)) = (s + 0, 0)
    rw [Int.add_zero]
  | succ f ih =>
    intro p s h1 h2
    unfold pathGo
    by_cases hlt : p < hi
    · rw [if_pos hlt]
      have h3 := planT_ysz l hi dict p hlt
      have h4 := ysz_pos (planT l hi dict p).1
      have hr := ih (p + ysz (planT l hi dict p).1)
      rcases planT_ok l hi dict p hlt with ⟨e1, e2⟩ | ⟨n, d, e1, e2, ⟨m, hm, e3, e4⟩, e5⟩
      · simp only [e1] at hr h3 h4 ⊢
        have hz : ysz ⟨1, l.getD p 0, 0, 0⟩ = 1 := rfl
        rw [hz] at hr h3 h4 ⊢
        rw [prs_lit, hr _ (by omega) h3, e2, Int.add_assoc]
      · simp only [e1] at hr h3 h4 ⊢
        obtain ⟨m1, m2, m3, m4, m5⟩ := mats_mem hm
        unfold lft at m5
        have hpm : pmost hi p ≤ 273 := by unfold pmost; omega
        have hz : ysz ⟨2, 0, (n : Int), (d : Int)⟩ = n := by unfold ysz; simp only []; omega
        rw [hz] at hr h3 h4 ⊢
        rw [prs_match _ _ _ _ e2 (by omega) (by omega) (by omega), hr _ (by omega) h3, e5, Int.add_assoc]
    · rw [if_neg hlt, planT_end l hi dict p (by omega)]
      show (s, (0 : Int)) = (s + 0, 0)
      rw [Int.add_zero]
theorem plan_price (l : List UInt8) (fr hi : Nat) (dict : Int) (hd : dict ≤ 4294967295) (h : fr ≤ hi) : prsGo 0 (planL l fr hi dict) = ((planT l hi dict fr).2, 0) := by
  have := path_price l hi dict hd (hi - fr) fr 0 (Nat.le_refl _) h
  rw [Int.zero_add] at this
  exact this
/-! ### equal bytes -/
theorem rep_get (n : Nat) (b : UInt8) (i : Nat) (h : i < n) : (List.replicate n b).getD i 0 = b := by
  rw [List.getD_eq_getElem?_getD, List.getElem?_replicate, if_pos h]; rfl
theorem rep_ext (n : Nat) (b : UInt8) (q p m : Nat) (h1 : q + m ≤ n) (h2 : p + m ≤ n) : ext (List.replicate n b) q p m = m :=
  ext_stop (Nat.le_refl _) (fun j hj => by rw [rep_get n b _ (by omega), rep_get n b _ (by omega)]) (.inl rfl)
theorem rep_match (n : Nat) (b : UInt8) (p : Nat) (h1 : 1 ≤ p) (h2 : p + 273 ≤ n) : ∃ m ∈ mats (List.replicate n b) 4096 p (pmost n p : Int), m.1 = 273 ∧ m.2 = 1 := by
  have hpm : pmost n p = 273 := by unfold pmost; omega
  have hl : lft (List.replicate n b) p (pmost n p : Int) = 273 := by unfold lft; rw [List.length_replicate]; omega
  have he := rep_ext n b (p - 1) p 273 (by omega) (by omega)
  obtain ⟨m, hm, e1, e2, _⟩ := ms_hit (l := List.replicate n b) (dict := 4096) (p := p) (most := (pmost n p : Int)) ms_start (by omega) (by decide) (by rw [hl]; show 3 ≤ ext _ (p - 1) p 273; rw [he]; decide) (by decide)
  refine ⟨m, List.mem_of_getElem? hm, ?_, e1⟩
  rw [e2, hl]
  exact he
theorem rep_price (n : Nat) (b : UInt8) : ∀ k p, 1 ≤ p → p + k = n → (planT (List.replicate n b) n 4096 p).2 ≤ 18 * ((k / 273 : Nat) : Int) + 9 * ((k % 273 : Nat) : Int) := by
  intro k
  induction k using Nat.strongRecOn with
  | ind k ih =>
    intro p h1 h2
    rcases Nat.eq_zero_or_pos k with h0 | h0
    · subst h0; rw [planT_end _ _ _ _ (by omega)]; decide
    · obtain ⟨o1, o2⟩ := planT_opt (List.replicate n b) n 4096 (by decide) p (by omega)
      rcases Nat.lt_or_ge k 273 with h3 | h3
      · have := ih (k - 1) (by omega) (p + 1) (by omega) (by omega)
        rw [Nat.div_eq_of_lt (by omega), Nat.mod_eq_of_lt (by omega)] at this
        rw [Nat.div_eq_of_lt h3, Nat.mod_eq_of_lt h3]
        omega
      · obtain ⟨m, hm, e1, e2⟩ := rep_match n b p h1 (by omega)
        have h4 := o2 m hm 273 (by decide) (by omega)
        rw [e2] at h4
        have h5 : mPr 273 1 = 18 := by decide +kernel
        have := ih (k - 273) (by omega) (p + 273) (by omega) (by omega)
        have d1 : (k - 273) / 273 = k / 273 - 1 := by omega
        have d2 : (k - 273) % 273 = k % 273 := by omega
        have d3 : 1 ≤ k / 273 := by omega
        rw [d1, d2] at this
        omega
theorem rep_price0 (n : Nat) (b : UInt8) (h : 1 ≤ n) : (planT (List.replicate n b) n 4096 0).2 ≤ 9 + 18 * (((n - 1) / 273 : Nat) : Int) + 9 * (((n - 1) % 273 : Nat) : Int) := by
  have := (planT_opt (List.replicate n b) n 4096 (by decide) 0 (by omega)).1
  have := rep_price n b (n - 1) 1 (Nat.le_refl _) (by omega)
  rw [Nat.zero_add] at *
  omega
/-- the reps of equal bytes -/
def reps : Nat → Nat → List Sy
  | 0, _ => []
  | f + 1, k => if k = 0 then [] else (if k = 1 then ⟨4, 0, 0, 0⟩ else ⟨3, 0, ((min k 273 : Nat) : Int), 0⟩) :: reps f (k - min k 273)
theorem reps_step (f k : Nat) (h : 0 < k) : reps (f + 1) k = (if k = 1 then ⟨4, 0, 0, 0⟩ else ⟨3, 0, ((min k 273 : Nat) : Int), 0⟩) :: reps f (k - min k 273) := by
  show (if k = 0 then _ else _) = _
  rw [if_neg (by omega)]
theorem reps_zero (f : Nat) : reps f 0 = [] := by cases f <;> rfl
theorem reps_fuel : ∀ f g k, k ≤ f → k ≤ g → reps f k = reps g k := by
  intro f
  induction f with
  | zero => intro g k h1 h2; obtain rfl : k = 0 := by omega
            rw [reps_zero, reps_zero]
  | succ f ih =>
    intro g k h1 h2
    rcases Nat.eq_zero_or_pos k with h0 | h0
    · subst h0; rw [reps_zero, reps_zero]
    · obtain ⟨g, rfl⟩ : ∃ j, g = j + 1 := ⟨g - 1, by omega⟩
      rw [reps_step f k h0, reps_step g k h0, ih g _ (by omega) (by omega)]
theorem reps_len : ∀ f k, k ≤ f → (reps f k).length = (k + 272) / 273 := by
  intro f
  induction f with
  | zero => intro k h; obtain rfl : k = 0 := by omega
            rfl
  | succ f ih =>
    intro k h
    rcases Nat.eq_zero_or_pos k with h0 | h0
    · subst h0; rfl
    · rw [reps_step f k h0, List.length_cons, ih _ (by omega)]
      omega
def ones (s : St) : Prop := s.a = 1 ∧ s.b = 1 ∧ s.c = 1 ∧ s.d = 1
theorem rep_first (n : Nat) (b : UInt8) (p : Nat) (s : St) (hs : ones s) (h1 : 1 ≤ p) (h2 : p < n) : firstP (List.replicate n b) n 4096 p s = if n - p = 1 then ⟨4, 0, 0, 0⟩ else ⟨3, 0, ((min (n - p) 273 : Nat) : Int), 0⟩ := by
  obtain ⟨sn, sa, sb, sc, sd⟩ := s
  obtain ⟨r1, r2, r3, r4⟩ := hs
  simp only [] at r1 r2 r3 r4
  subst r1 r2 r3 r4
  have hM : pmost n p = min (n - p) 273 := by unfold pmost; omega
  have hr : runP (List.replicate n b) n 4096 p 1 = min (n - p) 273 := by
    unfold runP
    rw [if_pos ⟨by decide, by omega, by decide⟩, hM]
    exact rep_ext n b _ _ _ (by show p - 1 + _ ≤ n; omega) (by omega)
  have hrr : ∀ i : Int, St.rep ⟨sn, 1, 1, 1, 1⟩ i = 1 := fun i => by unfold St.rep; split <;> (try split) <;> (try split) <;> rfl
  have hb := best_bd (List.replicate n b) 4096 p (pmost n p : Int)
  have hbl : lft (List.replicate n b) p (pmost n p : Int) ≤ min (n - p) 273 := by unfold lft; rw [hM]; omega
  by_cases hk : n - p = 1
  · rw [if_pos hk]
    have hm1 : min (n - p) 273 = 1 := by omega
    have hR : repP (List.replicate n b) n 4096 p ⟨sn, 1, 1, 1, 1⟩ = (0, 0) := by
      unfold repP repGo repStep
      simp only [hrr, hr, hm1]
      unfold repGo repStep
      simp only [hrr, hr, hm1]
      unfold repGo repStep
      simp only [hrr, hr, hm1]
      unfold repGo repStep
      simp only [hrr, hr, hm1]
      rfl
    have hB : bestL (mats (List.replicate n b) 4096 p (pmost n p : Int)) = (0, 0) := by
      rcases hb with h | h
      · exact h
      · omega
    unfold firstP
    rw [hR, hB, if_neg (fun h => h.1 rfl), if_neg (fun h => h rfl)]
    simp only [hr, hm1]
    rw [if_pos (by decide)]
  · rw [if_neg hk]
    obtain ⟨M, hMM⟩ : ∃ M, min (n - p) 273 = M := ⟨_, rfl⟩
    rw [hMM] at hr hbl ⊢
    have hM2 : 2 ≤ M := by omega
    have st : ∀ (g : Nat × Nat) (i : Nat), repStep (List.replicate n b) n 4096 p g i 1 = if 2 ≤ M ∧ g.1 < M then (M, i) else g := fun g i => by unfold repStep; rw [hr]
    have g1 : repGo (List.replicate n b) n 4096 p ⟨sn, 1, 1, 1, 1⟩ 1 = (M, 0) := by
      show repStep _ _ _ _ (0, 0) 0 _ = _
      rw [hrr, st, if_pos ⟨hM2, by show 0 < M; omega⟩]
    have g2 : repGo (List.replicate n b) n 4096 p ⟨sn, 1, 1, 1, 1⟩ 2 = (M, 0) := by
      show repStep _ _ _ _ (repGo _ _ _ _ _ 1) 1 _ = _
      rw [hrr, g1, st, if_neg (fun h => Nat.lt_irrefl _ h.2)]
    have g3 : repGo (List.replicate n b) n 4096 p ⟨sn, 1, 1, 1, 1⟩ 3 = (M, 0) := by
      show repStep _ _ _ _ (repGo _ _ _ _ _ 2) 2 _ = _
      rw [hrr, g2, st, if_neg (fun h => Nat.lt_irrefl _ h.2)]
    have hR : repP (List.replicate n b) n 4096 p ⟨sn, 1, 1, 1, 1⟩ = (M, 0) := by
      show repStep _ _ _ _ (repGo _ _ _ _ _ 3) 3 _ = _
      rw [hrr, g3, st, if_neg (fun h => Nat.lt_irrefl _ h.2)]
    unfold firstP
    rw [hR, if_pos ⟨by show M ≠ 0; omega, by show _ ≤ M + 1; rcases hb with h | h; · rw [h]; exact Nat.zero_le _
                                             · omega⟩]
    rfl
theorem ones_next (s : St) (y : Sy) (hs : ones s) (he : nextE s y = 0) (hk : y.k ≠ 2) : ones (nextS s y) := by
  obtain ⟨h1, h2, h3, h4⟩ := hs
  unfold nextS
  rw [if_pos he, if_neg hk]
  split
  · split
    · exact ⟨h1, h2, h3, h4⟩
    · split
      · exact ⟨h2, h1, h3, h4⟩
      · split
        · exact ⟨h3, h1, h2, h4⟩
        · exact ⟨h4, h1, h2, h3⟩
  · exact ⟨h1, h2, h3, h4⟩
theorem greedy_reps (n : Nat) (b : UInt8) : ∀ k p s, 1 ≤ p → p + k = n → ones s → s.right → (greedyGo (List.replicate n b) n 4096 (n - p) p s).1 = reps k k := by
  intro k
  induction k using Nat.strongRecOn with
  | ind k ih =>
    intro p s h1 h2 hs hr
    rcases Nat.eq_zero_or_pos k with h0 | h0
    · subst h0; rw [show n - p = 0 by omega]; rfl
    · have hf := rep_first n b p s hs h1 (by omega)
      rw [show n - p = k by omega] at hf
      obtain ⟨o1, o2, o3⟩ := firstP_ok (List.replicate n b) n 4096 p s hr (by decide)
      have hy : ysz (if k = 1 then (⟨4, 0, 0, 0⟩ : Sy) else ⟨3, 0, ((min k 273 : Nat) : Int), 0⟩) = min k 273 := by
        split
        · rename_i h; subst h; rfl
        · unfold ysz; simp only []; omega
      have hk2 : (if k = 1 then (⟨4, 0, 0, 0⟩ : Sy) else ⟨3, 0, ((min k 273 : Nat) : Int), 0⟩).k ≠ 2 := by
        split
        · show ¬ (4 : Int) = 2; decide
        · show ¬ (3 : Int) = 2; decide
      have hst := greedy_step (List.replicate n b) n 4096 p s (by omega) (by rw [hf, hy]; omega)
      rw [hf] at hst o1
      rw [hy] at hst
      rw [hst]
      obtain ⟨f, hf'⟩ : ∃ f, k = f + 1 := ⟨k - 1, by omega⟩
      have hrs := reps_step f k h0
      rw [← hf'] at hrs
      have hon := ones_next s _ hs o1 hk2
      have hri := nextS_right o1
      have := ih (k - min k 273) (by omega) (p + min k 273) _ (by omega) (by omega) hon hri
      show _ :: (greedyGo _ _ _ _ _ _).1 = _
      rw [this, hrs]
      congr 1
      exact reps_fuel _ _ _ (by omega) (by omega)
theorem greedy_equal (n : Nat) (b : UInt8) (h : 1 ≤ n) : (greedyGo (List.replicate n b) n 4096 (n - 0) 0 St.start).1 = ⟨1, b, 0, 0⟩ :: reps (n - 1) (n - 1) := by
  have hr0 : ∀ d : Int, runP (List.replicate n b) n 4096 0 d = 0 := fun d => by unfold runP; rw [if_neg (by omega)]
  have hR : repP (List.replicate n b) n 4096 0 St.start = (0, 0) := by
    have st : ∀ (g : Nat × Nat) (i : Nat) (d : Int), repStep (List.replicate n b) n 4096 0 g i d = g := fun g i d => by unfold repStep; rw [hr0, if_neg (by omega)]
    have g : ∀ i, repGo (List.replicate n b) n 4096 0 St.start i = (0, 0) := by
      intro i
      induction i with
      | zero => rfl
      | succ i ih => show repStep _ _ _ _ (repGo _ _ _ _ _ i) i _ = _; rw [st, ih]
    exact g 4
  have hB : bestL (mats (List.replicate n b) 4096 0 (pmost n 0 : Int)) = (0, 0) := by
    rcases best_bd (List.replicate n b) 4096 0 (pmost n 0 : Int) with h | h
    · exact h
    · omega
  have hf : firstP (List.replicate n b) n 4096 0 St.start = ⟨1, b, 0, 0⟩ := by
    unfold firstP
    rw [hR, hB, if_neg (fun h => h.1 rfl), if_neg (fun h => h rfl), hr0, if_neg (by decide), rep_get n b 0 h]
  have hst := greedy_step (List.replicate n b) n 4096 0 St.start h (by rw [hf]; exact h)
  rw [hf] at hst
  rw [Nat.sub_zero] at hst ⊢
  rw [hst]
  obtain ⟨o1, _, _⟩ := firstP_ok (List.replicate n b) n 4096 0 St.start start_right (by decide)
  rw [hf] at o1
  have := greedy_reps n b (n - 1) 1 (nextS St.start ⟨1, b, 0, 0⟩) (Nat.le_refl _) (by omega) (ones_next _ _ ⟨rfl, rfl, rfl, rfl⟩ o1 (by show ¬ (1 : Int) = 2; decide)) (nextS_right o1)
  show _ :: (greedyGo _ _ _ (n - (0 + 1)) (0 + 1) _).1 = _
  rw [Nat.zero_add, this]
end Go.Proofs.YthlflcnpmabmbaaDoor
