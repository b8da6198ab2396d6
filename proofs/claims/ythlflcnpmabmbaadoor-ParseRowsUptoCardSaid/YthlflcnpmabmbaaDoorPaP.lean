/-
  The table of a plan as a plain function; walk of Plan's inner function. Conditions: the table lies in memory.
-/
import Derived.Test.YthlflcnpmabmbaaDoorPaK
namespace Go.Proofs.YthlflcnpmabmbaaDoor
open Go.RowKit Go.Shelf
attribute [local go_sem] Oper.semAt_some
set_option maxRecDepth 100000

/-! ### what cheapest answers -/
theorem stepC_or (R : Nat → Int) (p d n : Nat) (b : Sy × Int) : (stepC R p d n b = b ∧ b.2 < mPr n d + R (p + n)) ∨ (stepC R p d n b = (⟨2, 0, (n : Int), (d : Int)⟩, mPr n d + R (p + n)) ∧ mPr n d + R (p + n) ≤ b.2) := by
  unfold stepC
  split
  · rename_i h; exact .inr ⟨rfl, h⟩
  · rename_i h; exact .inl ⟨rfl, by omega⟩
theorem stepC_le (R : Nat → Int) (p d n : Nat) (b : Sy × Int) : (stepC R p d n b).2 ≤ b.2 ∧ (stepC R p d n b).2 ≤ mPr n d + R (p + n) := by
  rcases stepC_or R p d n b with ⟨h, h2⟩ | ⟨h, h2⟩ <;> rw [h]
  · exact ⟨Int.le_refl _, by omega⟩
  · exact ⟨h2, Int.le_refl _⟩
/-- an invariant of all steps of cheapest -/
theorem cheapIn_inv {R : Nat → Int} {p d : Nat} {I : Sy × Int → Prop} (f n t : Nat) (hf : n + f = t + 1 ∨ f = 0) (hs : ∀ k b, n ≤ k → k ≤ t → I b → I (stepC R p d k b)) (b : Sy × Int) (hb : I b) : I (cheapIn R p d f n b) := by
  induction f generalizing n b with
  | zero => exact hb
  | succ f ih =>
    unfold cheapIn
    refine ih (n + 1) (by omega) (fun k b h1 h2 hb => hs k b (by omega) h2 hb) _ (hs n b (Nat.le_refl _) (by omega) hb)
theorem cheapGo_inv {R : Nat → Int} {p : Nat} {c : UInt8} {I : Sy × Int → Prop} (ms : List (Nat × Nat)) (h0 : I (⟨1, c, 0, 0⟩, 9 + R (p + 1))) (hs : ∀ m ∈ ms, ∀ k b, 3 ≤ k → k ≤ m.1 → I b → I (stepC R p m.2 k b)) : I (cheapL R p c ms) := by
  have : ∀ (ms : List (Nat × Nat)) (b : (Sy × Int) × Nat), 3 ≤ b.2 → I b.1 → (∀ m ∈ ms, ∀ k b, 3 ≤ k → k ≤ m.1 → I b → I (stepC R p m.2 k b)) → I (ms.foldl (cheapM R p) b).1 := by
    intro ms
    induction ms with
    | nil => intro b _ h _; exact h
    | cons m ms ih =>
      intro b h3 hb hs
      rw [List.foldl_cons]
      refine ih _ (by unfold cheapM; simp only []; omega) ?_ (fun m' hm' => hs m' (List.mem_cons_of_mem _ hm'))
      exact cheapIn_inv _ _ m.1 (by omega) (fun k b h1 h2 hb => hs m (List.mem_cons_self ..) k b (by omega) h2 hb) _ hb
  exact this ms _ (Nat.le_refl _) h0 hs
theorem cheapL_lit (R : Nat → Int) (p : Nat) (c : UInt8) (ms : List (Nat × Nat)) : (cheapL R p c ms).2 ≤ 9 + R (p + 1) :=
  cheapGo_inv (I := fun b => b.2 ≤ 9 + R (p + 1)) ms (Int.le_refl _) (fun m _ k b _ _ hb => Int.le_trans (stepC_le R p m.2 k b).1 hb)
theorem cheapL_nn (R : Nat → Int) (p : Nat) (c : UInt8) (ms : List (Nat × Nat)) (hR : ∀ k, 0 ≤ R k) : 0 ≤ (cheapL R p c ms).2 := by
  refine cheapGo_inv (I := fun b => 0 ≤ b.2) ms ?_ (fun m _ k b _ _ hb => ?_)
  · have := hR (p + 1); show (0 : Int) ≤ 9 + R (p + 1); omega
  · rcases stepC_or R p m.2 k b with ⟨h, _⟩ | ⟨h, _⟩ <;> rw [h]
    · exact hb
    · have := hR (p + k); have := (mPr_bd k m.2).1; show (0 : Int) ≤ mPr k m.2 + R (p + k); omega
/-- a plan's step: the literal, or a match in one of its lengths; its price and that of the rest -/
def StepOk (R : Nat → Int) (p : Nat) (c : UInt8) (ms : List (Nat × Nat)) (b : Sy × Int) : Prop :=
  (b.1 = ⟨1, c, 0, 0⟩ ∧ b.2 = 9 + R (p + 1)) ∨ ∃ n d : Nat, b.1 = ⟨2, 0, (n : Int), (d : Int)⟩ ∧ 3 ≤ n ∧ (∃ m ∈ ms, n ≤ m.1 ∧ m.2 = d) ∧ b.2 = mPr n d + R (p + n)
theorem cheapL_ok (R : Nat → Int) (p : Nat) (c : UInt8) (ms : List (Nat × Nat)) : StepOk R p c ms (cheapL R p c ms) := by
  refine cheapGo_inv (I := StepOk R p c ms) ms (.inl ⟨rfl, rfl⟩) (fun m hm k b h3 hk hb => ?_)
  rcases stepC_or R p m.2 k b with ⟨h, _⟩ | ⟨h, _⟩ <;> rw [h]
  · exact hb
  · exact .inr ⟨k, m.2, rfl, h3, ⟨m, hm, hk, rfl⟩, rfl⟩
/-! ### the table, from the end back -/
def planR (l : List UInt8) (hi : Nat) (dict : Int) : Nat → Nat → Sy × Int
  | 0, _ => (⟨0, 0, 0, 0⟩, 0)
  | k + 1, at_ => if at_ + (k + 1) = hi then cheapL (fun j => (planR l hi dict k j).2) at_ (l.getD at_ 0) (recL (mats l dict at_ (pmost hi at_ : Int))) else planR l hi dict k at_
theorem planR_new (l : List UInt8) (hi : Nat) (dict : Int) (k p : Nat) (h : p + (k + 1) = hi) : planR l hi dict (k + 1) p = cheapL (fun j => (planR l hi dict k j).2) p (l.getD p 0) (recL (mats l dict p (pmost hi p : Int))) := by
  show (if p + (k + 1) = hi then _ else _) = _
  rw [if_pos h]
theorem planR_old (l : List UInt8) (hi : Nat) (dict : Int) (k p : Nat) (h : p + (k + 1) ≠ hi) : planR l hi dict (k + 1) p = planR l hi dict k p := by
  show (if p + (k + 1) = hi then _ else _) = _
  rw [if_neg h]
theorem planR_bd (l : List UInt8) (hi : Nat) (dict : Int) : ∀ k p, 0 ≤ (planR l hi dict k p).2 ∧ (planR l hi dict k p).2 ≤ 9 * (k : Int) := by
  intro k
  induction k with
  | zero => intro p; exact ⟨Int.le_refl _, Int.le_refl _⟩
  | succ k ih =>
    intro p
    by_cases h : p + (k + 1) = hi
    · rw [planR_new l hi dict k p h]
      refine ⟨cheapL_nn _ _ _ _ (fun j => (ih j).1), Int.le_trans (cheapL_lit _ _ _ _) ?_⟩
      have := (ih (p + 1)).2
      omega
    · rw [planR_old l hi dict k p h]
      have := ih p
      omega
/-- the whole table -/
def planT (l : List UInt8) (hi : Nat) (dict : Int) (p : Nat) : Sy × Int := planR l hi dict (hi - p) p
theorem planR_T (l : List UInt8) (hi : Nat) (dict : Int) : ∀ k p, hi ≤ p + k → planR l hi dict k p = planT l hi dict p := by
  intro k
  induction k with
  | zero => intro p h; unfold planT; rw [show hi - p = 0 by omega]
  | succ k ih =>
    intro p h
    by_cases he : p + (k + 1) = hi
    · unfold planT; rw [show hi - p = k + 1 by omega]
    · rw [planR_old l hi dict k p he, ih p (by omega)]
theorem planR_above (l : List UInt8) (hi : Nat) (dict : Int) (p : Nat) (h : hi ≤ p) : ∀ k, planR l hi dict k p = (⟨0, 0, 0, 0⟩, 0) := by
  intro k
  induction k with
  | zero => rfl
  | succ k ih => rw [planR_old l hi dict k p (by omega), ih]
theorem planT_end (l : List UInt8) (hi : Nat) (dict : Int) (p : Nat) (h : hi ≤ p) : planT l hi dict p = (⟨0, 0, 0, 0⟩, 0) := planR_above l hi dict p h _
/-- the price function that a place's step was taken with agrees with the whole table behind the place -/
theorem planT_step (l : List UInt8) (hi : Nat) (dict : Int) (p : Nat) (h : p < hi) : ∃ R : Nat → Int, (∀ j, p < j → R j = (planT l hi dict j).2) ∧ (∀ j, 0 ≤ R j) ∧ planT l hi dict p = cheapL R p (l.getD p 0) (recL (mats l dict p (pmost hi p : Int))) := by
  obtain ⟨k, hk⟩ : ∃ k, hi - p = k + 1 := ⟨hi - p - 1, by omega⟩
  refine ⟨fun j => (planR l hi dict k j).2, fun j hj => ?_, fun j => (planR_bd l hi dict k j).1, ?_⟩
  · show (planR l hi dict k j).2 = _
    rw [planR_T l hi dict k j (by omega)]
  · unfold planT
    rw [hk]
    exact planR_new l hi dict k p (by omega)
/-- the plan, from the front -/
def pathGo (T : Nat → Sy) (hi : Nat) : Nat → Nat → List Sy
  | 0, _ => []
  | f + 1, p => if p < hi then T p :: pathGo T hi f (p + ysz (T p)) else []
theorem ysz_pos (y : Sy) : 1 ≤ ysz y := by unfold ysz; omega
theorem path_fuel (T : Nat → Sy) (hi : Nat) : ∀ f g p, hi - p ≤ f → hi - p ≤ g → pathGo T hi f p = pathGo T hi g p := by
  intro f
  induction f with
  | zero =>
    intro g p h1 h2
    cases g with
    | zero => rfl
    | succ g => unfold pathGo; rw [if_neg (by omega)]
  | succ f ih =>
    intro g p h1 h2
    by_cases hlt : p < hi
    · obtain ⟨g, rfl⟩ : ∃ k, g = k + 1 := ⟨g - 1, by omega⟩
      have hy := ysz_pos (T p)
      unfold pathGo
      rw [if_pos hlt, if_pos hlt, ih g _ (by omega) (by omega)]
    · cases g with
      | zero => unfold pathGo; rw [if_neg hlt]
      | succ g => unfold pathGo; rw [if_neg hlt, if_neg hlt]
theorem path_step (T : Nat → Sy) (hi p : Nat) (h : p < hi) : pathGo T hi (hi - p) p = T p :: pathGo T hi (hi - (p + ysz (T p))) (p + ysz (T p)) := by
  have hy := ysz_pos (T p)
  obtain ⟨f, hf⟩ : ∃ f, hi - p = f + 1 := ⟨hi - p - 1, by omega⟩
  rw [hf]
  rw [path_fuel T hi (hi - (p + ysz (T p))) f _ (by omega) (by omega)]
  show (if p < hi then _ else _) = _
  rw [if_pos h]
theorem path_done (T : Nat → Sy) (hi p : Nat) (h : hi ≤ p) : pathGo T hi (hi - p) p = [] := by rw [show hi - p = 0 by omega]; rfl
def planL (l : List UInt8) (fr hi : Nat) (dict : Int) : List Sy := pathGo (fun p => (planT l hi dict p).1) hi (hi - fr) fr
theorem recGo_mem (l : List (Nat × Nat)) : ∀ m ∈ (recGo l).1, m ∈ l := by
  have : ∀ (l : List (Nat × Nat)) (b : List (Nat × Nat) × Nat), ∀ m ∈ (l.foldl (fun b m => if b.2 < m.1 then (b.1 ++ [m], m.1) else b) b).1, m ∈ b.1 ∨ m ∈ l := by
    intro l
    induction l with
    | nil => intro b m h; exact .inl h
    | cons a l ih =>
      intro b m h
      rw [List.foldl_cons] at h
      rcases ih _ m h with h | h
      · split at h
        · rcases List.mem_append.1 h with h | h
          · exact .inl h
          · simp at h; subst h; exact .inr (List.mem_cons_self ..)
        · exact .inl h
      · exact .inr (List.mem_cons_of_mem _ h)
  intro m h
  rcases this l ([], 0) m h with h | h
  · simp at h
  · exact h
/-- what a step of the table is -/
theorem planT_ok (l : List UInt8) (hi : Nat) (dict : Int) (p : Nat) (h : p < hi) : (((planT l hi dict p).1 = ⟨1, l.getD p 0, 0, 0⟩ ∧ (planT l hi dict p).2 = 9 + (planT l hi dict (p + 1)).2) ∨ ∃ n d : Nat, (planT l hi dict p).1 = ⟨2, 0, (n : Int), (d : Int)⟩ ∧ 3 ≤ n ∧ (∃ m ∈ mats l dict p (pmost hi p : Int), n ≤ m.1 ∧ m.2 = d) ∧ (planT l hi dict p).2 = mPr n d + (planT l hi dict (p + n)).2) := by
  obtain ⟨R, hR, _, hT⟩ := planT_step l hi dict p h
  have := cheapL_ok R p (l.getD p 0) (recL (mats l dict p (pmost hi p : Int)))
  rw [← hT] at this
  rcases this with ⟨h1, h2⟩ | ⟨n, d, h1, h2, ⟨m, hm, h3, h4⟩, h5⟩
  · exact .inl ⟨h1, by rw [h2, hR _ (by omega)]⟩
  · exact .inr ⟨n, d, h1, h2, ⟨m, recGo_mem _ m hm, h3, h4⟩, by rw [h5, hR _ (by omega)]⟩
theorem planT_ysz (l : List UInt8) (hi : Nat) (dict : Int) (p : Nat) (h : p < hi) : p + ysz (planT l hi dict p).1 ≤ hi := by
  rcases planT_ok l hi dict p h with ⟨h1, _⟩ | ⟨n, d, h1, h2, ⟨m, hm, h3, _⟩, _⟩
  · rw [h1]; show p + 1 ≤ hi; omega
  · rw [h1]
    obtain ⟨_, _, _, _, h5⟩ := mats_mem hm
    have hz : ysz ⟨2, 0, (n : Int), (d : Int)⟩ = n := by unfold ysz; simp only []; omega
    have : pmost hi p ≤ hi - p := by unfold pmost; omega
    unfold lft at h5
    rw [hz]
    omega
/-! ### lists of cells that one place of is written -/
theorem syc_set (l : List Sy) (i : Nat) (y : Sy) : ((((syc l).set (i * 4) (.int .i64 y.k)).set (i * 4 + 1) (.int .u8 (y.y.toNat : Int))).set (i * 4 + 2) (.int .i64 y.l)).set (i * 4 + 3) (.int .i64 y.x) = syc (l.set i y) := by
  induction l generalizing i with
  | nil => simp [syc]
  | cons z l ih =>
    cases i with
    | zero => simp [syc]
    | succ i =>
      have e : ∀ j, (i + 1) * 4 + j = i * 4 + j + 1 + 1 + 1 + 1 := fun j => by omega
      have e0 : (i + 1) * 4 = i * 4 + 1 + 1 + 1 + 1 := by omega
      rw [List.set_cons_succ]
      simp only [syc]
      rw [← ih i, e0, show i * 4 + 1 + 1 + 1 + 1 + 1 = (i * 4 + 1) + 1 + 1 + 1 + 1 by omega, show i * 4 + 1 + 1 + 1 + 1 + 2 = (i * 4 + 2) + 1 + 1 + 1 + 1 by omega, show i * 4 + 1 + 1 + 1 + 1 + 3 = (i * 4 + 3) + 1 + 1 + 1 + 1 by omega]
      simp only [List.set_cons_succ]
def restX (T : Nat → Sy × Int) (fr n : Nat) : List Value := (List.range n).map fun j => .int .i64 (T (fr + j)).2
def bestX (T : Nat → Sy × Int) (fr n : Nat) : List Sy := (List.range n).map fun j => (T (fr + j)).1
theorem range_set {α : Type} (n i : Nat) (f g : Nat → α) (hi : i < n) (hg : ∀ j, j < n → j ≠ i → g j = f j) : ((List.range n).map f).set i (g i) = (List.range n).map g := by
  apply List.ext_getElem?
  intro j
  by_cases hj : j < n
  · by_cases he : j = i
    · subst he
      rw [List.getElem?_set_self (by simpa using hj)]
      simp [hj]
    · rw [List.getElem?_set_ne (by omega)]
      simp [hj, hg j hj he]
  · simp [hj]
theorem restX_set (l : List UInt8) (hi : Nat) (dict : Int) (fr k i N : Nat) (h : fr + i + (k + 1) = hi) (hN : i < N) : (restX (planR l hi dict k) fr N).set i (.int .i64 (planR l hi dict (k + 1) (fr + i)).2) = restX (planR l hi dict (k + 1)) fr N :=
  range_set N i _ (fun j => Value.int .i64 (planR l hi dict (k + 1) (fr + j)).2) hN (fun j _ hj => by show Value.int _ _ = _; rw [planR_old l hi dict k (fr + j) (by omega)])
theorem bestX_set (l : List UInt8) (hi : Nat) (dict : Int) (fr k i N : Nat) (h : fr + i + (k + 1) = hi) (hN : i < N) : (bestX (planR l hi dict k) fr N).set i (planR l hi dict (k + 1) (fr + i)).1 = bestX (planR l hi dict (k + 1)) fr N :=
  range_set N i _ (fun j => (planR l hi dict (k + 1) (fr + j)).1) hN (fun j _ hj => by show Prod.fst _ = _; rw [planR_old l hi dict k (fr + j) (by omega)])
theorem restX_get (T : Nat → Sy × Int) (fr N i : Nat) (h : i < N) : (restX T fr N)[i]? = some (.int .i64 (T (fr + i)).2) := by unfold restX; simp [h]
theorem bestX_get (T : Nat → Sy × Int) (fr N i : Nat) (h : i < N) : (bestX T fr N)[i]? = some (T (fr + i)).1 := by unfold bestX; simp [h]
theorem restX_len (T : Nat → Sy × Int) (fr N : Nat) : (restX T fr N).length = N := by unfold restX; simp
theorem bestX_len (T : Nat → Sy × Int) (fr N : Nat) : (bestX T fr N).length = N := by unfold bestX; simp
/-! ### Plan's inner function -/
theorem behind_any (l : List UInt8) (hi : Nat) (dict : Int) (k fr N j r1 r2 G : Nat) (rc : Nat) (w : World) (h1 : Blk w r1 61 #[.slice (some ⟨G, 0, none⟩) N rc]) (h2 : Blk w r2 3 #[.int .i64 fr]) {B : Nat} (hG : w.ownsRow B 3 1 (.slice (some ⟨G, 0, none⟩) N rc) N (restX (planR l hi dict k) fr N)) (hj : fr ≤ j ∧ j < fr + N) (hb : fr + N ≤ 1073741825) :
    Calls Tryd.prog 46 #[.int .i64 (j : Int), .pointer (some ⟨r1, 0, none⟩), .pointer (some ⟨r2, 0, none⟩)] w fun e w' => e = .returned (.int .i64 (planR l hi dict k j).2) ∧ w = w' := by
  have c1 := h1.one
  have c2 := h2.one
  obtain ⟨i, rfl⟩ : ∃ i, j = fr + i := ⟨j - fr, by omega⟩
  have c3 : w.cell? ⟨G, i, none⟩ = some (.int .i64 (planR l hi dict k (fr + i)).2) := by
    rw [hG.cellAt (g := G) (cap := rc) i (by omega)]
    exact restX_get _ _ _ _ (by omega)
  obtain ⟨v, hv⟩ : ∃ v, (planR l hi dict k (fr + i)).2 = v := ⟨_, rfl⟩
  rw [hv] at c3 ⊢
  have hx : ((fr + i : Nat) : Int) = (fr : Int) + (i : Int) := by omega
  rw [hx]
  have hs : (fr : Int) + (i : Int) - (fr : Int) = (i : Int) := by omega
  have hi' : (i : Int) < (N : Int) := by omega
  clear hG h1 h2 hv hx
  go_enter Tryd.func46, Tryd.ntmps46
  go_wp2_with fail
  go_ret
  exact ⟨rfl, rfl⟩
end Go.Proofs.YthlflcnpmabmbaaDoor
