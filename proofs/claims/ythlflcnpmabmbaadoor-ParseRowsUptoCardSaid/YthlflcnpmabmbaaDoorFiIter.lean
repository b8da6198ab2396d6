/-
  The iterator of the matches. Conditions: the finder lies in memory, and no round changes its parts but the place.
-/
import Derived.Test.YthlflcnpmabmbaaDoorFiSrch
import Derived.Laws.Cover3
import Derived.Test.YthlflcnpmabmbaaDoorFiNew
namespace Go.Proofs.YthlflcnpmabmbaaDoor
open Go.RowKit Go.Shelf
attribute [local go_sem] Oper.semAt_some
set_option maxRecDepth 100000

/-! ### the candidates -/
def candL (l : List UInt8) (p : Nat) : List Nat := (plc l (l.length - 2) (wordAt l p)).filter (fun q => decide (q < p))
def cand (l : List UInt8) (dict : Int) (p : Nat) : List Nat := ((candL l p).reverse.take 32).takeWhile (fun q => decide ((p : Int) - (q : Int) ≤ dict))
def mats (l : List UInt8) (dict : Int) (p : Nat) (most : Int) : List (Nat × Nat) := if lft l p most < 3 then [] else (cand l dict p).map (fun q => (ext l q p (lft l p most), p - q))
theorem plc_sorted (l : List UInt8) (k : Nat) (t : UInt8 × UInt8 × UInt8) : (plc l k t).Pairwise (· < ·) := List.Pairwise.filter _ List.pairwise_lt_range
theorem plc_mem {l : List UInt8} {k q : Nat} {t : UInt8 × UInt8 × UInt8} : q ∈ plc l k t ↔ q < k ∧ wordAt l q = t := by
  unfold plc
  simp [List.mem_filter, List.mem_range]
theorem takeWhile_get {α : Type} (f : α → Bool) : ∀ (l : List α) (j : Nat), j < (l.takeWhile f).length → ∃ x, l[j]? = some x ∧ (l.takeWhile f)[j]? = some x ∧ f x = true
  | [], j, h => by simp at h
  | a :: r, j, h => by
    rw [List.takeWhile_cons] at h ⊢
    cases hf : f a with
    | false => simp [hf] at h
    | true =>
      simp only [hf, if_true] at h ⊢
      cases j with
      | zero => exact ⟨a, rfl, rfl, hf⟩
      | succ j =>
        obtain ⟨x, h1, h2, h3⟩ := takeWhile_get f r j (by simpa using h)
        exact ⟨x, by simpa using h1, by simpa using h2, h3⟩
theorem takeWhile_stop {α : Type} (f : α → Bool) : ∀ (l : List α) (x : α), l[(l.takeWhile f).length]? = some x → f x = false
  | [], x, h => by simp at h
  | a :: r, x, h => by
    rw [List.takeWhile_cons] at h
    cases hf : f a with
    | false =>
      simp [hf] at h
      rw [← h]; exact hf
    | true =>
      simp only [hf, if_true, List.length_cons, List.getElem?_cons_succ] at h
      exact takeWhile_stop f r x h
theorem cand_le (l : List UInt8) (dict : Int) (p : Nat) : (cand l dict p).length ≤ 32 ∧ (cand l dict p).length ≤ (candL l p).length := by
  have h := (List.takeWhile_prefix (l := (candL l p).reverse.take 32) (fun q => decide ((p : Int) - (q : Int) ≤ dict))).length_le
  rw [List.length_take, List.length_reverse] at h
  unfold cand
  omega
theorem cand_at {l : List UInt8} {dict : Int} {p j : Nat} (hj : j < (cand l dict p).length) : ∃ q, (candL l p)[(candL l p).length - 1 - j]? = some q ∧ (cand l dict p)[j]? = some q ∧ (p : Int) - (q : Int) ≤ dict := by
  have hle := cand_le l dict p
  obtain ⟨q, h1, h2, h3⟩ := takeWhile_get _ _ _ hj
  refine ⟨q, ?_, h2, of_decide_eq_true h3⟩
  rw [List.getElem?_take, if_pos (by omega), List.getElem?_reverse (by omega)] at h1
  exact h1
theorem cand_stop {l : List UInt8} {dict : Int} {p : Nat} (h1 : (cand l dict p).length < 32) (h2 : (cand l dict p).length < (candL l p).length) : ∃ q, (candL l p)[(candL l p).length - 1 - (cand l dict p).length]? = some q ∧ dict < (p : Int) - (q : Int) := by
  obtain ⟨N, hN⟩ : ∃ N, (cand l dict p).length = N := ⟨_, rfl⟩
  rw [hN] at h1 h2 ⊢
  have hx : ((candL l p).reverse.take 32)[N]? = (candL l p)[(candL l p).length - 1 - N]? := by
    rw [List.getElem?_take, if_pos h1, List.getElem?_reverse h2]
  refine ⟨(candL l p)[(candL l p).length - 1 - N]'(by omega), List.getElem?_eq_getElem _, ?_⟩
  have := takeWhile_stop (fun q : Nat => decide ((p : Int) - (q : Int) ≤ dict)) ((candL l p).reverse.take 32) ((candL l p)[(candL l p).length - 1 - N]'(by omega)) (by
    show ((candL l p).reverse.take 32)[(cand l dict p).length]? = _
    rw [hN, hx]; exact List.getElem?_eq_getElem _)
  have := of_decide_eq_false this
  omega
theorem candL_mem {l : List UInt8} {p q : Nat} : q ∈ candL l p ↔ q < l.length - 2 ∧ wordAt l q = wordAt l p ∧ q < p := by
  unfold candL
  rw [List.mem_filter, plc_mem]
  simp [and_assoc]
theorem sorted_take {xs : List Nat} (h : xs.Pairwise (· < ·)) (p : Nat) : xs.take (xs.filter (fun q => decide (q < p))).length = xs.filter (fun q => decide (q < p)) := by
  induction xs with
  | nil => rfl
  | cons a r ih =>
    obtain ⟨h1, h2⟩ := List.pairwise_cons.1 h
    by_cases ha : a < p
    · simp [ha, ih h2]
    · have : r.filter (fun q => decide (q < p)) = [] := List.filter_eq_nil_iff.2 (fun b hb => by have := h1 b hb; simp; omega)
      simp [ha, this]
theorem candL_take (l : List UInt8) (p : Nat) : (plc l (l.length - 2) (wordAt l p)).take (candL l p).length = candL l p := sorted_take (plc_sorted _ _ _) p
theorem SInts_plc {va : Option Addr} {vc base p : Nat} {ps : List Nat} {w : World} (ho : w.ownsInts base 3 .i64 (.slice va ps.length vc) (ofN ps)) (hs : ps.Pairwise (· < ·)) (hsz : ps.length < 4611686018427387904) :
    Calls Tryd.prog 74 #[.slice va ps.length vc, .int .i64 p] w fun e w' => e = .returned (.int .i64 ((ps.filter (fun q => decide (q < p))).length : Nat)) ∧ Below w.heap.size w w' := by
  rcases ho.1.2 with ⟨hv, h0⟩ | ⟨g, cap, cur, hv, hg1, hgg, hn, hc, hs2, hx⟩
  · have hl : ps.length = 0 := by unfold ofN at h0; simpa using h0
    obtain rfl : ps = [] := List.eq_nil_of_length_eq_zero hl
    exact Any.sort_SearchInts_none laysS va vc p w
  · have hl : (ofN ps).length = ps.length := by unfold ofN; simp
    injection hv with e1 e2 e3
    subst e1
    have hcell : ∀ i, i < (ofN ps).toArray.size → w.cell? ⟨g, 0 + i, none⟩ = some ((Value.int .i64) (ofN ps).toArray[i]!) := fun i hi => by
      have hi' : i < (ofN ps).length := by simpa using hi
      have ho1 := ho.1
      rw [hl] at ho1
      have := ho1.cellAt (g := g) (cap := vc) i (by omega)
      rw [Nat.zero_add, this]
      simp [hi']
    have h := SInts_any g vc (ofN ps).toArray p w hcell (Array.getElem?_eq_some_iff.1 hgg).1 (by simp [hl]; exact hsz) (fun a b hab hb h => by
      have hb' : b < ps.length := by simpa [hl] using hb
      have ha' : a < ps.length := by omega
      have h := of_decide_eq_true h
      refine decide_eq_true ?_
      have ea : (ofN ps).toArray[a]! = (ps[a] : Int) := by simp [ofN, ha']
      have eb : (ofN ps).toArray[b]! = (ps[b] : Int) := by simp [ofN, hb']
      rw [ea] at h
      rw [eb]
      rcases Nat.eq_or_lt_of_le hab with e | e
      · subst e; exact h
      · have := (List.pairwise_iff_getElem.1 hs) a b ha' hb' e
        omega)
    have hcount : (ofN ps).toArray.toList.countP (fun y => !decide ((p : Int) ≤ y)) = (ps.filter (fun q => decide (q < p))).length := by
      rw [← List.countP_eq_length_filter]
      unfold ofN
      rw [List.toList_toArray, List.countP_map]
      congr 1
      funext q
      show (!decide ((p : Int) ≤ (q : Int))) = decide (q < p)
      rcases Nat.lt_or_ge q p with h | h
      · have h2 : ¬ (p : Int) ≤ (q : Int) := by omega
        rw [decide_eq_false h2, decide_eq_true h]; rfl
      · have h2 : (p : Int) ≤ (q : Int) := by omega
        have h3 : ¬ q < p := by omega
        rw [decide_eq_true h2, decide_eq_false h3]; rfl
    rw [hcount] at h
    simpa [hl] using h
end Go.Proofs.YthlflcnpmabmbaaDoor
