
/-
  Plain law: reps told as matches, short reps as literals, make the same bytes. No conditions beyond each lemma's own.
-/
import Derived.Test.YthcgchkcanhmnaaDoorSymP
namespace Go.Proofs.YthcgchkcanhmnaaDoor
open Go.RowKit

def plS (s : St) (y : Sy) (c : UInt8) : Sy := if y.k = 3 then ⟨2, 0, y.l, s.rep y.x⟩ else if y.k = 4 then ⟨1, c, 0, 0⟩ else y
def rnStep (size : Nat) (p : St × List UInt8) (y : Sy) : St × List UInt8 := (apS size p.2 p.1 y, p.2 ++ apB size p.2 p.1 y)
def rn (size : Nat) (row : List Sy) : St × List UInt8 := row.foldl (rnStep size) (St.start, [])
theorem rn_snoc (size : Nat) (row : List Sy) (y : Sy) : rn size (row ++ [y]) = rnStep size (rn size row) y := by unfold rn; rw [List.foldl_append]; rfl
theorem Tk.rn {size : Nat} {row : List Sy} {s : St} {all : List UInt8} (h : Tk size row s all) : rn size row = (s, all) := by
  induction h with
  | nil => rfl
  | snoc y _ _ ih => rw [rn_snoc, ih]; rfl
/-- the next symbol of a taken row -/
theorem Tk.next {size : Nat} {row : List Sy} {s : St} {all : List UInt8} (h : Tk size row s all) {i : Nat} {y : Sy} (hy : row[i]? = some y) :
    apE size (Proofs.YthcgchkcanhmnaaDoor.rn size (row.take i)).2 (Proofs.YthcgchkcanhmnaaDoor.rn size (row.take i)).1 y = 0 ∧ Tk size (row.take i) (Proofs.YthcgchkcanhmnaaDoor.rn size (row.take i)).1 (Proofs.YthcgchkcanhmnaaDoor.rn size (row.take i)).2 ∧
      Proofs.YthcgchkcanhmnaaDoor.rn size (row.take (i + 1)) = rnStep size (Proofs.YthcgchkcanhmnaaDoor.rn size (row.take i)) y ∧ (Proofs.YthcgchkcanhmnaaDoor.rn size (row.take (i + 1))).2.length ≤ all.length ∧ all.take (Proofs.YthcgchkcanhmnaaDoor.rn size (row.take (i + 1))).2.length = (Proofs.YthcgchkcanhmnaaDoor.rn size (row.take (i + 1))).2 := by
  have hi : i < row.length := (List.getElem?_eq_some_iff.1 hy).1
  have ht : row.take (i + 1) = row.take i ++ [y] := by rw [List.take_add_one, hy]; rfl
  obtain ⟨s1, a1, h1, h2, h3⟩ := h.front (i + 1) (by omega)
  have h1' := h1
  rw [ht] at h1'
  obtain ⟨s0, a0, k1, k2, rfl, rfl⟩ := h1'.back
  have e0 := k1.rn
  have e1 := h1.rn
  rw [e0, e1]
  exact ⟨k2, k1, rfl, h2, h3⟩
theorem rep_isD {s : St} (h : s.right) {i : Int} (hi : repOk i) : isD (s.rep i) := by
  obtain ⟨ha, hb, hc, hd, _⟩ := h
  unfold repOk at hi
  unfold St.rep
  split
  · exact ha
  · split
    · exact hb
    · split
      · exact hc
      · exact hd
theorem lit_taken {size : Nat} {pl : List Sy} {s2 : St} {all : List UInt8} (hP : Tk size pl s2 all) (y : Sy) (hk : y.k = 1) : ∃ s3, Tk size (pl ++ [y]) s3 (all ++ [y.y]) := by
  have he : apE size all s2 y = 0 := by
    refine apE_zero.2 ⟨?_, .inl hk⟩
    unfold nextE
    rw [if_pos hP.right]
    unfold formedN
    rw [if_pos hk]
  have := Tk.snoc y hP he
  rw [apB_eq he, if_pos hk] at this
  exact ⟨_, this⟩
theorem match_taken {size : Nat} {pl : List Sy} {s2 : St} {all : List UInt8} (hP : Tk size pl s2 all) (y : Sy) (hk : y.k = 2) (hl : isL y.l) (hx : isD y.x) (hf : y.x ≤ full size all) :
    ∃ s3, Tk size (pl ++ [y]) s3 (all ++ (ext (y.x).toNat (y.l).toNat all).drop all.length) := by
  have hd : distOf s2 y = y.x := by unfold distOf; rw [if_pos hk]
  have hn : lenOf y = y.l := by unfold lenOf; rw [if_pos (.inl hk)]
  have he : apE size all s2 y = 0 := by
    refine apE_zero.2 ⟨?_, .inr (by rw [hd]; exact ⟨hx.1, hf⟩)⟩
    unfold nextE
    rw [if_pos hP.right, hk, formedN_2, if_pos ⟨hl, hx⟩]
  have := Tk.snoc y hP he
  rw [apB_eq he, if_neg (by omega), hd, hn] at this
  exact ⟨_, this⟩
/-- what is told plainly is taken too, and makes the same bytes -/
theorem plS_taken {size : Nat} {s : St} {pl : List Sy} {s2 : St} {all : List UInt8} {y : Sy} {c : UInt8} (hs : s.right) (he : apE size all s y = 0) (hP : Tk size pl s2 all) (hc : (all ++ apB size all s y)[all.length]? = some c) :
    ∃ s3, Tk size (pl ++ [plS s y c]) s3 (all ++ apB size all s y) := by
  obtain ⟨hn, hd⟩ := apE_zero.1 he
  rcases formedN_zero (nextE_zero hn).2 with k1 | k4 | ⟨k2, hL, hX⟩ | ⟨k3, hL, hX⟩
  · rw [apB_eq he, if_pos k1]
    unfold plS
    rw [if_neg (by omega), if_neg (by omega)]
    exact lit_taken hP y k1
  · have hlen := (szN_of he).1
    have hz : szN y = 1 := by unfold szN; rw [szF_of hn, if_neg (by omega)]; rfl
    have hb : apB size all s y = [c] := by
      rw [hz] at hlen
      obtain ⟨x, hx⟩ := List.length_eq_one_iff.1 hlen
      rw [hx] at hc ⊢
      rw [List.getElem?_append_right (Nat.le_refl _), Nat.sub_self] at hc
      simpa using hc
    rw [hb]
    unfold plS
    rw [if_neg (by omega), if_pos k4]
    exact lit_taken hP ⟨1, c, 0, 0⟩ rfl
  · have hdd : distOf s y = y.x := by unfold distOf; rw [if_pos k2]
    have hln : lenOf y = y.l := by unfold lenOf; rw [if_pos (.inl k2)]
    rw [apB_eq he, if_neg (by omega), hdd, hln]
    unfold plS
    rw [if_neg (by omega), if_neg (by omega)]
    rcases hd with hd | hd
    · omega
    · exact match_taken hP y k2 hL hX (by rw [hdd] at hd; exact hd.2)
  · have hdd : distOf s y = s.rep y.x := by unfold distOf; rw [if_neg (by omega), if_pos k3]
    have hln : lenOf y = y.l := by unfold lenOf; rw [if_pos (.inr k3)]
    rw [apB_eq he, if_neg (by omega), hdd, hln]
    unfold plS
    rw [if_pos k3]
    rcases hd with hd | hd
    · omega
    · exact match_taken hP ⟨2, 0, y.l, s.rep y.x⟩ rfl hL (rep_isD hs hX) (by rw [hdd] at hd; exact hd.2)
/-- the byte that stands in the whole where the symbol begins -/
theorem whole_at {all al bs : List UInt8} (h : all.take (al ++ bs).length = al ++ bs) (hb : 1 ≤ bs.length) : ∃ c, all[al.length]? = some c ∧ (al ++ bs)[al.length]? = some c := by
  have h1 : (al ++ bs)[al.length]? = all[al.length]? := by
    rw [← h, List.getElem?_take]
    rw [if_pos (by rw [List.length_append]; omega)]
  obtain ⟨c, hc⟩ : ∃ c, (al ++ bs)[al.length]? = some c := ⟨_, List.getElem?_eq_getElem (by rw [List.length_append]; omega)⟩
  exact ⟨c, h1 ▸ hc, hc⟩
end Go.Proofs.YthcgchkcanhmnaaDoor
