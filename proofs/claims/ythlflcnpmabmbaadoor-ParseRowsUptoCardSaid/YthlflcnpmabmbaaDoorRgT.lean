/-
  What the program refuses; Greedy, Plan and Cheap of both packages as plain functions; the law's own functions. Conditions: the data lie in memory; a list that is changed is the call's own.
-/
import Derived.Test.YthlflcnpmabmbaaDoorRgD
import Derived.Test.YthlflcnpmabmbaaDoorPaC
import Derived.Test.YthlflcnpmabmbaaDoorRgW
import Derived.Test.YthlflcnpmabmbaaDoorPaQ
namespace Go.Proofs.YthlflcnpmabmbaaDoor
open Go.RowKit Go.Shelf
attribute [local go_sem] Oper.semAt_some
set_option maxRecDepth 100000

theorem newPiece_no (A : Option Addr) (m c : Nat) (fr hi di : Int) (w : World) (hne : refE m fr hi di ≠ 0) :
    Calls Tryd.prog 40 #[.slice A m c, .int .i64 fr, .int .i64 hi, .int .i64 di] w fun e w' => e = .returned (.tuple #[.pointer none, .int .i64 (refE m fr hi di)]) ∧ w' = w := by
  by_cases h : fr < 0 ∨ hi < fr ∨ (m : Int) < hi
  · rw [show refE m fr hi di = 7 from if_pos h]
    exact newPiece_range A m c fr hi di w h
  · have e0 : refE m fr hi di = if di < 1 ∨ 4294967295 < di then 6 else 0 := if_neg h
    by_cases g : di < 1 ∨ 4294967295 < di
    · rw [e0, if_pos g]
      exact newPiece_dict A m c fr hi di w (by omega) g
    · rw [e0, if_neg g] at hne
      exact absurd rfl hne
set_option maxHeartbeats 4000000 in
theorem Plan_no (A : Option Addr) (m c : Nat) (fr hi di : Int) (w : World) (hne : refE m fr hi di ≠ 0) :
    Calls Tryd.prog 15 #[.slice A m c, .int .i64 fr, .int .i64 hi, .int .i64 di] w fun e w' => e = .returned (.tuple #[.slice none 0 0, .int .i64 (refE m fr hi di)]) ∧ Below w.heap.size w w' := by
  have HN := Lib.hid (fun W => newPiece_no A m c fr hi di W hne)
  obtain ⟨R, hR⟩ : ∃ R, refE m fr hi di = R := ⟨_, rfl⟩
  rw [hR] at HN hne ⊢
  have e2 : (R != 0) = true := by simp [hne]
  obtain ⟨B, hB⟩ : ∃ B, w.heap.size = B := ⟨_, rfl⟩
  obtain ⟨w1, hw1⟩ : ∃ w1, w.alloc (.cells #[.int .i64 fr] 3) = w1 := ⟨_, rfl⟩
  have hb1 : Below w.heap.size w w1 := by rw [← hw1]; exact (Below.refl _ _).alloc (Nat.le_refl _) _
  have hS1 : Blk w1 B 3 #[.int .i64 fr] := by rw [← hw1]; exact Blk.new_at hB.symm
  have x0 := hS1.one
  have HI := Lib.hid hb1
  clear hne hR hb1 hS1
  go_enter Tryd.func15, Tryd.ntmps15
  go_wp2_with fail
  clear hw1 hB
  refine (HN.out w1).mono ?_
  rintro e wa ⟨rfl, hwa⟩
  subst hwa
  go_wp2_with fail
  exact bodyPost_ret (v := .tuple #[.slice none 0 0, .int .i64 R]) (by simp [results, Tryd.results15, go_sem, *]) rfl ⟨rfl, HI.out⟩
set_option maxHeartbeats 4000000 in
theorem Greedy_no (A : Option Addr) (m c : Nat) (l : List UInt8) (fr hi di : Int) (s : St) (w : World) (h : In w A m l) (h0 : m = 0 → A = none ∧ c = 0 ∨ ∃ a, A = some a) (hmc : m ≤ c) (hm : m ≤ 1048576) (hl : Laid w) (hne : rowE m fr hi di s ≠ 0) :
    Calls Tryd.prog 13 #[.slice A m c, .int .i64 fr, .int .i64 hi, .int .i64 di, s.v] w fun e w' => e = .returned (.tuple #[.slice none 0 0, St.zero.v, .int .i64 (rowE m fr hi di s)]) ∧ Below w.heap.size w w' := by
  have hc := rowE_ne hne
  obtain ⟨E, hE⟩ : ∃ E, rowE m fr hi di s = E := ⟨_, rfl⟩
  rw [hE] at hc ⊢
  obtain ⟨B, hB⟩ : ∃ B, w.heap.size = B := ⟨_, rfl⟩
  obtain ⟨w1, hw1⟩ : ∃ w1, (w.alloc (.cells #[.int .i64 s.n, .int .i64 s.a, .int .i64 s.b, .int .i64 s.c, .int .i64 s.d] 37)).alloc (.cells #[.int .i64 0, .int .i64 0, .int .i64 0, .int .i64 0, .int .i64 0] 37) = w1 := ⟨_, rfl⟩
  have hb1 : Below w.heap.size w w1 := by rw [← hw1]; exact ((Below.refl _ _).alloc (Nat.le_refl _) _).alloc (by simp) _
  have hS1 : Blk w1 B 37 #[.int .i64 s.n, .int .i64 s.a, .int .i64 s.b, .int .i64 s.c, .int .i64 s.d] := by rw [← hw1]; exact (Blk.new_at hB.symm).alloc _
  have hT1 : Blk w1 (B + 1) 37 #[.int .i64 0, .int .i64 0, .int .i64 0, .int .i64 0, .int .i64 0] := by rw [← hw1]; exact Blk.new_at (by simp [hB])
  have HI := Lib.hid (And.intro hb1 (And.intro hS1 (And.intro hT1 hB)))
  have HBel : Hid (∀ (W : World) (u0 u1 u2 u3 u4 : Value), Below w1.heap.size w1 W → Below w.heap.size w (((((W.setCell ⟨B + 1, 0, none⟩ u0).setCell ⟨B + 1, 1, none⟩ u1).setCell ⟨B + 1, 2, none⟩ u2).setCell ⟨B + 1, 3, none⟩ u3).setCell ⟨B + 1, 4, none⟩ u4)) := fun W u0 u1 u2 u3 u4 hW => by
    have hB : w.heap.size ≤ B + 1 := by have := HI.out.2.2.2; omega
    exact (((((bup HI.out.1 hW).setCell (p := ⟨B + 1, 0, none⟩) hB _).setCell (p := ⟨B + 1, 1, none⟩) hB _).setCell (p := ⟨B + 1, 2, none⟩) hB _).setCell (p := ⟨B + 1, 3, none⟩) hB _).setCell (p := ⟨B + 1, 4, none⟩) hB _
  rcases hc with ⟨h1, h2⟩ | ⟨h1, h2, h3⟩
  · have HN := Lib.hid (fun W => newPiece_no A m c fr hi di W h1)
    rw [h2]
    obtain ⟨R, hR⟩ : ∃ R, refE m fr hi di = R := ⟨_, rfl⟩
    rw [hR] at HN h1 ⊢
    have e2 : (R != 0) = true := by simp [h1]
    unfold St.v stC
    obtain ⟨⟨t0, t1, t2, t3, t4⟩, ⟨f0, f1, f2, f3, f4⟩⟩ := st_five hT1
    have htl := hT1.lt
    clear h1 h2 hE hR h h0 hl hne hb1 hS1 hT1
    go_enter Tryd.func13, Tryd.ntmps13
    go_wp2_with fail
    clear hw1 hB
    refine (HN.out w1).mono ?_
    rintro e wa ⟨rfl, hwa⟩
    subst hwa
    go_wp2_with fail
    exact bodyPost_ret (v := .tuple #[.slice none 0 0, .agg #[.int .i64 0, .int .i64 0, .int .i64 0, .int .i64 0, .int .i64 0], .int .i64 R]) (by simp [results, Tryd.results13, go_sem, *]) rfl ⟨rfl, HBel.out _ _ _ _ _ _ (Below.refl _ _)⟩
  · rw [h3]
    obtain ⟨r1, r2, r3, r4, r5⟩ := refE_zero.1 h1
    obtain ⟨frn, rfl⟩ : ∃ n : Nat, fr = (n : Int) := ⟨fr.toNat, by omega⟩
    obtain ⟨hin, rfl⟩ : ∃ n : Nat, hi = (n : Int) := ⟨hi.toNat, by omega⟩
    have HN := Lib.hid (newPiece_ok A m c l frn hin di w1 (h.below hb1) h0 hmc (by omega) (by omega) (by omega) ⟨r4, r5⟩)
    have HRi : Hid (∀ W, Laid W → Calls Tryd.prog 41 #[s.v] W fun e w' => e = .returned (.int .i64 7) ∧ Below W.heap.size W w') := fun W hW => by
      have := pright_any s W hW
      rw [if_neg h2] at this
      exact this
    have HL : Hid (∀ W, Below w1.heap.size w1 W → Laid W) := fun W hW => (hl.below hb1).below hW
    unfold St.v stC at HRi
    unfold St.v stC
    clear h1 h2 h3 hE h h0 hl hne hb1 hS1 hT1
    go_enter Tryd.func13, Tryd.ntmps13
    go_wp2_with fail
    clear hw1 hB
    refine HN.out.mono ?_
    rintro e wa ⟨⟨q, cb, A', m', c', l', hi', dict'⟩, rfl, e1, e2, e3, e4, e5, e6, hqL, hcb, hP, hba⟩
    obtain ⟨⟨s0, s1, s2, s3, s4⟩, _⟩ := st_five (HI.out.2.1.below hba)
    have HA := Lib.hid hba
    clear e1 e2 e3 e4 e5 e6 hqL hcb hP hba HN
    go_wp2_with fail
    refine (HRi.out wa (HL.out wa HA.out)).mono ?_
    rintro e wb ⟨rfl, hbb⟩
    have HB := Lib.hid (bup HA.out hbb)
    obtain ⟨⟨t0, t1, t2, t3, t4⟩, ⟨f0, f1, f2, f3, f4⟩⟩ := st_five (HI.out.2.2.1.below (bup HA.out hbb))
    have htl := (HI.out.2.2.1.below (bup HA.out hbb)).lt
    clear s0 s1 s2 s3 s4 hbb
    go_wp2_with fail
    exact bodyPost_ret (v := .tuple #[.slice none 0 0, .agg #[.int .i64 0, .int .i64 0, .int .i64 0, .int .i64 0, .int .i64 0], .int .i64 7]) (by simp [results, Tryd.results13, go_sem, *]) rfl ⟨rfl, HBel.out _ _ _ _ _ _ HB.out⟩
set_option maxHeartbeats 4000000 in
theorem Cheap_no (A : Option Addr) (m c : Nat) (l : List UInt8) (fr hi di : Int) (s : St) (w : World) (h : In w A m l) (h0 : m = 0 → A = none ∧ c = 0 ∨ ∃ a, A = some a) (hmc : m ≤ c) (hm : m ≤ 1048576) (hl : Laid w) (hne : rowE m fr hi di s ≠ 0) :
    Calls Tryd.prog 17 #[.slice A m c, .int .i64 fr, .int .i64 hi, .int .i64 di, s.v] w fun e w' => e = .returned (.tuple #[.slice none 0 0, St.zero.v, .int .i64 (rowE m fr hi di s)]) ∧ Below w.heap.size w w' := by
  have hc := rowE_ne hne
  obtain ⟨E, hE⟩ : ∃ E, rowE m fr hi di s = E := ⟨_, rfl⟩
  rw [hE] at hc ⊢
  obtain ⟨B, hB⟩ : ∃ B, w.heap.size = B := ⟨_, rfl⟩
  obtain ⟨w1, hw1⟩ : ∃ w1, (w.alloc (.cells #[.int .i64 s.n, .int .i64 s.a, .int .i64 s.b, .int .i64 s.c, .int .i64 s.d] 37)).alloc (.cells #[.int .i64 0, .int .i64 0, .int .i64 0, .int .i64 0, .int .i64 0] 37) = w1 := ⟨_, rfl⟩
  have hb1 : Below w.heap.size w w1 := by rw [← hw1]; exact ((Below.refl _ _).alloc (Nat.le_refl _) _).alloc (by simp) _
  have hS1 : Blk w1 B 37 #[.int .i64 s.n, .int .i64 s.a, .int .i64 s.b, .int .i64 s.c, .int .i64 s.d] := by rw [← hw1]; exact (Blk.new_at hB.symm).alloc _
  have hT1 : Blk w1 (B + 1) 37 #[.int .i64 0, .int .i64 0, .int .i64 0, .int .i64 0, .int .i64 0] := by rw [← hw1]; exact Blk.new_at (by simp [hB])
  have HI := Lib.hid (And.intro hb1 (And.intro hS1 (And.intro hT1 hB)))
  have HBel : Hid (∀ (W : World) (u0 u1 u2 u3 u4 : Value), Below w1.heap.size w1 W → Below w.heap.size w (((((W.setCell ⟨B + 1, 0, none⟩ u0).setCell ⟨B + 1, 1, none⟩ u1).setCell ⟨B + 1, 2, none⟩ u2).setCell ⟨B + 1, 3, none⟩ u3).setCell ⟨B + 1, 4, none⟩ u4)) := fun W u0 u1 u2 u3 u4 hW => by
    have hB : w.heap.size ≤ B + 1 := by have := HI.out.2.2.2; omega
    exact (((((bup HI.out.1 hW).setCell (p := ⟨B + 1, 0, none⟩) hB _).setCell (p := ⟨B + 1, 1, none⟩) hB _).setCell (p := ⟨B + 1, 2, none⟩) hB _).setCell (p := ⟨B + 1, 3, none⟩) hB _).setCell (p := ⟨B + 1, 4, none⟩) hB _
  rcases hc with ⟨h1, h2⟩ | ⟨h1, h2, h3⟩
  · have HN := Lib.hid (fun W => Plan_no A m c fr hi di W h1)
    rw [h2]
    obtain ⟨R, hR⟩ : ∃ R, refE m fr hi di = R := ⟨_, rfl⟩
    rw [hR] at HN h1 ⊢
    have e2 : (R != 0) = true := by simp [h1]
    unfold St.v stC
    clear h1 h2 hE hR h h0 hl hne hb1 hS1 hT1
    go_enter Tryd.func17, Tryd.ntmps17
    go_wp2_with fail
    clear hw1 hB
    refine (HN.out w1).mono ?_
    rintro e wa ⟨rfl, hba⟩
    obtain ⟨⟨t0, t1, t2, t3, t4⟩, ⟨f0, f1, f2, f3, f4⟩⟩ := st_five (HI.out.2.2.1.below hba)
    have htl := (HI.out.2.2.1.below hba).lt
    have HA := Lib.hid hba
    clear hba
    go_wp2_with fail
    exact bodyPost_ret (v := .tuple #[.slice none 0 0, .agg #[.int .i64 0, .int .i64 0, .int .i64 0, .int .i64 0, .int .i64 0], .int .i64 R]) (by simp [results, Tryd.results17, go_sem, *]) rfl ⟨rfl, HBel.out _ _ _ _ _ _ HA.out⟩
  · rw [h3]
    obtain ⟨r1, r2, r3, r4, r5⟩ := refE_zero.1 h1
    obtain ⟨frn, rfl⟩ : ∃ n : Nat, fr = (n : Int) := ⟨fr.toNat, by omega⟩
    obtain ⟨hin, rfl⟩ : ∃ n : Nat, hi = (n : Int) := ⟨hi.toNat, by omega⟩
    have HN := Lib.hid (Plan_ok A m c l frn hin di w1 (h.below hb1) h0 hmc hm (by omega) (by omega) ⟨r4, r5⟩ (hl.below hb1))
    have HRi : Hid (∀ W, Laid W → Calls Tryd.prog 41 #[s.v] W fun e w' => e = .returned (.int .i64 7) ∧ Below W.heap.size W w') := fun W hW => by
      have := pright_any s W hW
      rw [if_neg h2] at this
      exact this
    have HL : Hid (∀ W, Below w1.heap.size w1 W → Laid W) := fun W hW => (hl.below hb1).below hW
    unfold St.v stC at HRi
    unfold St.v stC
    clear h1 h2 h3 hE h h0 hl hne hb1 hS1 hT1
    go_enter Tryd.func17, Tryd.ntmps17
    go_wp2_with fail
    clear hw1 hB
    refine HN.out.mono ?_
    rintro e wa ⟨L, lc, rfl, hrow, hba⟩
    obtain ⟨⟨s0, s1, s2, s3, s4⟩, _⟩ := st_five (HI.out.2.1.below hba)
    have HA := Lib.hid hba
    clear hrow hba HN
    go_wp2_with fail
    refine (HRi.out wa (HL.out wa HA.out)).mono ?_
    rintro e wb ⟨rfl, hbb⟩
    have HB := Lib.hid (bup HA.out hbb)
    obtain ⟨⟨t0, t1, t2, t3, t4⟩, ⟨f0, f1, f2, f3, f4⟩⟩ := st_five (HI.out.2.2.1.below (bup HA.out hbb))
    have htl := (HI.out.2.2.1.below (bup HA.out hbb)).lt
    clear s0 s1 s2 s3 s4 hbb
    go_wp2_with fail
    exact bodyPost_ret (v := .tuple #[.slice none 0 0, .agg #[.int .i64 0, .int .i64 0, .int .i64 0, .int .i64 0, .int .i64 0], .int .i64 7]) (by simp [results, Tryd.results17, go_sem, *]) rfl ⟨rfl, HBel.out _ _ _ _ _ _ HB.out⟩
/-! ### the plain functions -/
def grdL (l : List UInt8) (fr hi di : Int) (s : St) : List Sy × St := if rowE l.length fr hi di s = 0 then greedyGo l hi.toNat di (hi.toNat - fr.toNat) fr.toNat s else ([], St.zero)
def plnL (l : List UInt8) (fr hi di : Int) : List Sy := if refE l.length fr hi di = 0 then planL l fr.toNat hi.toNat di else []
def chpL (l : List UInt8) (fr hi di : Int) (s : St) : List Sy × St := if rowE l.length fr hi di s = 0 then cheapS l hi.toNat di fr.toNat s (planL l fr.toNat hi.toNat di) else ([], St.zero)
theorem greedy_len (l : List UInt8) (hi : Nat) (di : Int) : ∀ f p s, (greedyGo l hi di f p s).1.length ≤ f := by
  intro f
  induction f with
  | zero => intro p s; exact Nat.le_refl _
  | succ f ih =>
    intro p s
    unfold greedyGo
    split
    · simp only [List.length_cons]
      have := ih (p + ysz (firstP l hi di p s)) (nextS s (firstP l hi di p s))
      omega
    · exact Nat.zero_le _
theorem path_len (T : Nat → Sy) (hi : Nat) : ∀ f p, (pathGo T hi f p).length ≤ f := by
  intro f
  induction f with
  | zero => intro p; exact Nat.le_refl _
  | succ f ih =>
    intro p
    unfold pathGo
    split
    · simp only [List.length_cons]
      have := ih (p + ysz (T p))
      omega
    · exact Nat.zero_le _
theorem rowE_bd {m : Nat} {fr hi di : Int} {s : St} (h : rowE m fr hi di s = 0) : refE m fr hi di = 0 := (rowE_zero.1 h).1
theorem grdL_len (l : List UInt8) (fr hi di : Int) (s : St) : (grdL l fr hi di s).1.length ≤ l.length := by
  unfold grdL
  split
  · rename_i h
    obtain ⟨h1, h2, h3, _⟩ := refE_zero.1 (rowE_bd h)
    exact Nat.le_trans (greedy_len _ _ _ _ _ _) (by omega)
  · exact Nat.zero_le _
theorem planL_len (l : List UInt8) (fr hi : Nat) (di : Int) : (planL l fr hi di).length ≤ hi - fr := path_len _ _ _ _
theorem plnL_len (l : List UInt8) (fr hi di : Int) : (plnL l fr hi di).length ≤ l.length := by
  unfold plnL
  split
  · rename_i h
    obtain ⟨h1, h2, h3, _⟩ := refE_zero.1 h
    exact Nat.le_trans (planL_len _ _ _ _) (by omega)
  · exact Nat.zero_le _
theorem chpL_len (l : List UInt8) (fr hi di : Int) (s : St) : (chpL l fr hi di s).1.length ≤ l.length := by
  unfold chpL
  split
  · rename_i h
    obtain ⟨h1, h2, h3, _⟩ := refE_zero.1 (rowE_bd h)
    rw [cheapS_len]
    exact Nat.le_trans (planL_len _ _ _ _) (by omega)
  · exact Nat.zero_le _
/-- a row in new memory, a state, an error -/
def RowOut (ls : List Sy) (s : St) (er : Int) (w : World) (e : Ending) (w' : World) : Prop :=
  ∃ L lc, e = .returned (.tuple #[.slice L ls.length lc, .agg (stC s.n s.a s.b s.c s.d), .int .i64 er]) ∧ w'.ownsRow w.heap.size 24 4 (.slice L ls.length lc) ls.length (syc ls) ∧ Below w.heap.size w w'
def PlanOut (ls : List Sy) (er : Int) (w : World) (e : Ending) (w' : World) : Prop :=
  ∃ L lc, e = .returned (.tuple #[.slice L ls.length lc, .int .i64 er]) ∧ w'.ownsRow w.heap.size 24 4 (.slice L ls.length lc) ls.length (syc ls) ∧ Below w.heap.size w w'
section
variable (A : Option Addr) (m c : Nat) (l : List UInt8) (fr hi di : Int) (s : St) (w : World) (h : In w A m l) (h0 : m = 0 → A = none ∧ c = 0 ∨ ∃ a, A = some a) (hmc : m ≤ c) (hm : m ≤ 1048576) (hl : Laid w)
include h h0 hmc hm hl in
theorem Greedy_all : Calls Tryd.prog 13 #[.slice A m c, .int .i64 fr, .int .i64 hi, .int .i64 di, .agg (stC s.n s.a s.b s.c s.d)] w (RowOut (grdL l fr hi di s).1 (grdL l fr hi di s).2 (rowE m fr hi di s) w) := by
  unfold grdL
  rw [h.len]
  by_cases hz : rowE m fr hi di s = 0
  · rw [if_pos hz, hz]
    obtain ⟨h1, h2⟩ := rowE_zero.1 hz
    obtain ⟨r1, r2, r3, r4, r5⟩ := refE_zero.1 h1
    obtain ⟨frn, rfl⟩ : ∃ n : Nat, fr = (n : Int) := ⟨fr.toNat, by omega⟩
    obtain ⟨hin, rfl⟩ : ∃ n : Nat, hi = (n : Int) := ⟨hi.toNat, by omega⟩
    exact Greedy_ok A m c l frn hin di s w h h0 hmc hm (by omega) (by omega) ⟨r4, r5⟩ h2 hl
  · rw [if_neg hz]
    refine (Greedy_no A m c l fr hi di s w h h0 hmc hm hl hz).mono ?_
    rintro e w' ⟨rfl, hb⟩
    exact ⟨none, 0, rfl, World.ownsRow_nil _ _ _ _, hb⟩
include h h0 hmc hm hl in
theorem Cheap_all : Calls Tryd.prog 17 #[.slice A m c, .int .i64 fr, .int .i64 hi, .int .i64 di, .agg (stC s.n s.a s.b s.c s.d)] w (RowOut (chpL l fr hi di s).1 (chpL l fr hi di s).2 (rowE m fr hi di s) w) := by
  unfold chpL
  rw [h.len]
  by_cases hz : rowE m fr hi di s = 0
  · rw [if_pos hz, hz]
    obtain ⟨h1, h2⟩ := rowE_zero.1 hz
    obtain ⟨r1, r2, r3, r4, r5⟩ := refE_zero.1 h1
    obtain ⟨frn, rfl⟩ : ∃ n : Nat, fr = (n : Int) := ⟨fr.toNat, by omega⟩
    obtain ⟨hin, rfl⟩ : ∃ n : Nat, hi = (n : Int) := ⟨hi.toNat, by omega⟩
    refine (Cheap_ok A m c l frn hin di s w h h0 hmc hm (by omega) (by omega) ⟨r4, r5⟩ h2 hl).mono ?_
    rintro e w' ⟨L, lc, rfl, hrow, hb⟩
    simp only [Int.toNat_natCast]
    refine ⟨L, lc, ?_, ?_, hb⟩
    · rw [cheapS_len]; rfl
    · rw [cheapS_len]; exact hrow
  · rw [if_neg hz]
    refine (Cheap_no A m c l fr hi di s w h h0 hmc hm hl hz).mono ?_
    rintro e w' ⟨rfl, hb⟩
    exact ⟨none, 0, rfl, World.ownsRow_nil _ _ _ _, hb⟩
include h h0 hmc hm hl in
theorem Plan_all : Calls Tryd.prog 15 #[.slice A m c, .int .i64 fr, .int .i64 hi, .int .i64 di] w (PlanOut (plnL l fr hi di) (refE m fr hi di) w) := by
  unfold plnL
  rw [h.len]
  by_cases hz : refE m fr hi di = 0
  · rw [if_pos hz, hz]
    obtain ⟨r1, r2, r3, r4, r5⟩ := refE_zero.1 hz
    obtain ⟨frn, rfl⟩ : ∃ n : Nat, fr = (n : Int) := ⟨fr.toNat, by omega⟩
    obtain ⟨hin, rfl⟩ : ∃ n : Nat, hi = (n : Int) := ⟨hi.toNat, by omega⟩
    exact Plan_ok A m c l frn hin di w h h0 hmc hm (by omega) (by omega) ⟨r4, r5⟩ hl
  · rw [if_neg hz]
    refine (Plan_no A m c fr hi di w hz).mono ?_
    rintro e w' ⟨rfl, hb⟩
    exact ⟨none, 0, rfl, World.ownsRow_nil _ _ _ _, hb⟩
include h hmc hm in
theorem GreedyR_all : Calls Tryd.prog 18 #[.agg #[.slice A m c, .int .i64 fr, .int .i64 hi, .int .i64 di], .agg (stC s.n s.a s.b s.c s.d)] w (RowOut (grdL l fr hi di s).1 (grdL l fr hi di s).2 (rowE m fr hi di s) w) := by
  unfold grdL
  rw [h.len]
  by_cases hz : rowE m fr hi di s = 0
  · rw [if_pos hz, hz]
    obtain ⟨h1, h2⟩ := rowE_zero.1 hz
    obtain ⟨r1, r2, r3, r4, r5⟩ := refE_zero.1 h1
    obtain ⟨frn, rfl⟩ : ∃ n : Nat, fr = (n : Int) := ⟨fr.toNat, by omega⟩
    obtain ⟨hin, rfl⟩ : ∃ n : Nat, hi = (n : Int) := ⟨hi.toNat, by omega⟩
    exact GreedyR_ok A m c l frn hin di s w h hmc hm (by omega) (by omega) ⟨r4, r5⟩ h2
  · rw [if_neg hz]
    refine (GreedyR_no A m c fr hi di s w hz).mono ?_
    rintro e w' ⟨rfl, hb⟩
    exact ⟨none, 0, rfl, World.ownsRow_nil _ _ _ _, hb⟩
include h hmc hm in
theorem CheapR_all : Calls Tryd.prog 19 #[.agg #[.slice A m c, .int .i64 fr, .int .i64 hi, .int .i64 di], .agg (stC s.n s.a s.b s.c s.d)] w (RowOut (chpL l fr hi di s).1 (chpL l fr hi di s).2 (rowE m fr hi di s) w) := by
  unfold chpL
  rw [h.len]
  by_cases hz : rowE m fr hi di s = 0
  · rw [if_pos hz, hz]
    obtain ⟨h1, h2⟩ := rowE_zero.1 hz
    obtain ⟨r1, r2, r3, r4, r5⟩ := refE_zero.1 h1
    obtain ⟨frn, rfl⟩ : ∃ n : Nat, fr = (n : Int) := ⟨fr.toNat, by omega⟩
    obtain ⟨hin, rfl⟩ : ∃ n : Nat, hi = (n : Int) := ⟨hi.toNat, by omega⟩
    exact CheapR_ok A m c l frn hin di s w h hmc hm (by omega) (by omega) ⟨r4, r5⟩ h2
  · rw [if_neg hz]
    refine (CheapR_no A m c l fr hi di s w h hmc hm hz).mono ?_
    rintro e w' ⟨rfl, hb⟩
    exact ⟨none, 0, rfl, World.ownsRow_nil _ _ _ _, hb⟩
include h hmc hm in
theorem PlanR_all : Calls Tryd.prog 20 #[.agg #[.slice A m c, .int .i64 fr, .int .i64 hi, .int .i64 di]] w (PlanOut (plnL l fr hi di) (refE m fr hi di) w) := by
  unfold plnL
  rw [h.len]
  by_cases hz : refE m fr hi di = 0
  · rw [if_pos hz, hz]
    obtain ⟨r1, r2, r3, r4, r5⟩ := refE_zero.1 hz
    obtain ⟨frn, rfl⟩ : ∃ n : Nat, fr = (n : Int) := ⟨fr.toNat, by omega⟩
    obtain ⟨hin, rfl⟩ : ∃ n : Nat, hi = (n : Int) := ⟨hi.toNat, by omega⟩
    exact PlanR_ok A m c l frn hin di w h hmc hm (by omega) (by omega) ⟨r4, r5⟩
  · rw [if_neg hz]
    refine (PlanR_no A m c fr hi di w hz).mono ?_
    rintro e w' ⟨rfl, hb⟩
    exact ⟨none, 0, rfl, World.ownsRow_nil _ _ _ _, hb⟩
end
/-! ### the law's small functions -/
theorem bys_snoc (l : List UInt8) (b : UInt8) : bys (l ++ [b]) = bys l ++ [.int .u8 (b.toNat : Int)] := by unfold bys; simp
set_option maxHeartbeats 1000000 in
theorem lent_any (A : Option Addr) (m c : Nat) (l : List UInt8) (w : World) (h : In w A m l) (hm : m ≤ 1048576) :
    Calls Tryd.prog 16 #[.slice A m c] w fun e w' => ∃ g cap, e = .returned (.tuple #[.slice (some ⟨g, 0, none⟩) m cap, .slice (some ⟨g, 0, none⟩) (m + 1) cap]) ∧ w'.ownsRow w.heap.size 5 1 (.slice (some ⟨g, 0, none⟩) (m + 1) cap) (m + 1) (bys (l ++ [165])) ∧ Below w.heap.size w w' := by
  obtain ⟨i0, hi0, hz0, hz1, hz2⟩ := info_parts infou8
  go_enter Tryd.func16, Tryd.ntmps16
  go_upto_region 2 with (at_builtin; refine wpList_fresh rfl (.tmp 5) (.tmp 6) rfl w.heap.size rfl rfl A m c l rfl h ?_; intro a1 c1 w1 hF)
  have H1 : Hid (w1.ownsRow w.heap.size 5 1 (.slice a1 m c1) m (bys l) ∧ Below w.heap.size w w1) := hF
  have hs1 : w.heap.size ≤ w1.heap.size := hF.2.size
  clear hF
  go_upto_region 3 with (at_builtin; refine wpList_append_rd (w := w1.alloc (.cells #[.int .u8 165] 5)) rfl (.tmp 8) (.tmp 9) 34 rfl w.heap.size 5 i0 _ 1 1 Tryd.underlying34 hi0 hz0 hz1 hz2 rfl (by decide) (.slice a1 m c1) m (bys l) rfl (H1.out.1.alloc _) (some ⟨w1.heap.size, 0, none⟩) 1 1 [.int .u8 165] rfl (Rd.of_blk (Blk.new _ _ _) rfl rfl) (by simp [Value.oneCell']) (by simp only [maxLen]; omega) (by omega) (by simp; omega) ?_; intro L2 lc2 we hown hg hat)
  have hcap : m + 1 ≤ lc2 := own_le hown
  obtain ⟨g, rfl⟩ := own_g hown (by omega)
  have hFe : Fr (fun g => some g = (Value.slice a1 m c1).ownBlock) w1 we := ((Fr.refl _ w1).alloc _).grown hg (fun g hg' => .inl hg'.symm)
  have H2 : Hid (we.ownsRow w.heap.size 5 1 (.slice (some ⟨g, 0, none⟩) (m + 1) lc2) (m + 1) (bys (l ++ [165])) ∧ Below w.heap.size w we) := by
    refine ⟨?_, H1.out.2.trans (hFe.below hs1 (fun q e => (own_lt H1.out.1 e.symm).1))⟩
    rw [bys_snoc]
    exact hown
  have hmc : (m : Int) ≤ (lc2 : Int) := by omega
  clear hown hg hat hFe H1
  go_wp2_with fail
  go_ret2
  exact ⟨g, lc2, rfl, H2.out.1, H2.out.2⟩
set_option maxHeartbeats 1000000 in
theorem kept_true (A : Option Addr) (m c g cap D : Nat) (l : List UInt8) (w : World) (h : In w A m l) (hm : m ≤ 1048576) (ho : w.ownsRow D 5 1 (.slice (some ⟨g, 0, none⟩) (m + 1) cap) (m + 1) (bys (l ++ [165]))) :
    Calls Tryd.prog 22 #[.slice (some ⟨g, 0, none⟩) (m + 1) cap, .slice A m c] w fun e w' => e = .returned (.bool true) ∧ Below w.heap.size w w' := by
  have hcap := own_le ho
  have hln := h.len
  have hp : Rd w 1 (some ⟨g, 0, none⟩) m (bys l) := by
    have := (Rd.of_own ho).take (k := m) (by omega)
    rw [bys_snoc] at this
    have e : (bys l ++ [Value.int .u8 ((165 : UInt8).toNat : Int)]).take (m * 1) = bys l := by
      rw [List.take_append_of_le_length (by unfold bys; simp; omega), List.take_of_length_le (by unfold bys; simp; omega)]
    rwa [e] at this
  have hcv1 : ∀ a, (convert 34 9 (.slice (some ⟨g, 0, none⟩) m cap)).run Tryd.prog (w.drewN a) = .ok (.string (strOf l)) (w.drewN a) := fun a => conv_rd (hp.keep (fun _ _ => rfl))
  have hcv2 : ∀ a, (convert 34 9 (.slice A m c)).run Tryd.prog (w.drewN a) = .ok (.string (strOf l)) (w.drewN a) := fun a => conv_rd (h.1.keep (fun _ _ => rfl))
  have hz : w.cell? ⟨g, m, none⟩ = some (.int .u8 165) := by
    rw [ho.cellAt (g := g) (cap := cap) m (by omega), bys_snoc, List.getElem?_append_right (by unfold bys; simp; omega)]
    rw [show m - (bys l).length = 0 by unfold bys; simp; omega]
    rfl
  have h1 : (m : Int) ≤ (cap : Int) := by omega
  have h2 : (m : Int) < (m : Int) + 1 := by omega
  have h3 : (0 : Int) ≤ (m : Int) := by omega
  clear ho hp h hln
  go_enter Tryd.func22, Tryd.ntmps22
  go_wp2_with fail
  go_quiet (fail)
  go_wp2_with fail
  go_ret
  exact ⟨rfl, below_drewN (Below.refl _ _) _⟩
theorem eqArrT (a b c d : Int) (w : World) : (Op.equalIn 10000 35 (.agg #[.int .i64 a, .int .i64 b, .int .i64 c, .int .i64 d]) (.agg #[.int .i64 a, .int .i64 b, .int .i64 c, .int .i64 d])).run Tryd.prog w = .ok true w := by
  have h3 : ∀ (x : Int) (w : World), (Op.equalIn 9999 3 (.int .i64 x) (.int .i64 x)).run Tryd.prog w = .ok true w := fun x w => by
    rw [run_equalIn_int w 9998 3 .i64 .i64 x x Tryd.underlying3]; simp
  have p0 : ∀ w : World, (part 3 #[.int .i64 a, .int .i64 b, .int .i64 c, .int .i64 d] 0).run Tryd.prog w = .ok (.int .i64 a) w := fun _ => by kernel_rfl
  have p1 : ∀ w : World, (part 3 #[.int .i64 a, .int .i64 b, .int .i64 c, .int .i64 d] 1).run Tryd.prog w = .ok (.int .i64 b) w := fun _ => by kernel_rfl
  have p2 : ∀ w : World, (part 3 #[.int .i64 a, .int .i64 b, .int .i64 c, .int .i64 d] 2).run Tryd.prog w = .ok (.int .i64 c) w := fun _ => by kernel_rfl
  have p3 : ∀ w : World, (part 3 #[.int .i64 a, .int .i64 b, .int .i64 c, .int .i64 d] 3).run Tryd.prog w = .ok (.int .i64 d) w := fun _ => by kernel_rfl
  unfold Op.equalIn
  simp [run_underlying Tryd.underlying35, List.range', h3, p0, p1, p2, p3]
set_option maxHeartbeats 1000000 in
theorem alike_true (s : St) (w : World) : Calls Tryd.prog 21 #[.agg (stC s.n s.a s.b s.c s.d), .agg (stC s.n s.a s.b s.c s.d)] w fun e w' => e = .returned (.bool true) ∧ Below w.heap.size w w' := by
  obtain ⟨n, a, b, c, d⟩ := s
  obtain ⟨B, hB⟩ : ∃ B, w.heap.size = B := ⟨_, rfl⟩
  obtain ⟨w1, hw1⟩ : ∃ w1, (w.alloc (.cells #[.int .i64 n, .int .i64 a, .int .i64 b, .int .i64 c, .int .i64 d] 37)).alloc (.cells #[.int .i64 n, .int .i64 a, .int .i64 b, .int .i64 c, .int .i64 d] 48) = w1 := ⟨_, rfl⟩
  have hb1 : Below w.heap.size w w1 := by rw [← hw1]; exact ((Below.refl _ _).alloc (Nat.le_refl _) _).alloc (by simp) _
  have hS1 : Blk w1 B 37 #[.int .i64 n, .int .i64 a, .int .i64 b, .int .i64 c, .int .i64 d] := by rw [← hw1]; exact (Blk.new_at hB.symm).alloc _
  have hT1 : Blk w1 (B + 1) 48 #[.int .i64 n, .int .i64 a, .int .i64 b, .int .i64 c, .int .i64 d] := by rw [← hw1]; exact Blk.new_at (by simp [hB])
  obtain ⟨⟨s0, s1, s2, s3, s4⟩, _⟩ := st_five hS1
  obtain ⟨⟨t0, t1, t2, t3, t4⟩, _⟩ := st_five hT1
  have HI := Lib.hid hb1
  have he := eqArrT
  unfold stC
  simp only []
  clear hb1 hS1 hT1
  go_enter Tryd.func21, Tryd.ntmps21
  go_wp2_with fail
  go_ret
  exact ⟨rfl, HI.out⟩
set_option maxHeartbeats 1000000 in
theorem full_true (A : Option Addr) (c n : Nat) (mark : Int) (w : World) (hn : n ≤ 1048576) (h : InS w A (n + 9) (List.replicate (n + 9) ⟨mark, 0, 0, 0⟩)) :
    Calls Tryd.prog 25 #[.slice A (n + 9) c, .int .i64 n, .int .i64 mark] w fun e w' => e = .returned (.bool true) ∧ Below w.heap.size w w' := by
  go_enter Tryd.func25, Tryd.ntmps25
  go_wp2_with fail
  go_loopw [11] (fun s11 wr => ∃ (i : Nat), s11 = .int .i64 (i : Int) ∧ i ≤ n + 9 ∧ Hid (Below w.heap.size w wr)) (fun s11 _ => n + 9 - (intOf s11).toNat)
  case atStart => exact ⟨0, rfl, Nat.zero_le _, Below.refl _ _⟩
  case round =>
    obtain ⟨i, rfl, hi, Hb⟩ := hrel
    by_cases hlt : i < n + 9
    · have hlt' : (i : Int) < (n : Int) + 9 := by omega
      obtain ⟨yb, yo, y, rfl, hy, hyb, y0, y1, y2, y3⟩ := (h.below Hb.out).at hlt
      obtain rfl : y = ⟨mark, 0, 0, 0⟩ := by
        rw [List.getElem?_replicate, if_pos hlt] at hy
        exact (Option.some.inj hy).symm
      rw [← Nat.add_assoc] at y1 y2 y3
      simp only [] at y0 y1 y2 y3
      clear hy
      have Hb2 : Hid (Below w.heap.size w (wr.alloc (.cells #[.int .i64 mark, .int .u8 0, .int .i64 0, .int .i64 0] 24))) := Hb.out.alloc Hb.out.size _
      go_wp2_with fail
      go_roundw
      case rel => exact ⟨i + 1, by go_num, by omega, Hb2.out⟩
      case measure => simp [intOf]; omega
    · obtain rfl : i = n + 9 := by omega
      go_wp2_with fail
      go_ret
      exact ⟨rfl, Hb.out⟩
theorem rep_drop_set (i : Nat) (ls : List Sy) (M : Sy) (h : i < ls.length) : (List.replicate i M ++ ls.drop i).set i M = List.replicate (i + 1) M ++ ls.drop (i + 1) := by
  rw [List.set_append_right _ _ (by simp), List.length_replicate, Nat.sub_self, List.drop_eq_getElem_cons h, List.set_cons_zero, List.replicate_succ', List.append_assoc]
  rfl
set_option maxHeartbeats 4000000 in
theorem marked_any (L : Option Addr) (lc n D : Nat) (ls : List Sy) (mark : Int) (w : World) (h : w.ownsRow D 24 4 (.slice L n lc) n (syc ls)) (hn : n ≤ 1048576) (hD : D ≤ w.heap.size) :
    Calls Tryd.prog 23 #[.slice L n lc, .int .i64 mark] w fun e w' => ∃ L' lc', e = .returned (.slice L' (n + 9) lc') ∧ w'.ownsRow D 24 4 (.slice L' (n + 9) lc') (n + 9) (syc (List.replicate (n + 9) ⟨mark, 0, 0, 0⟩)) ∧ Fr (fun g => (Value.slice L n lc).ownBlock = some g) w w' ∧ (∀ q, (Value.slice L' (n + 9) lc').ownBlock = some q → (Value.slice L n lc).ownBlock = some q ∨ w.heap.size ≤ q) := by
  obtain ⟨i0, hi0, hz0, hz1, hz2⟩ := info_parts infosy
  have hl : ls.length = n := by
    have := h.1
    rw [syc_length] at this
    omega
  obtain ⟨M, hM⟩ : ∃ M : Sy, (⟨mark, 0, 0, 0⟩ : Sy) = M := ⟨_, rfl⟩
  rw [hM]
  have HM := Lib.hid hM
  have H := Lib.hid (And.intro h hl)
  obtain ⟨V, hV⟩ : ∃ V, (Value.slice L n lc).ownBlock = V := ⟨_, rfl⟩
  rw [hV]
  have HV := Lib.hid hV
  clear h hl hM hV
  go_enter Tryd.func23, Tryd.ntmps23
  go_wp2_with fail
  go_loopw [9] (fun s9 wr => ∃ i : Nat, s9 = .int .i64 (i : Int) ∧ i ≤ n ∧ Hid (wr.ownsRow D 24 4 (.slice L n lc) n (syc (List.replicate i M ++ ls.drop i)) ∧ Fr (fun g => V = some g) w wr)) (fun s9 _ => n - (intOf s9).toNat)
  case atStart => exact ⟨0, rfl, Nat.zero_le _, by rw [List.drop_zero]; exact H.out.1, Fr.refl _ _⟩
  case round =>
    obtain ⟨i, rfl, hi, HJ⟩ := hrel
    by_cases hlt : i < n
    · have hlt' : (i : Int) < (n : Int) := by omega
      obtain ⟨q1, q2⟩ := HJ.out
      obtain ⟨g, rfl⟩ := own_g q1 (by omega)
      have hlen : (List.replicate i M ++ ls.drop i).length = n := by rw [List.length_append, List.length_replicate, List.length_drop, H.out.2]; omega
      obtain ⟨y, hy⟩ : ∃ y, (List.replicate i M ++ ls.drop i)[i]? = some y := ⟨_, List.getElem?_eq_getElem (by omega)⟩
      obtain ⟨g0, g1, g2, g3⟩ := syc_get hy
      have s0 := (q1.cellAt (g := g) (cap := lc) (i * 4) (by omega)).trans g0
      have s1 := (q1.cellAt (g := g) (cap := lc) (i * 4 + 1) (by omega)).trans g1
      have s2 := (q1.cellAt (g := g) (cap := lc) (i * 4 + 2) (by omega)).trans g2
      have s3 := (q1.cellAt (g := g) (cap := lc) (i * 4 + 3) (by omega)).trans g3
      have f0 := q1.frozenAt (g := g) (cap := lc) (i * 4)
      have f1 := q1.frozenAt (g := g) (cap := lc) (i * 4 + 1)
      have f2 := q1.frozenAt (g := g) (cap := lc) (i * 4 + 2)
      have f3 := q1.frozenAt (g := g) (cap := lc) (i * 4 + 3)
      have hgl : g < wr.heap.size := (own_lt q1 (g := g) rfl).2
      have hVg : Hid (V = some g) := HV.out.symm
      have Hq := Lib.hid (And.intro q1 q2)
      clear q1 q2 hlen hy g0 g1 g2 g3 HJ
      go_wp2_with fail
      go_roundw
      case rel =>
        refine ⟨i + 1, by go_num, by omega, ?_, ?_⟩
        · have := own_set (own_set (own_set (own_set Hq.out.1 (i * 4) (.int .i64 mark)) (i * 4 + 1) (.int .u8 0)) (i * 4 + 2) (.int .i64 0)) (i * 4 + 3) (.int .i64 0)
          have e := syc_set (List.replicate i M ++ ls.drop i) i M
          rw [rep_drop_set i ls M (by rw [H.out.2]; exact hlt)] at e
          rw [← e, ← HM.out]
          rw [← HM.out] at this
          exact this
        · exact (((Hq.out.2.setCell (p := ⟨g, i * 4, none⟩) (.inl hVg.out) _).setCell (p := ⟨g, i * 4 + 1, none⟩) (.inl hVg.out) _).setCell (p := ⟨g, i * 4 + 2, none⟩) (.inl hVg.out) _).setCell (p := ⟨g, i * 4 + 3, none⟩) (.inl hVg.out) _
      case measure => simp [intOf]; omega
    · obtain rfl : i = n := by omega
      have hge : ¬ (i : Int) < (i : Int) := by omega
      obtain ⟨q1, q2⟩ := HJ.out
      rw [List.drop_of_length_le (by rw [H.out.2]; omega), List.append_nil] at q1
      have HK := Lib.hid (And.intro q1 q2)
      clear q1 q2 HJ
      obtain ⟨wJ, rfl⟩ : ∃ w0, w0 = wr := ⟨_, rfl⟩
      go_wp2_with fail
      go_loopw [0, 6] (fun s0 s6 wr => ∃ (j : Nat) (L1 : Option Addr) (c1 : Nat), s0 = .slice L1 (i + j) c1 ∧ s6 = .int .i64 (j : Int) ∧ j ≤ 9 ∧ Hid (wr.ownsRow D 24 4 (.slice L1 (i + j) c1) (i + j) (syc (List.replicate (i + j) M)) ∧ Fr (fun g => V = some g) w wr ∧ (∀ q, (Value.slice L1 (i + j) c1).ownBlock = some q → V = some q ∨ w.heap.size ≤ q) ∧ D ≤ wr.heap.size)) (fun _ s6 _ => 9 - (intOf s6).toNat)
      case atStart => exact ⟨0, L, lc, rfl, rfl, by omega, HK.out.1, HK.out.2, fun q hq => .inl (by rw [← HV.out]; exact hq), Nat.le_trans hD HK.out.2.size⟩
      case round =>
        obtain ⟨j, L1, c1, rfl, rfl, hj, HJ⟩ := hrel
        by_cases hlt : j < 9
        · have hlt' : (j : Int) < 9 := by omega
          have hDw : D ≤ wr.heap.size := HJ.out.2.2.2
          go_wp2_with (at_builtin; refine wpList_append_rd (w := wr.alloc (.cells #[.int .i64 mark, .int .u8 0, .int .i64 0, .int .i64 0] 24)) rfl (.tmp 22) (.tmp 25) 22 rfl D 24 i0 _ 4 32 Tryd.underlying22 hi0 hz0 hz1 hz2 rfl (by decide) (.slice L1 (i + j) c1) (i + j) (syc (List.replicate (i + j) M)) rfl (HJ.out.1.alloc _) (some ⟨wr.heap.size, 0, none⟩) 1 1 (syc [⟨mark, 0, 0, 0⟩]) rfl (Rd.of_blk (Blk.new _ _ _) rfl rfl) (syc_one _) (by simp only [maxLen]; omega) (by omega) (by simp; omega) ?_; intro L2 lc2 we hown hg hat)
          obtain ⟨q1, q2, q3, q4⟩ := HJ.out
          have e : syc (List.replicate (i + j) M) ++ syc [⟨mark, 0, 0, 0⟩] = syc (List.replicate (i + (j + 1)) M) := by
            rw [← syc_append, HM.out, show i + (j + 1) = (i + j) + 1 by omega, List.replicate_succ']
          rw [e] at hown
          have hF : Fr (fun g => V = some g) w we := (q2.alloc _).grown hg (fun g hg' => q3 g hg')
          have HE : Hid (we.ownsRow D 24 4 (.slice L2 (i + (j + 1)) lc2) (i + (j + 1)) (syc (List.replicate (i + (j + 1)) M)) ∧ Fr (fun g => V = some g) w we ∧ (∀ q, (Value.slice L2 (i + (j + 1)) lc2).ownBlock = some q → V = some q ∨ w.heap.size ≤ q) ∧ D ≤ we.heap.size) := by
            refine ⟨hown, hF, fun q hq => ?_, Nat.le_trans hD hF.size⟩
            rcases hat with hat | hat
            · rw [show i + (j + 1) = i + j + 1 by omega, hat] at hq
              exact q3 q hq
            · rw [show i + (j + 1) = i + j + 1 by omega, hat] at hq
              right
              have hq := Option.some.inj hq
              have := q2.size
              simp only [World.size_alloc] at hq
              omega
          clear q1 q2 q3 q4 hown hg hat hF e HJ
          go_roundw
          case rel => exact ⟨j + 1, L2, lc2, rfl, by go_num, by omega, HE.out⟩
          case measure => simp [intOf]; omega
        · obtain rfl : j = 9 := by omega
          have hge : ¬ ((9 : Nat) : Int) < 9 := by omega
          go_wp2_with fail
          go_ret
          exact ⟨L1, c1, rfl, HJ.out.1, HJ.out.2.1, HJ.out.2.2.1⟩
theorem Blk.nine_ {w : World} {g : Nat} {t : TypeId} {v0 v1 v2 v3 v4 v5 v6 v7 v8 : Value} (h : Blk w g t #[v0, v1, v2, v3, v4, v5, v6, v7, v8]) : w.cell? ⟨g, 0, none⟩ = some v0 ∧ w.cell? ⟨g, 1, none⟩ = some v1 ∧ w.cell? ⟨g, 2, none⟩ = some v2 ∧ w.cell? ⟨g, 3, none⟩ = some v3 ∧ w.cell? ⟨g, 4, none⟩ = some v4 ∧ w.cell? ⟨g, 5, none⟩ = some v5 ∧ w.cell? ⟨g, 6, none⟩ = some v6 ∧ w.cell? ⟨g, 7, none⟩ = some v7 ∧ w.cell? ⟨g, 8, none⟩ = some v8 := ⟨h.cell 0, h.cell 1, h.cell 2, h.cell 3, h.cell 4, h.cell 5, h.cell 6, h.cell 7, h.cell 8⟩
theorem xor8 (x y : Int) : ∃ b : UInt8, bits .xor .u8 x y = (b.toNat : Int) := by
  obtain ⟨v, hv⟩ : ∃ v, bits .xor .u8 x y = IntKind.u8.wrap v := ⟨_, rfl⟩
  rw [hv, IntKind.wrap_u8]
  refine ⟨UInt8.ofNat (v % 256).toNat, ?_⟩
  rw [UInt8.toNat_ofNat']
  omega
theorem step_freshG {ops : Array Oper} {o : Oper} {a : Act} {K : Act → World → Prop} {Q : Exit → Act → World → Prop} {E : Prop} (hgd : o.guard = none) (s x : Operand)
    (ho : o.op = .call { callee := .builtin .append, args := #[s, x], argTypes := #[34, 34] }) {w W : World} (N : Nat) (hN1 : w.heap.size ≤ N) (hO : W.ownsRow N 5 1 (.slice (some ⟨N, 0, none⟩) 0 0) 0 []) (hb : Below w.heap.size w W) (hs : a.eval s = .slice (some ⟨N, 0, none⟩) 0 0)
    (A : Option Addr) (m c : Nat) (l : List UInt8) (hx : a.eval x = .slice A m c) (hr : In w A m l)
    (h : ∀ a' c' w', w'.ownsRow w.heap.size 5 1 (.slice a' m c') m (bys l) → Below w.heap.size w w' → (∀ k, k < W.heap.size → k ≠ N → w'.heap[k]? = W.heap[k]?) → W.heap.size ≤ w'.heap.size → K (a.put o.dst (.slice a' m c')) w') :
    if Region.wanted o (yielded ops a.tmps) = true then Oper.wp Tryd.prog o a W K Q else E := by
  obtain ⟨i0, hi0, hz0, hz1, hz2⟩ := info_parts infou8
  have hr' := hr.below hb
  refine step_append_rd hgd s x 34 ho w.heap.size 5 i0 _ 1 1 Tryd.underlying34 hi0 hz0 hz1 hz2 rfl (by decide) _ 0 [] hs (own_mono hO hN1) A m c (bys l) hx hr'.1 (bys_one _) (by have := hr.2.2; simp only [maxLen]; omega) (by have := hr.2.2; omega) hb.size ?_
  intro a1 c1 w1 hown hg hat
  simp only [Nat.zero_add, List.nil_append] at hown hat ⊢
  have hF : Fr (fun _ => False) w w1 := (Fr.of_below hb).grown hg (fun q hq => .inr (by
    have : N = q := Option.some.inj hq
    omega))
  exact h a1 c1 w1 hown (hF.below (Nat.le_refl _) (fun k h => h.elim)) (fun k hk hne => hg.block k hk (fun e => hne (by
    have e' : some k = some N := e
    exact Option.some.inj e'))) hg.size
set_option maxHeartbeats 8000000 in
theorem anew_true (XA : Option Addr) (xm xc : Nat) (fr hi di : Int) (xn xa xb xcc xd : Int) (s : St) (g m cap D : Nat) (l : List UInt8) (w : World) (ho : w.ownsRow D 5 1 (.slice (some ⟨g, 0, none⟩) m cap) m (bys l)) (hln : l.length = m) (hm : m ≤ 1048576) (hLg : ∀ W, Fr (fun q => q = g) w W → Laid W) :
    Calls Tryd.prog 24 #[.agg #[.slice XA xm xc, .int .i64 fr, .int .i64 hi, .int .i64 di, .int .i64 xn, .int .i64 xa, .int .i64 xb, .int .i64 xcc, .int .i64 xd], .slice (some ⟨g, 0, none⟩) m cap, .agg (stC s.n s.a s.b s.c s.d)] w fun e w' => e = .returned (.bool true) ∧ Fr (fun q => q = g) w w' := by
  obtain ⟨n, a, b, cc, d⟩ := s
  unfold stC
  simp only []
  obtain ⟨B, hB⟩ : ∃ B, w.heap.size = B := ⟨_, rfl⟩
  obtain ⟨w1, hw1⟩ : ∃ w1, (w.alloc (.cells #[.slice XA xm xc, .int .i64 fr, .int .i64 hi, .int .i64 di, .int .i64 xn, .int .i64 xa, .int .i64 xb, .int .i64 xcc, .int .i64 xd] 45)).alloc (.cells #[.int .i64 n, .int .i64 a, .int .i64 b, .int .i64 cc, .int .i64 d] 37) = w1 := ⟨_, rfl⟩
  have hb1 : Below w.heap.size w w1 := by rw [← hw1]; exact ((Below.refl _ _).alloc (Nat.le_refl _) _).alloc (by simp) _
  have hP1 : Blk w1 B 45 #[.slice XA xm xc, .int .i64 fr, .int .i64 hi, .int .i64 di, .int .i64 xn, .int .i64 xa, .int .i64 xb, .int .i64 xcc, .int .i64 xd] := by rw [← hw1]; exact (Blk.new_at hB.symm).alloc _
  have hS1 : Blk w1 (B + 1) 37 #[.int .i64 n, .int .i64 a, .int .i64 b, .int .i64 cc, .int .i64 d] := by rw [← hw1]; exact Blk.new_at (by simp [hB])
  have HI := Lib.hid (And.intro hP1 (And.intro hS1 (And.intro (own_below ho hb1) (Fr.of_below hb1 (S := fun q => q = g)))))
  have Hln := Lib.hid hln
  have hgB : Hid (g < B) := by have := (own_lt ho (g := g) rfl).2; show _ < _; omega
  have HLg := Lib.hid hLg
  clear hb1 hP1 hS1 ho hln hLg
  go_enter Tryd.func24, Tryd.ntmps24
  go_wp2_with fail
  clear hw1 hB
  go_loopw [21] (fun s21 wr => ∃ (i : Nat) (l' : List UInt8), s21 = .int .i64 (i : Int) ∧ i ≤ m ∧ l'.length = m ∧ Hid (wr.ownsRow D 5 1 (.slice (some ⟨g, 0, none⟩) m cap) m (bys l') ∧ Fr (fun q => q = g) w1 wr)) (fun s21 _ => m - (intOf s21).toNat)
  case atStart => exact ⟨0, l, rfl, Nat.zero_le _, Hln.out, HI.out.2.2.1, Fr.refl _ _⟩
  case round =>
    obtain ⟨i, l', rfl, hi', hl', HJ⟩ := hrel
    by_cases hlt : i < m
    · have hlt' : (i : Int) < (m : Int) := by omega
      have hi0 : (0 : Int) ≤ (i : Int) := by omega
      obtain ⟨y, hy⟩ : ∃ y, l'[i]? = some y := ⟨_, List.getElem?_eq_getElem (by omega)⟩
      have hc : wr.cell? ⟨g, i, none⟩ = some (.int .u8 (y.toNat : Int)) := by
        rw [HJ.out.1.cellAt (g := g) (cap := cap) i (by omega)]
        unfold bys
        rw [List.getElem?_map, hy]
        rfl
      have hf := HJ.out.1.frozenAt (g := g) (cap := cap) i
      have hgl : g < wr.heap.size := (own_lt HJ.out.1 (g := g) rfl).2
      clear hy
      go_wp2_with fail
      obtain ⟨y2, hy2⟩ := xor8 (y.toNat : Int) (bits .and .u8 ((i : Int) / 3 % 256) 1)
      rw [hy2]
      have HR : Hid ((wr.setCell ⟨g, i, none⟩ (.int .u8 (y2.toNat : Int))).ownsRow D 5 1 (.slice (some ⟨g, 0, none⟩) m cap) m (bys (l'.set i y2)) ∧ Fr (fun q => q = g) w1 (wr.setCell ⟨g, i, none⟩ (.int .u8 (y2.toNat : Int)))) := by
        refine ⟨?_, HJ.out.2.setCell (p := ⟨g, i, none⟩) (.inl rfl) _⟩
        have := own_set HJ.out.1 i (.int .u8 (y2.toNat : Int))
        have e : (bys l').set i (.int .u8 (y2.toNat : Int)) = bys (l'.set i y2) := by unfold bys; rw [List.map_set]
        rw [← e]
        exact this
      clear hy2
      go_roundw
      case rel => exact ⟨i + 1, l'.set i y2, by go_num, by omega, by rw [List.length_set]; exact hl', HR.out⟩
      case measure => simp [intOf]; omega
    · have hge : ¬ (i : Int) < (m : Int) := by omega
      obtain ⟨wq, rfl⟩ : ∃ w0, w0 = wr := ⟨_, rfl⟩
      obtain ⟨q1, q2⟩ := HJ.out
      have hmc : m ≤ cap := own_le q1
      have hF0 : Fr (fun q => q = g) w wq := HI.out.2.2.2.trans q2
      have hgb := hgB.out
      have hPq := HI.out.1.fr q2 (by omega)
      have hSq := HI.out.2.1.fr q2 (by omega)
      have H2 : Hid (In wq (some ⟨g, 0, none⟩) m l' ∧ Blk wq B 45 #[.slice XA xm xc, .int .i64 fr, .int .i64 hi, .int .i64 di, .int .i64 xn, .int .i64 xa, .int .i64 xb, .int .i64 xcc, .int .i64 xd] ∧ Blk wq (B + 1) 37 #[.int .i64 n, .int .i64 a, .int .i64 b, .int .i64 cc, .int .i64 d] ∧ Fr (fun q => q = g) w wq) := ⟨In.of_own q1 (by omega), hPq, hSq, hF0⟩
      have HLw : Hid (∀ W, Below wq.heap.size wq W → Laid W) := fun W hW => HLg.out W (hF0.of_below' hW)
      clear q1 q2 hF0 hPq hSq HJ HI HLg hgB
      go_upto_region 6 with (fail)
      go_cut [8] from 37 to 46 (fun s8 wy => ∃ T, s8 = .pointer (some ⟨T, 0, none⟩) ∧ Hid (∃ a3 c3, Blk wy T 50 #[.slice a3 m c3, .int .i64 fr, .int .i64 hi, .int .i64 di] ∧ In wy a3 m l' ∧ m ≤ c3 ∧ Below wq.heap.size wq wy))
      case first =>
        have HC : Hid (∀ W, Below wq.heap.size wq W → W.cell? ⟨B, 1, none⟩ = some (.int .i64 fr) ∧ W.cell? ⟨B, 2, none⟩ = some (.int .i64 hi) ∧ W.cell? ⟨B, 3, none⟩ = some (.int .i64 di)) := fun W hW => ⟨(H2.out.2.1.below hW).cell 1, (H2.out.2.1.below hW).cell 2, (H2.out.2.1.below hW).cell 3⟩
        obtain ⟨x1, x2, x3⟩ := HC.out wq (Below.refl _ _)
        obtain ⟨N, hN⟩ : ∃ N, wq.heap.size = N := ⟨_, rfl⟩
        have hE := fun W : World => (World.ownsRow_made (base := W.heap.size) (e := 5) (size := 1) W #[] 0 (Nat.le_refl _) (by unfold maxLen; omega) rfl)
        have HIn := Lib.hid H2.out.1
        have HO1 : Hid (((wq.alloc (.cells #[] 5)).drew).ownsRow N 5 1 (.slice (some ⟨N, 0, none⟩) 0 0) 0 []) := by show World.ownsRow _ _ _ _ _ _ _; rw [← hN]; exact (hE wq).drew
        have HO2 : Hid ((((wq.alloc (.cells #[] 5)).alloc (.cells #[.slice none 0 0, .int .i64 0, .int .i64 0, .int .i64 0] 50)).drew).ownsRow N 5 1 (.slice (some ⟨N, 0, none⟩) 0 0) 0 []) := by show World.ownsRow _ _ _ _ _ _ _; rw [← hN]; exact ((hE wq).alloc _).drew
        have HO3 : Hid ((((wq.alloc (.cells #[.slice none 0 0, .int .i64 0, .int .i64 0, .int .i64 0] 50)).alloc (.cells #[] 5)).drew).ownsRow (N + 1) 5 1 (.slice (some ⟨N + 1, 0, none⟩) 0 0) 0 []) := by
          have := (hE (wq.alloc (.cells #[.slice none 0 0, .int .i64 0, .int .i64 0, .int .i64 0] 50))).drew
          rw [World.size_alloc, hN] at this
          exact this
        have HW1 : Hid (Below wq.heap.size wq ((wq.alloc (.cells #[] 5)).drew)) := ((Below.refl _ _).alloc (Nat.le_refl _) _).drew
        have HW2 : Hid (Below wq.heap.size wq (((wq.alloc (.cells #[] 5)).alloc (.cells #[.slice none 0 0, .int .i64 0, .int .i64 0, .int .i64 0] 50)).drew)) := (((Below.refl _ _).alloc (Nat.le_refl _) _).alloc (by simp) _).drew
        have HW3 : Hid (Below wq.heap.size wq (((wq.alloc (.cells #[.slice none 0 0, .int .i64 0, .int .i64 0, .int .i64 0] 50)).alloc (.cells #[] 5)).drew)) := (((Below.refl _ _).alloc (Nat.le_refl _) _).alloc (by simp) _).drew
        have HZ2 : Hid (Blk (((wq.alloc (.cells #[] 5)).alloc (.cells #[.slice none 0 0, .int .i64 0, .int .i64 0, .int .i64 0] 50)).drew) (N + 1) 50 #[.slice none 0 0, .int .i64 0, .int .i64 0, .int .i64 0]) := (Blk.new_at (by simp [hN])).drew
        have HZ3 : Hid (Blk (((wq.alloc (.cells #[.slice none 0 0, .int .i64 0, .int .i64 0, .int .i64 0] 50)).alloc (.cells #[] 5)).drew) N 50 #[.slice none 0 0, .int .i64 0, .int .i64 0, .int .i64 0]) := ((Blk.new_at hN.symm).alloc _).drew
        have hNN : N ≤ N + 1 := by omega
        have hBN : B < N := by rw [← hN]; exact H2.out.2.1.lt
        have nb0 : ¬ B = N := by omega
        have nb1 : ¬ B = N + 1 := by omega
        have hqN : wq.heap.size ≤ N := by omega
        clear hE
        go_region_held3 (fun w' => w'.cell? ⟨B, 1, none⟩ = some (.int .i64 fr) ∧ w'.cell? ⟨B, 2, none⟩ = some (.int .i64 hi) ∧ w'.cell? ⟨B, 3, none⟩ = some (.int .i64 di))
          (first | (with_reducible exact ⟨x1, x2, x3⟩) | (with_reducible exact ⟨p1, p2, p3⟩) | (with_reducible exact ⟨(keep4 nb1).trans p1, (keep4 nb1).trans p2, (keep4 nb1).trans p3⟩) | (with_reducible exact ⟨(keep4 nb0).trans p1, (keep4 nb0).trans p2, (keep4 nb0).trans p3⟩) | go_keep)
          (first | (refine step_freshG rfl (.tmp 37) (.tmp 38) rfl N hqN HO1.out HW1.out (by simp [Act.eval]) (some ⟨g, 0, none⟩) m cap l' (by simp [Act.eval]) HIn.out ?_; intro a3 c3 w7 hown hb7 hsame hsz7; have HF := Lib.hid (And.intro hown (And.intro hb7 (And.intro hsame hsz7))); obtain ⟨p1, p2, p3⟩ := HC.out w7 hb7; clear hown hb7 hsame hsz7) | (refine step_freshG rfl (.tmp 37) (.tmp 38) rfl N hqN HO2.out HW2.out (by simp [Act.eval]) (some ⟨g, 0, none⟩) m cap l' (by simp [Act.eval]) HIn.out ?_; intro a3 c3 w7 hown hb7 hsame hsz7; have hz := HZ2.out.same (hsame (N + 1) HZ2.out.lt (by omega)); have HF := Lib.hid (And.intro hown (And.intro hb7 hz)); obtain ⟨p1, p2, p3⟩ := HC.out w7 hb7; obtain ⟨z0, z1, z2, z3⟩ := hz.four; obtain ⟨u0, u1, u2, u3⟩ := hz.four_f; have zl := hz.lt; clear hown hb7 hsame hsz7 hz) | (refine step_freshG rfl (.tmp 37) (.tmp 38) rfl (N + 1) (Nat.le_trans hqN hNN) HO3.out HW3.out (by simp [Act.eval]) (some ⟨g, 0, none⟩) m cap l' (by simp [Act.eval]) HIn.out ?_; intro a3 c3 w7 hown hb7 hsame hsz7; have hz := HZ3.out.same (hsame N HZ3.out.lt (by omega)); have HF := Lib.hid (And.intro hown (And.intro hb7 hz)); obtain ⟨p1, p2, p3⟩ := HC.out w7 hb7; obtain ⟨z0, z1, z2, z3⟩ := hz.four; obtain ⟨u0, u1, u2, u3⟩ := hz.four_f; have zl := hz.lt; clear hown hb7 hsame hsz7 hz))
        all_goals go_wp2_with fail
        all_goals go_meet
        · exact ⟨_, rfl, a3, c3, Blk.new _ _ _, (In.of_own HF.out.1 (by omega)).below ((Below.refl _ _).alloc (Nat.le_refl _) _), own_le HF.out.1, bmk HF.out.2.1 _⟩
        · have hFs : Fr (fun q => q = N + 1) w7 ((((w7.setCell ⟨N + 1, 0, none⟩ (.slice a3 m c3)).setCell ⟨N + 1, 1, none⟩ (.int .i64 fr)).setCell ⟨N + 1, 2, none⟩ (.int .i64 hi)).setCell ⟨N + 1, 3, none⟩ (.int .i64 di)) :=
            ((((Fr.refl (fun q => q = N + 1) w7).setCell (p := ⟨N + 1, 0, none⟩) (.inl rfl) _).setCell (p := ⟨N + 1, 1, none⟩) (.inl rfl) _).setCell (p := ⟨N + 1, 2, none⟩) (.inl rfl) _).setCell (p := ⟨N + 1, 3, none⟩) (.inl rfl) _
          have hne := own_ne HF.out.1 HF.out.2.2 (by decide)
          exact ⟨_, rfl, a3, c3, (((HF.out.2.2.set_ 0 _).set_ 1 _).set_ 2 _).set_ 3 _, In.of_own (own_fr HF.out.1 hFs (fun q hq e => hne (by rw [hq, e]))) (by omega), own_le HF.out.1, HF.out.2.1.trans (hFs.below HF.out.2.1.size (fun q e => by omega))⟩
        · have hFs : Fr (fun q => q = N) w7 ((((w7.setCell ⟨N, 0, none⟩ (.slice a3 m c3)).setCell ⟨N, 1, none⟩ (.int .i64 fr)).setCell ⟨N, 2, none⟩ (.int .i64 hi)).setCell ⟨N, 3, none⟩ (.int .i64 di)) :=
            ((((Fr.refl (fun q => q = N) w7).setCell (p := ⟨N, 0, none⟩) (.inl rfl) _).setCell (p := ⟨N, 1, none⟩) (.inl rfl) _).setCell (p := ⟨N, 2, none⟩) (.inl rfl) _).setCell (p := ⟨N, 3, none⟩) (.inl rfl) _
          have hne := own_ne HF.out.1 HF.out.2.2 (by decide)
          exact ⟨_, rfl, a3, c3, (((HF.out.2.2.set_ 0 _).set_ 1 _).set_ 2 _).set_ 3 _, In.of_own (own_fr HF.out.1 hFs (fun q hq e => hne (by rw [hq, e]))) (by omega), own_le HF.out.1, HF.out.2.1.trans (hFs.below HF.out.2.1.size (fun q e => by omega))⟩
      case rest =>
        obtain ⟨T, rfl, hT⟩ := hcut
        obtain ⟨wy, rfl⟩ : ∃ w0, w0 = wc := ⟨_, rfl⟩
        obtain ⟨a3, c3, t1, t2, t3, t4⟩ := hT.out
        have H3 : Hid (In wy (some ⟨g, 0, none⟩) m l' ∧ Blk wy B 45 #[.slice XA xm xc, .int .i64 fr, .int .i64 hi, .int .i64 di, .int .i64 xn, .int .i64 xa, .int .i64 xb, .int .i64 xcc, .int .i64 xd] ∧ Blk wy (B + 1) 37 #[.int .i64 n, .int .i64 a, .int .i64 b, .int .i64 cc, .int .i64 d] ∧ Fr (fun q => q = g) w wy ∧ Blk wy T 50 #[.slice a3 m c3, .int .i64 fr, .int .i64 hi, .int .i64 di] ∧ In wy a3 m l') := ⟨H2.out.1.below t4, H2.out.2.1.below t4, H2.out.2.2.1.below t4, H2.out.2.2.2.of_below' t4, t1, t2⟩
        have HLy : Hid (∀ W, Below wy.heap.size wy W → Laid W) := fun W hW => HLw.out W (bup t4 hW)
        have hc3 : m ≤ c3 := t3
        clear hT t1 t2 t3 t4 H2 HLw
        obtain ⟨x0, x1, x2, x3, x4, x5, x6, x7, x8⟩ := Blk.nine_ H3.out.2.1
        obtain ⟨⟨s0, s1, s2, s3, s4⟩, _⟩ := st_five H3.out.2.2.1
        have HG := Lib.hid (Greedy_all (some ⟨g, 0, none⟩) m cap l' fr hi di ⟨n, a, b, cc, d⟩ wy H3.out.1 (fun _ => .inr ⟨_, rfl⟩) hmc hm (HLy.out wy (Below.refl _ _)))
        obtain ⟨⟨G, gs⟩, hG⟩ : ∃ x, grdL l' fr hi di ⟨n, a, b, cc, d⟩ = x := ⟨_, rfl⟩
        obtain ⟨P, hP⟩ : ∃ x, plnL l' fr hi di = x := ⟨_, rfl⟩
        have hGl := grdL_len l' fr hi di ⟨n, a, b, cc, d⟩
        have hPl := plnL_len l' fr hi di
        rw [hG] at HG hGl
        rw [hP] at hPl
        rw [hl'] at hGl hPl
        have HGP := Lib.hid (And.intro hG hP)
        obtain ⟨e1, he1⟩ : ∃ e1, rowE m fr hi di ⟨n, a, b, cc, d⟩ = e1 := ⟨_, rfl⟩
        obtain ⟨e3, he3⟩ : ∃ e3, refE m fr hi di = e3 := ⟨_, rfl⟩
        rw [he1] at HG
        have HEE := Lib.hid (And.intro he1 he3)
        obtain ⟨gn, ga, gb, gc, gd⟩ := gs
        unfold stC at HG
        simp only [] at HG hGl
        clear hG hP he1 he3
        go_wp2_with fail
        refine HG.out.mono ?_
        rintro e w4 ⟨L1, lc1, rfl, hr1, hb4⟩
        obtain ⟨w5, hw5⟩ : ∃ w5, w4.alloc (.cells #[.int .i64 gn, .int .i64 ga, .int .i64 gb, .int .i64 gc, .int .i64 gd] 37) = w5 := ⟨_, rfl⟩
        have hb5 : Below wy.heap.size wy w5 := by rw [← hw5]; exact bmk hb4 _
        have H5 : Hid (Below wy.heap.size wy w5 ∧ InS w5 L1 G.length G) := by
          refine ⟨hb5, ?_⟩
          rw [← hw5]
          exact InS.of_own (hr1.alloc _) (by omega)
        clear hr1 hb4 x0 x1 x2 x3 x4 x5 x6 x7 x8 s0 s1 s2 s3 s4 HG
        obtain ⟨t0, t1, t2, t3⟩ := Blk.four (H3.out.2.2.2.2.1.below hb5)
        obtain ⟨⟨s0, s1, s2, s3, s4⟩, _⟩ := st_five (H3.out.2.2.1.below hb5)
        have HG2 := Lib.hid (GreedyR_all a3 m c3 l' fr hi di ⟨n, a, b, cc, d⟩ w5 (H3.out.2.2.2.2.2.below hb5) hc3 hm)
        rw [HGP.out.1, HEE.out.1] at HG2
        unfold stC at HG2
        simp only [] at HG2
        clear hb5
        go_wp2_with fail
        clear hw5
        refine HG2.out.mono ?_
        rintro e w6 ⟨L2, lc2, rfl, hr2, hb6⟩
        obtain ⟨w7, hw7⟩ : ∃ w7, w6.alloc (.cells #[.int .i64 gn, .int .i64 ga, .int .i64 gb, .int .i64 gc, .int .i64 gd] 48) = w7 := ⟨_, rfl⟩
        have hb7 : Below w5.heap.size w5 w7 := by rw [← hw7]; exact bmk hb6 _
        have H7 : Hid (Below wy.heap.size wy w7 ∧ InS w7 L1 G.length G ∧ InS w7 L2 G.length G) := by
          refine ⟨bup H5.out.1 hb7, H5.out.2.below hb7, ?_⟩
          rw [← hw7]
          exact InS.of_own (hr2.alloc _) (by omega)
        clear hr2 hb6 t0 t1 t2 t3 s0 s1 s2 s3 s4 HG2 H5 hb7
        obtain ⟨x0, x1, x2, x3, x4, x5, x6, x7, x8⟩ := Blk.nine_ (H3.out.2.1.below H7.out.1)
        have HP1 := Lib.hid (Plan_all (some ⟨g, 0, none⟩) m cap l' fr hi di w7 (H3.out.1.below H7.out.1) (fun _ => .inr ⟨_, rfl⟩) hmc hm (HLy.out w7 H7.out.1))
        rw [HGP.out.2, HEE.out.2] at HP1
        go_wp2_with fail
        clear hw7
        refine HP1.out.mono ?_
        rintro e w8 ⟨L3, lc3, rfl, hr3, hb8⟩
        have H8 : Hid (Below wy.heap.size wy w8 ∧ InS w8 L1 G.length G ∧ InS w8 L2 G.length G ∧ InS w8 L3 P.length P) := ⟨bup H7.out.1 hb8, H7.out.2.1.below hb8, H7.out.2.2.below hb8, InS.of_own hr3 (by omega)⟩
        clear hr3 hb8 x0 x1 x2 x3 x4 x5 x6 x7 x8 HP1 H7
        obtain ⟨t0, t1, t2, t3⟩ := Blk.four (H3.out.2.2.2.2.1.below H8.out.1)
        have HP2 := Lib.hid (PlanR_all a3 m c3 l' fr hi di w8 (H3.out.2.2.2.2.2.below H8.out.1) hc3 hm)
        rw [HGP.out.2, HEE.out.2] at HP2
        go_wp2_with fail
        refine HP2.out.mono ?_
        rintro e w9 ⟨L4, lc4, rfl, hr4, hb9⟩
        have H9 : Hid (Below wy.heap.size wy w9 ∧ InS w9 L1 G.length G ∧ InS w9 L2 G.length G ∧ InS w9 L3 P.length P ∧ InS w9 L4 P.length P) := ⟨bup H8.out.1 hb9, H8.out.2.1.below hb9, H8.out.2.2.1.below hb9, H8.out.2.2.2.below hb9, InS.of_own hr4 (by omega)⟩
        have Hs1 := Lib.hid (same_any L1 L2 G.length lc1 lc2 G w9 H9.out.2.1 H9.out.2.2.1)
        clear hr4 hb9 t0 t1 t2 t3 HP2 H8
        go_wp2_with fail
        refine Hs1.out.mono ?_
        rintro e w10 ⟨rfl, hb10⟩
        have Hs2 := Lib.hid (same_any L3 L4 P.length lc3 lc4 P w10 (H9.out.2.2.2.1.below hb10) (H9.out.2.2.2.2.below hb10))
        have H10 : Hid (Below wy.heap.size wy w10) := bup H9.out.1 hb10
        clear hb10 H9 Hs1
        go_wp2_with fail
        refine Hs2.out.mono ?_
        rintro e w11 ⟨rfl, hb11⟩
        have H11 : Hid (Fr (fun q => q = g) w w11) := H3.out.2.2.2.1.of_below' (bup H10.out hb11)
        clear hb11 Hs2
        go_wp2_with fail
        go_ret
        exact ⟨rfl, H11.out⟩
end Go.Proofs.YthlflcnpmabmbaaDoor
