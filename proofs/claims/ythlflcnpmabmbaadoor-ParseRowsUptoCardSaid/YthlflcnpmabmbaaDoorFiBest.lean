/-
  Walk of Best: the first of the longest matches. Conditions: the finder lies in memory.
-/
import Derived.Test.YthlflcnpmabmbaaDoorFiWalk
import Derived.Test.YthlflcnpmabmbaaDoorFiRnA
import Derived.Maps.OwnIn
namespace Go.Proofs.YthlflcnpmabmbaaDoor
open Go.RowKit Go.Shelf
attribute [local go_sem] Oper.semAt_some
set_option maxRecDepth 100000

/-- the first of the longest -/
def bestL (l : List (Nat × Nat)) : Nat × Nat := l.foldl (fun b m => if b.1 < m.1 then m else b) (0, 0)
theorem bestL_snoc (l : List (Nat × Nat)) (m : Nat × Nat) : bestL (l ++ [m]) = if (bestL l).1 < m.1 then m else bestL l := by
  unfold bestL
  rw [List.foldl_append]
  rfl
theorem take_snoc {α : Type} {l : List α} {k : Nat} {m : α} (h : l[k]? = some m) : l.take (k + 1) = l.take k ++ [m] := by
  rw [List.take_add_one, h]
  rfl
def mC (m : Nat × Nat) : Array Value := #[.int .i64 (m.1 : Int), .int .i64 (m.2 : Int)]
/-- the world behind the round's variable -/
def awM (v : Value) (W : World) : World := W.alloc (.cells v.cells 98)
theorem awM_below (v : Value) (W : World) : Below W.heap.size W (awM v W) := (Below.refl _ _).alloc (Nat.le_refl _) _
theorem awM_box (m : Nat × Nat) (W : World) : Blk (awM (mV m) W) W.heap.size 98 (mC m) := Blk.new _ _ _
set_option maxHeartbeats 4000000 in
theorem Best_any (p : FP) (pos : Nat) (most : Int) (w : World) (hF : Fi p pos w) (hpos : pos ≤ p.l.length) (hl : p.l.length ≤ 1073741824) (hd : 1 ≤ p.dict ∧ p.dict ≤ 4294967295) :
    Calls Tryd.prog 65 #[.pointer (some ⟨p.fb, 0, none⟩), .int .i64 most] w fun e w' => e = .returned (mV (bestL (mats p.l p.dict pos most))) ∧ Below w.heap.size w w' := by
  have HF := Lib.hid hF
  obtain ⟨ms, hms⟩ : ∃ ms, mats p.l p.dict pos most = ms := ⟨_, rfl⟩
  rw [hms]
  have Hms := Lib.hid hms
  obtain ⟨B, hB⟩ : ∃ B, w.heap.size = B := ⟨_, rfl⟩
  clear hF hms
  refine (callsIn_wide (n := 3)).1 ?_
  refine callsIn_of_wp_marks Tryd.func65 rfl trivial ?_ rfl
  refine wpIn_wide.2 ?_
  simp only [Tryd.ntmps65, List.size_toArray, List.length_cons, List.length_nil, Nat.reduceAdd, Nat.reduceSub, Array.replicate_succ, Array.replicate_zero, List.push_toArray, List.append_toArray, List.nil_append, List.cons_append]
  go_wp2_with fail
  obtain ⟨wB, hwB⟩ : ∃ wB, w.alloc (.cells #[.int .i64 0, .int .i64 0] 98) = wB := ⟨_, rfl⟩
  rw [hwB]
  have hzB : wB.heap.size = B + 1 := by rw [← hwB, World.size_alloc, hB]
  have hbB : Below w.heap.size w wB := by rw [← hwB]; exact (Below.refl _ _).alloc (Nat.le_refl _) _
  have hBB : Blk wB B 98 (mC (0, 0)) := by rw [← hwB]; exact Blk.new_at hB.symm
  refine (Matches_any p.fb most wB).mono ?_
  rintro e w2 ⟨rfl, rfl⟩
  rw [hzB]
  obtain ⟨wS, hwS⟩ : ∃ wS, (wB.alloc (.cells #[.pointer (some ⟨p.fb, 0, none⟩)] 64)).alloc (.cells #[.int .i64 most] 3) = wS := ⟨_, rfl⟩
  have hsz : wS.heap.size = B + 3 := by rw [← hwS]; simp [hzB]
  have hbS : Below wB.heap.size wB wS := by rw [← hwS]; exact ((Below.refl _ _).alloc (Nat.le_refl _) _).alloc (by simp) _
  have hfx : Blk wS (B + 1) 64 #[.pointer (some ⟨p.fb, 0, none⟩)] := by rw [← hwS]; exact (Blk.new_at hzB.symm).alloc _
  have hmx : Blk wS (B + 1 + 1) 3 #[.int .i64 most] := by rw [← hwS]; exact Blk.new_at (by simp [hzB])
  rw [hwS]
  have HS := Lib.hid (And.intro (hBB.below hbS) (And.intro hfx (And.intro hmx (And.intro (bup hbB hbS) ((HF.out.below hbB).below hbS)))))
  have hfT : Hid (p.T ≤ B ∧ p.fb < p.T ∧ ∀ g, FinP p g → g < B) := ⟨by rw [← hB]; exact HF.out.ts, HF.out.fs.2, fun g hg => by have h1 := HF.out.ts; have h2 := hg.2.2; omega⟩
  have HBs := Lib.hid hB
  clear hwB hbB hBB hwS hbS hfx hmx hzB hB
  go_wp2_with fail
  refine (wpIn_wide (n := 3)).1 ?_
  refine range_la (n := 3) (by omega) (gf := 73) (lb := #[.pointer (some ⟨B + 1, 0, none⟩), .pointer (some ⟨B + 1 + 1, 0, none⟩)]) rfl (enters_of Tryd.func73 (by kernel_rfl) rfl) rfl .ret
    (fun k W => Blk W B 98 (mC (bestL (ms.take k))) ∧ Blk W (B + 1) 64 #[.pointer (some ⟨p.fb, 0, none⟩)] ∧ Fi p pos W ∧ Below w.heap.size w W) (fun _ => False) (fun k v => ∃ m, ms[k]? = some m ∧ v = mV m) ms.length (B + 3) hsz ?i1 ?x1
    ⟨HS.out.1, HS.out.2.1, HS.out.2.2.2.2, HS.out.2.2.2.1⟩ ?iter
    (fun v W => { tmps := #[.pointer (some ⟨p.fb, 0, none⟩), .int .i64 most, undef, undef, .pointer (some ⟨B, 0, none⟩), .pointer (some ⟨W.heap.size, 0, none⟩), .pointer (some ⟨p.fb, 0, none⟩), .int .i64 most, .func (.func 73) #[] #[.pointer (some ⟨B + 1, 0, none⟩), .pointer (some ⟨B + 1 + 1, 0, none⟩)], v, undef, undef, undef, undef, undef, undef, undef], defers := [] }) awM awM_below ?assign ?body ?done ?stop
  case i1 =>
    rintro k W W' ⟨h1, h2, h3, h4⟩ hF
    have hB := HBs.out
    refine ⟨h1.fr hF (by omega), h2.fr hF (by omega), h3.fr hF (fun g h1 h2 => by have := hfT.out.1; omega), h4.trans (hF.below h4.size (fun k e => by omega))⟩
  case x1 => intro W W' h; exact h.elim
  case iter =>
    intro J Jx r hJ0 hJf hJI hY
    have hbl : Below wS.heap.size wS ((wS.alloc (.deferred (some []))).alloc (.loop r)) := ((Below.refl _ _).alloc (Nat.le_refl _) _).alloc (by simp) _
    have := matches1_lv 2 (B + 3 + 1) (B + 1) (B + 1 + 1) most p pos J Jx _ (HS.out.2.2.2.2.below hbl) (HS.out.2.1.below hbl) (HS.out.2.2.1.below hbl) hpos hl hd hJ0 hJf (fun k W hJ => ⟨⟨pos, (hJI k W hJ).1.2.2.1⟩, (hJI k W hJ).1.2.1⟩) (fun k m W hJ hm => by
      rw [Hms.out] at hm
      exact hY k (mV m) W hJ ⟨m, hm, rfl⟩ (List.getElem?_eq_some_iff.1 hm).1)
    rw [Hms.out] at this
    exact this
  case assign =>
    rintro k v W R ⟨m, hm, rfl⟩ hR
    unfold mV at hR ⊢
    gi_wp2
    exact hR
  case body =>
    rintro k v W Wb ⟨h1, h2, h3, h4⟩ ⟨m, hm, rfl⟩ hk hD hFb
    have hB := HBs.out
    have hF : Fr (fun g => g = B + 3 ∨ g = B + 3 + 1) W Wb := ((Fr.refl _ W).of_below' (awM_below (mV m) W)).trans' hFb (fun i _ e => .inr e)
    have hbx : Blk Wb W.heap.size 98 (mC m) := (awM_box m W).fr hFb (by omega)
    have h1 := h1.fr hF (by omega)
    have h2 := h2.fr hF (by omega)
    have h3 := h3.fr hF (fun g h1 h2 => by have := hfT.out.1; omega)
    have h4 : Below w.heap.size w Wb := h4.trans (hF.below h4.size (fun k e => by omega))
    obtain ⟨b, hb⟩ : ∃ b, bestL (ms.take k) = b := ⟨_, rfl⟩
    rw [hb] at h1
    have hnext : bestL (ms.take (k + 1)) = if b.1 < m.1 then m else b := by rw [take_snoc hm, bestL_snoc, hb]
    obtain ⟨X, hX⟩ : ∃ X, W.heap.size = X := ⟨_, rfl⟩
    rw [hX] at hbx ⊢
    obtain ⟨m1, m2⟩ := m
    obtain ⟨b1, b2⟩ := b
    obtain ⟨c0, c1⟩ := hbx.two
    obtain ⟨d0, d1⟩ := h1.two
    have f0 := h1.frozen 0
    have f1 := h1.frozen 1
    have hBl := h1.lt
    have H1 := Lib.hid h1
    have H2 := Lib.hid h2
    have H3 := Lib.hid h3
    have H4 := Lib.hid h4
    have Hn := Lib.hid hnext
    have hXD : B + 3 + 1 < X := by omega
    clear h1 h2 h3 h4 hbx hnext hF hFb hm hb hX hD
    by_cases hlt : b1 < m1
    · have hlt' : (b1 : Int) < (m1 : Int) := by omega
      have hFs : Fr (fun g => g = B) Wb ((Wb.setCell ⟨B, 0, none⟩ (.int .i64 (m1 : Int))).setCell ⟨B, 1, none⟩ (.int .i64 (m2 : Int))) := ((Fr.refl (fun g => g = B) Wb).setCell (p := ⟨B, 0, none⟩) (.inl rfl) _).setCell (p := ⟨B, 1, none⟩) (.inl rfl) _
      have HP : Hid (((Wb.setCell ⟨B, 0, none⟩ (.int .i64 (m1 : Int))).setCell ⟨B, 1, none⟩ (.int .i64 (m2 : Int))).heap[B + 3]? = Wb.heap[B + 3]? ∧ ((Wb.setCell ⟨B, 0, none⟩ (.int .i64 (m1 : Int))).setCell ⟨B, 1, none⟩ (.int .i64 (m2 : Int))).heap[B + 3 + 1]? = Wb.heap[B + 3 + 1]? ∧
          Blk ((Wb.setCell ⟨B, 0, none⟩ (.int .i64 (m1 : Int))).setCell ⟨B, 1, none⟩ (.int .i64 (m2 : Int))) B 98 (mC (bestL (ms.take (k + 1)))) ∧ Blk ((Wb.setCell ⟨B, 0, none⟩ (.int .i64 (m1 : Int))).setCell ⟨B, 1, none⟩ (.int .i64 (m2 : Int))) (B + 1) 64 #[.pointer (some ⟨p.fb, 0, none⟩)] ∧
          Fi p pos ((Wb.setCell ⟨B, 0, none⟩ (.int .i64 (m1 : Int))).setCell ⟨B, 1, none⟩ (.int .i64 (m2 : Int))) ∧ Below w.heap.size w ((Wb.setCell ⟨B, 0, none⟩ (.int .i64 (m1 : Int))).setCell ⟨B, 1, none⟩ (.int .i64 (m2 : Int)))) := by
        have hsame : ∀ g, g ≠ B → ((Wb.setCell ⟨B, 0, none⟩ (.int .i64 (m1 : Int))).setCell ⟨B, 1, none⟩ (.int .i64 (m2 : Int))).heap[g]? = Wb.heap[g]? := fun g hg => (Below.heap_setCell _ _ _ _ hg).trans (Below.heap_setCell _ _ _ _ hg)
        refine ⟨hsame _ (by omega), hsame _ (by omega), ?_, H2.out.fr hFs (by omega), H3.out.fr hFs (fun g h1 h2 => by have := hfT.out.1; omega), H4.out.trans (hFs.below H4.out.size (fun k e => by omega))⟩
        rw [Hn.out, if_pos hlt]
        have := (H1.out.set_ 0 (.int .i64 (m1 : Int))).set_ 1 (.int .i64 (m2 : Int))
        exact this
      clear hFs Hn hB
      gi_wp2
      exact HP.out
    · have hlt' : ¬ (b1 : Int) < (m1 : Int) := by omega
      have HP : Hid (Blk Wb B 98 (mC (bestL (ms.take (k + 1))))) := by
        rw [Hn.out, if_neg hlt]
        exact H1.out
      clear Hn hB
      gi_wp2
      exact ⟨rfl, rfl, HP.out, H2.out, H3.out, H4.out⟩
  case done =>
    rintro W ⟨h1, h2, h3, h4⟩ hM
    rw [List.take_length] at h1
    obtain ⟨⟨b1, b2⟩, hb⟩ : ∃ b, bestL ms = b := ⟨_, rfl⟩
    rw [hb] at h1
    have Hb := Lib.hid hb
    have hB := HBs.out
    obtain ⟨d0, d1⟩ := h1.two
    have f0 := h1.frozen 0
    have f1 := h1.frozen 1
    have hBl := h1.lt
    have hMl : B + 3 < W.heap.size := (Array.getElem?_eq_some_iff.1 hM).1
    have h1' := (h1.set_ 0 (.int .i64 (b1 : Int))).set_ 1 (.int .i64 (b2 : Int))
    have hsame : ∀ g, g ≠ B → ((W.setCell ⟨B, 0, none⟩ (.int .i64 (b1 : Int))).setCell ⟨B, 1, none⟩ (.int .i64 (b2 : Int))).heap[g]? = W.heap[g]? := fun g hg => (Below.heap_setCell _ _ _ _ hg).trans (Below.heap_setCell _ _ _ _ hg)
    have HM' := Lib.hid ((hsame (B + 3) (by omega)).trans hM)
    have hFs : Fr (fun g => g = B ∨ g = B + 3) W ((((W.setCell ⟨B, 0, none⟩ (.int .i64 (b1 : Int))).setCell ⟨B, 1, none⟩ (.int .i64 (b2 : Int)))).putObj (B + 3) (.deferred none)) := (((Fr.refl (fun g => g = B ∨ g = B + 3) W).setCell (p := ⟨B, 0, none⟩) (.inl (.inl rfl)) _).setCell (p := ⟨B, 1, none⟩) (.inl (.inl rfl)) _).put_ (.inr rfl) _
    have HB2 := Lib.hid (h4.trans (hFs.below h4.size (fun k e => by omega)))
    have HC2 := Lib.hid (h1'.fr ((Fr.refl (fun g => g = B + 3) _).put_ rfl (.deferred none)) (by omega))
    clear h1 h2 h3 h4 hM h1' hsame hFs hb hB
    go_wp2_with fail
    refine ⟨by simp, .inl ⟨_, _, rfl, run_takeDeferred HM'.out, ?_⟩⟩
    obtain ⟨t0, t1⟩ := HC2.out.two
    exact ⟨mV (b1, b2), by simp [results, Tryd.results65, go_sem, t0, t1, mV], by rw [Hb.out], HB2.out⟩
  case stop => intro W h; exact h.elim
end Go.Proofs.YthlflcnpmabmbaaDoor
