
/-
  Walks of the law's Held: written, grown and hold: what a list that was answered holds then. Conditions: the list is a row of the call's own.
-/
import Derived.Test.YtcfaocbdhfmhbaaFresh
import Derived.IntWalk
import Derived.Laws.OwnMore
import Derived.Outline
namespace Go.Proofs.Ytcfaocbdhfmhbaa
open Go.RowKit

def heV (A : Option Addr) (n c : Nat) (N : Nat) (mk : UInt8) (s : List UInt8) (kp : Bool) : Array Value := #[.slice A n c, .int .i64 (N : Int), .int .u8 (mk.toNat : Int), .string (strOf s), .bool kp]
theorem bys_rep_set {xs : List UInt8} {i : Nat} {mk : UInt8} (h : i < xs.length) : (bys (List.replicate i mk ++ xs.drop i)).set i (.int .u8 (mk.toNat : Int)) = bys (List.replicate (i + 1) mk ++ xs.drop (i + 1)) := by
  have h1 : (bys (List.replicate i mk)).length = i := by rw [bys_length, List.length_replicate]
  rw [bys_append, bys_append, List.set_append_right _ _ (by omega), h1, Nat.sub_self, List.drop_eq_getElem_cons h, List.replicate_succ', bys_append, List.append_assoc]
  rfl
def WrPost (A : Option Addr) (n c : Nat) (B : Nat) (xs : List UInt8) (w : World) (e : Ending) (w' : World) : Prop :=
  e = .returned (.tuple #[]) ∧ w'.ownsRow B 5 1 (.slice A n c) n (bys xs) ∧ Fr (fun k => some k = (Value.slice A n c).ownBlock) w w'
set_option maxHeartbeats 1000000 in
theorem written_any (A : Option Addr) (n c N B : Nat) (mk : UInt8) (s : List UInt8) (kp : Bool) (xs : List UInt8) (w : World) (hown : w.ownsRow B 5 1 (.slice A n c) n (bys xs)) (hN : N ≤ n) (hn : n ≤ 140737488355328) :
    Calls Try.prog 31 #[.agg #[.slice A n c, .int .i64 (N : Int), .int .u8 (mk.toNat : Int), .string (strOf s), .bool kp]] w (WrPost A n c B (List.replicate N mk ++ xs.drop N) w) := by
  have hxn : xs.length = n := by have := hown.1; rw [bys_length] at this; omega
  have Hxn := Lib.hid hxn
  clear hxn
  have hB0 := Blk.new w 66 (heV A n c N mk s kp)
  have hbx : Below w.heap.size w (w.alloc (.cells (heV A n c N mk s kp) 66)) := (Below.refl _ _).alloc (Nat.le_refl _) _
  have hown0 := own_below hown hbx
  have hlt0 : ∀ g, (Value.slice A n c).ownBlock = some g → g < w.heap.size := fun g hg => (own_lt hown hg).2
  have H0 : Hid (∀ wz, wz = w.alloc (.cells (heV A n c N mk s kp) 66) → wz.ownsRow B 5 1 (.slice A n c) n (bys (List.replicate 0 mk ++ xs.drop 0)) ∧ Blk wz w.heap.size 66 (heV A n c N mk s kp) ∧ Fr (fun k => some k = (Value.slice A n c).ownBlock) w wz) := fun wz hz => by
    subst hz
    exact ⟨by simpa using hown0, hB0, Fr.of_below hbx⟩
  have Hlt0 := Lib.hid hlt0
  clear hB0 hbx hown0 hown hlt0
  go_enter Try.func31, Try.ntmps31
  go_wp2_with fail
  go_loopw [2] (fun s2 wr => ∃ i : Nat, s2 = .int .i64 (i : Int) ∧ i ≤ N ∧ Hid (wr.ownsRow B 5 1 (.slice A n c) n (bys (List.replicate i mk ++ xs.drop i)) ∧ Blk wr w.heap.size 66 (heV A n c N mk s kp) ∧ Fr (fun k => some k = (Value.slice A n c).ownBlock) w wr)) (fun s2 _ => N - (intOf s2).toNat)
  case atStart => exact ⟨0, rfl, Nat.zero_le _, H0.out _ rfl⟩
  case round =>
    clear H0
    obtain ⟨i, rfl, hi, H⟩ := hrel
    obtain ⟨h0, h1, h2, h3, h4⟩ : wr.cell? ⟨w.heap.size, 0, none⟩ = some (.slice A n c) ∧ wr.cell? ⟨w.heap.size, 1, none⟩ = some (.int .i64 (N : Int)) ∧ wr.cell? ⟨w.heap.size, 2, none⟩ = some (.int .u8 (mk.toNat : Int)) ∧ wr.cell? ⟨w.heap.size, 3, none⟩ = some (.string (strOf s)) ∧ wr.cell? ⟨w.heap.size, 4, none⟩ = some (.bool kp) := H.out.2.1.five
    by_cases hlt : i < N
    · have hlt' : (i : Int) < (N : Int) := by omega
      have hin : i < n := by omega
      obtain ⟨g, cap, hv, _, _⟩ := H.out.1.form (by omega)
      injection hv with hA _ hcap
      subst hA
      subst hcap
      have e0 := H.out.1.cellAt i (by omega)
      have e1 : ∃ u, (bys (List.replicate i mk ++ xs.drop i))[i]? = some u := ⟨_, List.getElem?_eq_getElem (by rw [bys_length, List.length_append, List.length_replicate, List.length_drop, Hxn.out]; omega)⟩
      obtain ⟨u, hu⟩ := e1
      rw [hu] at e0
      have e2 := H.out.1.frozenAt i
      have hgN : g ≠ w.heap.size := by have := Hlt0.out g rfl; omega
      clear hu
      go_wp2_with fail
      go_roundw
      case rel =>
        refine ⟨i + 1, by go_num, by omega, ?_, ?_, ?_⟩
        · have := own_set H.out.1 i (.int .u8 (mk.toNat : Int))
          rw [bys_rep_set (by rw [Hxn.out]; exact hin)] at this
          exact this
        · exact H.out.2.1.far (p := ⟨g, i, none⟩) (fun e => hgN e.symm) _
        · exact H.out.2.2.setCell (p := ⟨g, i, none⟩) (.inl rfl) _
      case measure => simp [intOf]; omega
    · obtain rfl : i = N := by omega
      go_wp2_with fail
      go_end0
      exact ⟨rfl, H.out.1, H.out.2.2⟩
def GrPost (A : Option Addr) (n c : Nat) (B : Nat) (N : Nat) (mk : UInt8) (s : List UInt8) (kp : Bool) (xs : List UInt8) (w : World) (e : Ending) (w' : World) : Prop :=
  ∃ A' c', e = .returned (.agg #[.slice A' (n + 70) c', .int .i64 (N : Int), .int .u8 (mk.toNat : Int), .string (strOf s), .bool kp]) ∧ w'.ownsRow B 5 1 (.slice A' (n + 70) c') (n + 70) (bys (xs ++ List.replicate 70 mk)) ∧
    Fr (fun k => some k = (Value.slice A n c).ownBlock) w w' ∧ ((Value.slice A' (n + 70) c').ownBlock = (Value.slice A n c).ownBlock ∨ ∀ g, (Value.slice A' (n + 70) c').ownBlock = some g → w.heap.size ≤ g)
/-- in the midst of grown -/
structure GrRel (A : Option Addr) (n c B N : Nat) (mk : UInt8) (s : List UInt8) (kp : Bool) (xs : List UInt8) (w : World) (i : Nat) (A' : Option Addr) (c' : Nat) (wr : World) : Prop where
  box : Blk wr w.heap.size 66 (heV A' (n + i) c' N mk s kp)
  res : Blk wr (w.heap.size + 1) 66 #[.slice none 0 0, .int .i64 0, .int .u8 0, .string ⟨#[]⟩, .bool false]
  own : wr.ownsRow B 5 1 (.slice A' (n + i) c') (n + i) (bys (xs ++ List.replicate i mk))
  fr : Fr (fun k => some k = (Value.slice A n c).ownBlock) w wr
  at_ : (Value.slice A' (n + i) c').ownBlock = (Value.slice A n c).ownBlock ∨ ∀ g, (Value.slice A' (n + i) c').ownBlock = some g → w.heap.size ≤ g
theorem GrRel.step {A A' A2 : Option Addr} {n c B N i c' c2 : Nat} {mk : UInt8} {s xs : List UInt8} {kp : Bool} {w wr w1 : World} {o : Obj} (h : GrRel A n c B N mk s kp xs w i A' c' wr)
    (hO : w1.ownsRow B 5 1 (.slice A2 (n + i + 1) c2) (n + i + 1) (bys (xs ++ List.replicate i mk) ++ bys [mk])) (hg : (wr.alloc o).grownBy w1 (Value.slice A' (n + i) c').ownBlock)
    (hat : (Value.slice A2 (n + i + 1) c2).ownBlock = (Value.slice A' (n + i) c').ownBlock ∨ (Value.slice A2 (n + i + 1) c2).ownBlock = some (wr.alloc o).heap.size) :
    GrRel A n c B N mk s kp xs w (i + 1) A2 c2 (w1.setCell ⟨w.heap.size, 0, none⟩ (.slice A2 (n + i + 1) c2)) := by
  have hbox : Blk w1 w.heap.size 66 (heV A' (n + i) c' N mk s kp) := (h.box.alloc o).same (hg.block _ (by have := h.box.lt; simp; omega) (own_ne h.own h.box (by decide)))
  have hres : Blk w1 (w.heap.size + 1) 66 #[.slice none 0 0, .int .i64 0, .int .u8 0, .string ⟨#[]⟩, .bool false] := (h.res.alloc o).same (hg.block _ (by have := h.res.lt; simp; omega) (own_ne h.own h.res (by decide)))
  have hne : some w.heap.size ≠ (Value.slice A2 (n + i + 1) c2).ownBlock := own_ne hO hbox (by decide)
  refine ⟨hbox.set_ 0 _, hres.far (p := ⟨w.heap.size, 0, none⟩) (by simp) _, ?_, ?_, ?_⟩
  · have := own_far hO (p := ⟨w.heap.size, 0, none⟩) hne (.slice A2 (n + i + 1) c2)
    rw [← bys_append, List.append_assoc, ← List.replicate_succ'] at this
    exact this
  · refine Fr.setCell (Fr.grown (h.fr.alloc o) hg (fun g hgg => ?_)) (p := ⟨w.heap.size, 0, none⟩) (.inr (Nat.le_refl _)) _
    rcases h.at_ with h1 | h1
    · exact .inl (by rw [← h1, hgg])
    · exact .inr (h1 g hgg)
  · rcases hat with h2 | h2
    · rcases h.at_ with h1 | h1
      · exact .inl (h2.trans h1)
      · exact .inr (fun g hgg => h1 g (by rw [← h2]; exact hgg))
    · right
      intro g hgg
      have h3 : (Value.slice A2 (n + i + 1) c2).ownBlock = some g := hgg
      rw [h2] at h3
      injection h3 with h3
      have := h.fr.size
      simp at h3
      omega
theorem frh5 (q : Nat) (w : World) (u0 u1 u2 u3 u4 : Value) : Fr (fun k => k = q) w (((((w.setCell ⟨q, 0, none⟩ u0).setCell ⟨q, 1, none⟩ u1).setCell ⟨q, 2, none⟩ u2).setCell ⟨q, 3, none⟩ u3).setCell ⟨q, 4, none⟩ u4) :=
  (((((Fr.refl (fun k => k = q) w).setCell (p := ⟨q, 0, none⟩) (.inl rfl) u0).setCell (p := ⟨q, 1, none⟩) (.inl rfl) u1).setCell (p := ⟨q, 2, none⟩) (.inl rfl) u2).setCell (p := ⟨q, 3, none⟩) (.inl rfl) u3).setCell (p := ⟨q, 4, none⟩) (.inl rfl) u4
set_option maxHeartbeats 1000000 in
theorem grown_any (A : Option Addr) (n c N B : Nat) (mk : UInt8) (s : List UInt8) (kp : Bool) (xs : List UInt8) (w : World) (hown : w.ownsRow B 5 1 (.slice A n c) n (bys xs)) (hn : n + 70 ≤ 140737488355328) (hB : B ≤ w.heap.size) :
    Calls Try.prog 32 #[.agg #[.slice A n c, .int .i64 (N : Int), .int .u8 (mk.toNat : Int), .string (strOf s), .bool kp]] w (GrPost A n c B N mk s kp xs w) := by
  obtain ⟨i0, hi0, hz0, hz1, hz2⟩ := info_parts infou8
  have hbx : ∀ o o', Below w.heap.size w ((w.alloc o).alloc o') := fun o o' => ((Below.refl _ _).alloc (Nat.le_refl _) _).alloc (by simp) _
  have H0 : Hid (GrRel A n c B N mk s kp xs w 0 A c ((w.alloc (.cells (heV A n c N mk s kp) 66)).alloc (.cells #[.slice none 0 0, .int .i64 0, .int .u8 0, .string ⟨#[]⟩, .bool false] 66))) :=
    ⟨(Blk.new _ _ _).alloc _, by have := Blk.new (w.alloc (.cells (heV A n c N mk s kp) 66)) 66 #[.slice none 0 0, .int .i64 0, .int .u8 0, .string ⟨#[]⟩, .bool false]; rw [World.size_alloc] at this; exact this, by rw [List.replicate_zero, List.append_nil]; exact own_below hown (hbx _ _), Fr.of_below (hbx _ _), .inl rfl⟩
  have hlt0 : ∀ g, (Value.slice A n c).ownBlock = some g → g < w.heap.size := fun g hg => (own_lt hown hg).2
  have Hlt0 := Lib.hid hlt0
  clear hbx hown hlt0
  go_enter Try.func32, Try.ntmps32
  go_wp2_with fail
  go_loopw [3] (fun s3 wr => ∃ (i : Nat) (A' : Option Addr) (c' : Nat), s3 = .int .i64 (i : Int) ∧ i ≤ 70 ∧ Hid (GrRel A n c B N mk s kp xs w i A' c' wr)) (fun s3 _ => 70 - (intOf s3).toNat)
  case atStart => exact ⟨0, A, c, rfl, Nat.zero_le _, H0⟩
  case round =>
    clear H0
    obtain ⟨i, A', c', rfl, hi, H⟩ := hrel
    obtain ⟨h0, h1, h2, h3, h4⟩ : wr.cell? ⟨w.heap.size, 0, none⟩ = some (.slice A' (n + i) c') ∧ wr.cell? ⟨w.heap.size, 1, none⟩ = some (.int .i64 (N : Int)) ∧ wr.cell? ⟨w.heap.size, 2, none⟩ = some (.int .u8 (mk.toNat : Int)) ∧ wr.cell? ⟨w.heap.size, 3, none⟩ = some (.string (strOf s)) ∧ wr.cell? ⟨w.heap.size, 4, none⟩ = some (.bool kp) := H.out.box.five
    have hyl := H.out.box.lt
    by_cases hlt : i < 70
    · have hlt' : (i : Int) < 70 := by omega
      have hBr : B ≤ wr.heap.size := by have := H.out.fr.size; omega
      go_wp2_with (at_builtin; refine wpList_append_rd (w := wr.alloc (.cells #[.int .u8 (mk.toNat : Int)] 5)) rfl (.tmp 9) (.tmp 12) 22 rfl B 5 i0 _ 1 1 Try.underlying22 hi0 hz0 hz1 hz2 rfl (by decide) (.slice A' (n + i) c') (n + i) (bys (xs ++ List.replicate i mk)) rfl (H.out.own.alloc _) (some ⟨wr.heap.size, 0, none⟩) 1 1 (bys [mk]) rfl ⟨rfl, fun _ => ⟨_, rfl, World.news_of_block (heap_alloc_new wr _)⟩⟩ (bys_one _) (by simp only [maxLen]; omega) (by omega) (by simp; omega) ?_; intro a1 c1 w1 hown1 hg1 hat1; have hb1 := (H.out.box.alloc (.cells #[.int .u8 (mk.toNat : Int)] 5)).same (hg1.block _ (by simp; omega) (own_ne H.out.own H.out.box (by decide))); obtain ⟨d0, d1, d2, d3, d4⟩ := hb1.five; have f0 := hb1.frozen 0)
      go_roundw
      case rel =>
        refine ⟨i + 1, a1, c1, by go_num, by omega, ?_⟩
        exact H.out.step hown1 hg1 hat1
      case measure => simp [intOf]; omega
    · obtain rfl : i = 70 := by omega
      have hzl := H.out.res.lt
      obtain ⟨r0, r1, r2, r3, r4⟩ := H.out.res.five
      have g0 := H.out.res.frozen 0
      have g1 := H.out.res.frozen 1
      have g2 := H.out.res.frozen 2
      have g3 := H.out.res.frozen 3
      have g4 := H.out.res.frozen 4
      go_wp2_with fail
      refine bodyPost_ret (v := .agg #[.slice A' (n + 70) c', .int .i64 (N : Int), .int .u8 (mk.toNat : Int), .string (strOf s), .bool kp]) (by simp [results, Try.results32, go_sem, *]) rfl ?_
      have hne : ∀ g, (Value.slice A' (n + 70) c').ownBlock = some g → ¬ g = w.heap.size + 1 := fun g hg e => by subst e; exact own_ne H.out.own H.out.res (by decide) hg.symm
      refine ⟨A', c', rfl, own_fr H.out.own (frh5 (w.heap.size + 1) wr _ _ _ _ _) hne, H.out.fr.trans' (frh5 (w.heap.size + 1) wr _ _ _ _ _) (fun i hi e => by omega), H.out.at_⟩
def markOf (k : Nat) : UInt8 := UInt8.ofNat (2 * k + 1)
theorem markOf_int (k : Nat) : ((k : Int) * 2 + 1) % 256 = ((markOf k).toNat : Int) := by
  unfold markOf
  rw [UInt8.toNat_ofNat']
  omega
set_option maxHeartbeats 1000000 in
theorem hold_even (A : Option Addr) (n c B k : Nat) (xs : List UInt8) (w : World) (hown : w.ownsRow B 5 1 (.slice A n c) n (bys xs)) (hn : n ≤ 140737488351232) (hk : k ≤ 1048600) (he : k % 2 = 0) :
    Calls Try.prog 27 #[.slice A n c, .int .i64 (k : Int)] w fun e w' => e = .returned (.agg (heV A n c n (markOf k) xs true)) ∧ Below w.heap.size w w' := by
  have hm := markOf_int k
  obtain ⟨mk, hmk⟩ : ∃ mk, markOf k = mk := ⟨_, rfl⟩
  rw [hmk] at hm ⊢
  have he2 : (k : Int) % 2 = 0 := by omega
  have hcv : ∀ o, (convert 22 9 (.slice A n c)).run Try.prog (w.alloc o) = .ok (.string (strOf xs)) (w.alloc o) := fun o => conv_rd (Rd.of_own (hown.alloc o))
  clear hmk hown he
  go_enter Try.func27, Try.ntmps27
  go_wp2_with fail
  exact bodyPost_ret (v := .agg #[.slice A n c, .int .i64 (n : Int), .int .u8 (mk.toNat : Int), .string (strOf xs), .bool true]) (by simp [results, Try.results27, go_sem, *]) rfl ⟨rfl, ((Below.refl _ _).alloc (Nat.le_refl _) _).alloc (by simp) _⟩
def HoPost (A : Option Addr) (n c : Nat) (B : Nat) (mk : UInt8) (xs : List UInt8) (w : World) (e : Ending) (w' : World) : Prop :=
  ∃ A' c', e = .returned (.agg (heV A' (n + 70) c' n mk xs false)) ∧ w'.ownsRow B 5 1 (.slice A' (n + 70) c') (n + 70) (bys (List.replicate (n + 70) mk)) ∧
    Fr (fun k => some k = (Value.slice A n c).ownBlock) w w' ∧ ((Value.slice A' (n + 70) c').ownBlock = (Value.slice A n c).ownBlock ∨ ∀ g, (Value.slice A' (n + 70) c').ownBlock = some g → w.heap.size ≤ g)
set_option maxHeartbeats 1000000 in
theorem hold_odd (A : Option Addr) (n c B k : Nat) (xs : List UInt8) (w : World) (hown : w.ownsRow B 5 1 (.slice A n c) n (bys xs)) (hn : n + 70 ≤ 140737488351232) (hk : k ≤ 1048600) (he : k % 2 = 1) (hB : B ≤ w.heap.size) :
    Calls Try.prog 27 #[.slice A n c, .int .i64 (k : Int)] w (HoPost A n c B (markOf k) xs w) := by
  have hm := markOf_int k
  obtain ⟨mk, hmk⟩ : ∃ mk, markOf k = mk := ⟨_, rfl⟩
  rw [hmk] at hm ⊢
  have he2 : (k : Int) % 2 = 1 := by omega
  have hxn : xs.length = n := by have := hown.1; rw [bys_length] at this; omega
  have Hxn := Lib.hid hxn
  have hcv : ∀ o, (convert 22 9 (.slice A n c)).run Try.prog (w.alloc o) = .ok (.string (strOf xs)) (w.alloc o) := fun o => conv_rd (Rd.of_own (hown.alloc o))
  have Hown := Lib.hid hown
  clear hmk hown he hxn
  go_enter Try.func27, Try.ntmps27
  go_wp2_with fail
  obtain ⟨W2, hW2⟩ : ∃ W2, (w.alloc (.cells #[.slice none 0 0, .int .i64 0, .int .u8 0, .string ⟨#[]⟩, .bool false] 66)).alloc (.cells #[.slice A n c, .int .i64 (n : Int), .int .u8 (mk.toNat : Int), .string (strOf xs), .bool false] 66) = W2 := ⟨_, rfl⟩
  have hbx : Below w.heap.size w W2 := by rw [← hW2]; exact ((Below.refl _ _).alloc (Nat.le_refl _) _).alloc (by simp) _
  have hX : Blk W2 w.heap.size 66 #[.slice none 0 0, .int .i64 0, .int .u8 0, .string ⟨#[]⟩, .bool false] := by rw [← hW2]; exact (Blk.new _ _ _).alloc _
  have hY : Blk W2 (w.heap.size + 1) 66 (heV A n c n mk xs false) := by rw [← hW2]; exact Blk.new_at (by simp)
  have HO2 := Lib.hid (own_below Hown.out hbx)
  have Hlt : Hid (∀ g, (Value.slice A n c).ownBlock = some g → g < w.heap.size) := fun g hg => (own_lt Hown.out hg).2
  rw [hW2]
  clear hW2 hcv hm
  refine (written_any A n c n B mk xs false xs W2 HO2.out (Nat.le_refl _) (by omega)).mono ?_
  rintro e w3 ⟨rfl, hO3, hF3⟩
  rw [List.drop_of_length_le (by rw [Hxn.out]; exact Nat.le_refl _), List.append_nil] at hO3
  have hX3 := hX.fr hF3 (fun e => by have := Hlt.out _ e.symm; omega)
  have hY3 := hY.fr hF3 (fun e => by have := Hlt.out _ e.symm; omega)
  have HF3 : Hid (Fr (fun k => some k = (Value.slice A n c).ownBlock) w w3) := (Fr.of_below hbx).trans' hF3 (fun i hi e => e)
  have HO3 := Lib.hid hO3
  clear hX hY hF3 hO3 HO2 hbx
  obtain ⟨y0, y1, y2, y3, y4⟩ : w3.cell? ⟨w.heap.size + 1, 0, none⟩ = some (.slice A n c) ∧ w3.cell? ⟨w.heap.size + 1, 1, none⟩ = some (.int .i64 (n : Int)) ∧ w3.cell? ⟨w.heap.size + 1, 2, none⟩ = some (.int .u8 (mk.toNat : Int)) ∧ w3.cell? ⟨w.heap.size + 1, 3, none⟩ = some (.string (strOf xs)) ∧ w3.cell? ⟨w.heap.size + 1, 4, none⟩ = some (.bool false) := hY3.five
  have hyl := hY3.lt
  go_wp2_with fail
  refine (grown_any A n c n B mk xs false (List.replicate n mk) w3 HO3.out (by omega) (by have := HF3.out.size; omega)).mono ?_
  rintro e w4 ⟨A', c', rfl, hO4, hF4, hat4⟩
  rw [List.replicate_append_replicate] at hO4
  have hX4 := hX3.fr hF4 (fun e => by have := Hlt.out _ e.symm; omega)
  have hY4 := hY3.fr hF4 (fun e => by have := Hlt.out _ e.symm; omega)
  have HF4 : Hid (Fr (fun k => some k = (Value.slice A n c).ownBlock) w w4) := HF3.out.trans hF4
  have HO4 := Lib.hid hO4
  have Hat : Hid ((Value.slice A' (n + 70) c').ownBlock = (Value.slice A n c).ownBlock ∨ ∀ g, (Value.slice A' (n + 70) c').ownBlock = some g → w.heap.size ≤ g) := by
    rcases hat4 with h | h
    · exact .inl h
    · exact .inr (fun g hg => Nat.le_trans HF3.out.size (h g hg))
  clear y0 y1 y2 y3 y4 hX3 hY3 hF4 hO4 hat4 HO3 HF3 hyl
  obtain ⟨y0, y1, y2, y3, y4⟩ : w4.cell? ⟨w.heap.size + 1, 0, none⟩ = some (.slice A n c) ∧ w4.cell? ⟨w.heap.size + 1, 1, none⟩ = some (.int .i64 (n : Int)) ∧ w4.cell? ⟨w.heap.size + 1, 2, none⟩ = some (.int .u8 (mk.toNat : Int)) ∧ w4.cell? ⟨w.heap.size + 1, 3, none⟩ = some (.string (strOf xs)) ∧ w4.cell? ⟨w.heap.size + 1, 4, none⟩ = some (.bool false) := hY4.five
  obtain ⟨r0, r1, r2, r3, r4⟩ := hX4.five
  have f0 := hX4.frozen 0; have f1 := hX4.frozen 1; have f2 := hX4.frozen 2; have f3 := hX4.frozen 3; have f4 := hX4.frozen 4
  have g0 := hY4.frozen 0; have g1 := hY4.frozen 1; have g2 := hY4.frozen 2; have g3 := hY4.frozen 3; have g4 := hY4.frozen 4
  have hyl := hY4.lt
  have hxl := hX4.lt
  have hne : ∀ g, (Value.slice A' (n + 70) c').ownBlock = some g → ¬ g = w.heap.size ∧ ¬ g = w.heap.size + 1 := fun g hg => ⟨fun e => own_ne HO4.out hX4 (by decide) (by rw [hg, e]), fun e => own_ne HO4.out hY4 (by decide) (by rw [hg, e])⟩
  have Hne := Lib.hid hne
  clear hX4 hY4 hne
  go_wp2_with fail
  refine bodyPost_ret (v := .agg #[.slice A' (n + 70) c', .int .i64 (n : Int), .int .u8 (mk.toNat : Int), .string (strOf xs), .bool false]) (by simp [results, Try.results27, go_sem, *]) rfl ?_
  have ffy := frh5 (w.heap.size + 1) w4
  exact ⟨A', c', rfl, own_fr (own_fr HO4.out (ffy _ _ _ _ _) (fun g hg => (Hne.out g hg).2)) (frh5 w.heap.size _ _ _ _ _ _) (fun g hg => (Hne.out g hg).1), (HF4.out.trans' (ffy _ _ _ _ _) (fun i hi e => by omega)).trans' (frh5 w.heap.size _ _ _ _ _ _) (fun i hi e => by omega), Hat.out⟩
end Go.Proofs.Ytcfaocbdhfmhbaa
