/-
  Walk of the laws' fixed: what the document fixes holds. No condition.
-/
import Derived.Test.YtglkahonejblpaaFixN
namespace Go.Proofs.Ytglkahonejblpaa
open Go.RowKit

theorem made_zeros (n : Nat) : (madeCells (Value.int .u8 0).cells (n * 1)).toList = bys (List.replicate n 0) := by
  have h : (Value.int .u8 0).cells = #[.int .u8 0] := rfl
  rw [h, Nat.mul_one]
  unfold madeCells bys
  simp [Nat.mod_one, List.map_replicate]
  rw [List.eq_replicate_iff]
  simp
theorem In.of_own {w : World} {B : Nat} {A : Option Addr} {n c : Nat} {l : List UInt8} (h : w.ownsRow B 5 1 (.slice A n c) n (bys l)) (hn : n ≤ 140737488351232) : In w A n l :=
  ⟨Rd.of_own h, fun _ ad had => (own_lt h (own_addr h had)).2, hn⟩
/-- a cutter with its rest, and nothing answered yet -/
theorem sp_start {B X : Nat} {least most bits sum : Int} {n : Nat} {LA : Option Addr} {lc : Nat} {lf : List UInt8} {w : World} (hX : Blk w X 71 (rollX (.slice LA lf.length lc) least most bits sum n)) (hB : B ≤ X) (hL : w.ownsRow B 5 1 (.slice LA lf.length lc) lf.length (bys lf)) :
    SP (famC B X least most bits ⟨LA, lc, lf, sum, n, none, 0, []⟩) B w := by
  refine ⟨fun y => ?_, fun y => ?_, fun y g hg => ?_, fun y z hyz g hg hg' => ?_, by have := hX.lt; omega⟩
  · cases y with
    | x => exact hX
    | l => exact hL
    | o => exact World.ownsRow_nil _ _ _ _
    | e i => trivial
  · cases y with
    | x => exact x_st ⟨LA, lc, lf, sum, n, none, 0, []⟩
    | l => exact ownC_st _ _ _ _ _ _
    | o => exact ownC_st _ _ _ _ _ _
    | e i => exact trivC_st
  · cases y with
    | x => have hg : g = X := hg; rw [hg]; exact ⟨hB, hX.lt⟩
    | l => exact own_lt hL hg
    | o => exact absurd hg (by simp [famC, ownC, Value.ownBlock])
    | e i => exact hg.elim
  · cases y with
    | x =>
      have hg : g = X := hg
      cases z with
      | x => exact hyz rfl
      | l => exact (own_bt hL hg').ne ⟨_, hX⟩ (by decide) hg
      | o => exact absurd hg' (by simp [famC, ownC, Value.ownBlock])
      | e i => exact hg'.elim
    | l =>
      cases z with
      | x => exact (own_bt hL hg).ne ⟨_, hX⟩ (by decide) hg'
      | l => exact hyz rfl
      | o => exact absurd hg' (by simp [famC, ownC, Value.ownBlock])
      | e i => exact hg'.elim
    | o => exact absurd hg (by simp [famC, ownC, Value.ownBlock])
    | e i => exact hg.elim
theorem inn4 (w : World) : InN (w.alloc (.cells #[.int .i64 256, .int .i64 512, .int .i64 768, .int .i64 1000] 3)) (some ⟨w.heap.size, 0, none⟩) 4 [256, 512, 768, 1000] := by
  have hb := Blk.new w 3 #[.int .i64 256, .int .i64 512, .int .i64 768, .int .i64 1000]
  refine ⟨rfl, by decide, fun _ => ⟨w.heap.size, 0, rfl, hb.lt, fun i x hx => ?_⟩⟩
  rw [Nat.zero_add, hb.cell]
  rcases i with _ | _ | _ | _ | i
  · simp at hx; subst hx; rfl
  · simp at hx; subst hx; rfl
  · simp at hx; subst hx; rfl
  · simp at hx; subst hx; rfl
  · simp at hx
theorem in12 (w : World) : In (w.alloc (.cells #[.int .u8 1, .int .u8 2] 5)) (some ⟨w.heap.size, 0, none⟩) 2 [1, 2] := by
  have hb := Blk.new w 5 #[.int .u8 1, .int .u8 2]
  refine ⟨⟨rfl, fun _ => ⟨_, rfl, fun j u hu => ?_⟩⟩, fun _ ad had => by cases had; exact hb.lt, by decide⟩
  rw [show (⟨w.heap.size, 0, none⟩ : Addr).add j = ⟨w.heap.size, j, none⟩ from by unfold Addr.add; split <;> simp_all, hb.cell]
  rcases j with _ | _ | j
  · exact hu
  · exact hu
  · simp [bys] at hu
set_option maxHeartbeats 4000000 in
set_option maxRecDepth 100000 in
theorem fixed_any (w : World) : Calls Try.prog 9 #[] w fun e w' => e = .returned (.bool true) ∧ Below w.heap.size w w' := by
  obtain ⟨i0, hi0, hz0, hz1, hz2⟩ := info_parts infou8
  go_enter Try.func9, Try.ntmps9
  go_wp2_with (at_make; refine wpList_make_full w rfl (.const (.int .i64 1000)) (.const (.int .i64 1000)) 32 rfl w.heap.size 5 i0 _ 1 Try.underlying32 hi0 hz0 hz1 .i64 .i64 1000 1000 1000 rfl rfl rfl rfl (by rw [hz2]; omega) (by unfold maxLen; omega) (Nat.le_refl _) ?_; intro w1 hown1 hg1)
  rw [made_zeros] at hown1
  have Hb1 : Hid (Below w.heap.size w w1) := (Below.refl _ w).grown hg1 (Nat.le_refl _) (fun g hg => by cases hg)
  refine (Cut_yes _ 1000 1000 (List.replicate 1000 0) 64 256 4 w1 (In.of_own hown1 (by omega)) (Nat.le_refl _) (by omega) ⟨by decide, by decide, by decide, by decide, by decide⟩).mono ?_
  rintro e w2 ⟨L, lc, rfl, hL, hb2⟩
  rw [cuts_fixed] at hL ⊢
  have HL2 := Lib.hid (InN.of_own hL (by decide))
  have hlc : 4 ≤ lc := own_le hL
  have Hb2 : Hid (Below w.heap.size w w2) := bup Hb1.out hb2
  clear hL hb2 hown1 hg1 Hb1
  simp only [List.length_cons, List.length_nil, Nat.zero_add, Nat.reduceAdd] at HL2 ⊢
  go_wp2_with fail
  refine (New_yes 64 64 0 w2 ⟨by decide, by decide, by decide, by decide, by decide⟩).mono ?_
  rintro e w3 ⟨X, rfl, hX0, hX, hb3⟩
  have HX3 := Lib.hid hX
  have HL3 := Lib.hid (HL2.out.below hb3)
  have Hb3 : Hid (Below w.heap.size w w3) := bup Hb2.out hb3
  have HXB : Hid (w.heap.size ≤ X) := Nat.le_trans Hb2.out.size hX0
  clear hX hb3 hX0 HL2 Hb2
  go_wp2_with fail
  refine (ints_same L (some ⟨w3.heap.size, 0, none⟩) 4 lc 4 [256, 512, 768, 1000] _ (HL3.out.below ((Below.refl _ _).alloc (Nat.le_refl _) _)) (inn4 w3) hlc (Nat.le_refl _)).mono ?_
  rintro e w4 ⟨rfl, hb4⟩
  have HX4 : Hid (Blk w4 X 71 (rollX (.slice none 0 0) 64 64 0 0 0)) := (HX3.out.alloc _).below hb4
  have Hb4 : Hid (Below w.heap.size w w4) := bup (bmk_ Hb3.out _) hb4
  clear hb4 HX3 HL3 Hb3 hlc
  go_wp2_with fail
  refine (Gear_any 97 w4).mono ?_
  rintro e w5 ⟨rfl, rfl⟩
  rw [gear97]
  go_wp2_with (at_make; refine wpList_make_full w4 rfl (.const (.int .i64 63)) (.const (.int .i64 63)) 32 rfl w4.heap.size 5 i0 _ 1 Try.underlying32 hi0 hz0 hz1 .i64 .i64 63 63 63 rfl rfl rfl rfl (by rw [hz2]; omega) (by unfold maxLen; omega) (Nat.le_refl _) ?_; intro w5 hown5 hg5)
  rw [made_zeros] at hown5
  have hX5 : Blk w5 X 71 (rollX (.slice none 0 0) 64 64 0 0 0) := HX4.out.same (hg5.block X HX4.out.lt (by simp))
  have Hb5 : Hid (Below w.heap.size w w5) := Hb4.out.grown hg5 Hb4.out.size (fun g hg => by cases hg)
  have hxl := HX4.out.lt
  have hHS5 : SP (famC w.heap.size X 64 64 0 ⟨none, 0, [], 0, 0, none, 0, []⟩) w.heap.size w5 := sp_start (lf := []) hX5 HXB.out (World.ownsRow_nil _ _ _ _)
  refine (Write_any w.heap.size X 64 64 0 ⟨none, 0, [], 0, 0, none, 0, []⟩ (some ⟨w4.heap.size, 0, none⟩) 63 63 (List.replicate 63 0) w5 hHS5 ⟨rfl, rfl, rfl⟩ (In.of_own hown5 (by omega)) (Nat.le_refl _) (fun ad had => by cases had; exact ⟨(own_lt hown5 rfl).2, by show w4.heap.size ≠ X; omega, by simp [CG.lv, Value.ownBlock]⟩) ⟨by decide, by decide, by decide, by decide, by decide⟩ (by simp) (by simp)).mono ?_
  rintro e w6 ⟨s1, rfl, hS1, hF1, hat1, hato1, hres1⟩
  obtain ⟨LA, lc1, lf, sm, n1, O, oc, ps⟩ := s1
  simp only [] at hres1 hato1 ⊢
  rw [wr63] at hres1
  simp only [Prod.mk.injEq] at hres1
  obtain ⟨r1, r2, r3, r4⟩ := hres1
  have r1 : ps = [] := List.map_eq_nil_iff.1 r1.symm
  subst r1
  subst r2
  subst r3
  subst r4
  have Hc6 := Lib.hid hS1.cutter
  have Hl6 := Lib.hid hS1.left
  have Hb6 : Hid (Below w.heap.size w w6) := Hb5.out.trans (hF1.below Hb5.out.size (fun k e => by
    rcases e with e | e
    · rw [e]; exact HXB.out
    · simp [CG.lv, Value.ownBlock] at e))
  clear hX5 hHS5 hown5 hg5 Hb5 HX4 Hb4 hS1 hF1 hat1 hato1 hxl
  simp only [List.length_nil]
  go_wp2_with fail
  have hxl6 := Hc6.out.lt
  have hHS7 : SP (famC w.heap.size X 64 64 0 ⟨LA, lc1, List.replicate 63 0, s63, 63, none, 0, []⟩) w.heap.size (w6.alloc (.cells #[.int .u8 1, .int .u8 2] 5)) := sp_start (Hc6.out.alloc _) HXB.out (Hl6.out.alloc _)
  refine (Write_any w.heap.size X 64 64 0 ⟨LA, lc1, List.replicate 63 0, s63, 63, none, 0, []⟩ (some ⟨w6.heap.size, 0, none⟩) 2 2 [1, 2] _ hHS7 ⟨rfl, rfl, rfl⟩ (in12 w6) (Nat.le_refl _) (fun ad had => by
    cases had
    exact ⟨by simp, by show w6.heap.size ≠ X; omega, fun e => by have := (own_lt Hl6.out e).2; have : w6.heap.size < w6.heap.size := this; omega⟩) ⟨by decide, by decide, by decide, by decide, by decide⟩ (by rw [List.length_replicate]; decide) (by show 63 + 2 ≤ 1099511627776; decide)).mono ?_
  rintro e w8 ⟨s2, rfl, hS2, hF2, hat2, hato2, hres2⟩
  obtain ⟨LB, lcb, lfb, smb, nb, O2, oc2, ps2⟩ := s2
  simp only [] at hres2 hato2 ⊢
  rw [wr65] at hres2
  simp only [Prod.mk.injEq] at hres2
  obtain ⟨r1, r2, r3, r4⟩ := hres2
  obtain ⟨⟨pA, pc, px⟩, r5, r6⟩ : ∃ q : Pc, ps2 = [q] ∧ q.2.2 = List.replicate 63 0 ++ [1] := by
    rcases ps2 with _ | ⟨q, _ | ⟨q2, t⟩⟩
    · simp at r1
    · simp at r1
      exact ⟨q, rfl, r1.symm⟩
    · simp at r1
  have r6 : px = List.replicate 63 0 ++ [1] := r6
  subst r5
  subst r2
  subst r3
  subst r4
  have hpx : px.length = 64 := by rw [r6]; decide
  have hrow := hS2.out
  have hrow : w8.ownsRow w.heap.size 32 1 (.slice O2 1 oc2) 1 (svs [(pA, pc, px)]) := hrow
  obtain ⟨og, cap, hv, _, _⟩ := hrow.form (by omega)
  injection hv with hA _ hcap
  subst hA
  subst hcap
  have o0 : w8.cell? ⟨og, 0, none⟩ = some (.slice pA px.length pc) := hrow.cellAt 0 (by omega)
  rw [hpx] at o0
  have hoc : 1 ≤ oc2 := own_le hrow
  have Hc8 := Lib.hid hS2.cutter
  have hl8 : w8.ownsRow w.heap.size 5 1 (.slice LB 1 lcb) 1 (bys [2]) := hS2.left
  have hlb : ∀ g, (Value.slice LB 1 lcb).ownBlock = some g → ¬ g = X := fun g hg e => hS2.sep .l .x (by simp) g hg e
  have Hb8 : Hid (Below w.heap.size w w8) := (Hb6.out.alloc Hb6.out.size _).trans (hF2.below (by have := Hb6.out.size; simp; omega) (fun k e => by
    rcases e with e | e
    · rw [e]; exact HXB.out
    · exact (own_lt Hl6.out e.symm).1))
  have Hl8 := Lib.hid hl8
  have Hlb := Lib.hid hlb
  clear hHS7 hS2 hF2 hat2 hato2 r1 r6 hrow Hc6 Hl6 Hb6 hl8 hlb hpx hxl6
  simp only [List.length_cons, List.length_nil, Nat.zero_add]
  go_wp2_with fail
  refine (End_any X (.slice LB 1 lcb) 64 64 0 s65 1 w8 Hc8.out).mono ?_
  rintro e w9 ⟨rfl, hX9, hF9⟩
  have hcv : (convert 32 9 (.slice LB 1 lcb)).run Try.prog w9 = .ok (.string (strOf [2])) w9 := conv_rd (l := [2]) (Rd.of_own (own_fr Hl8.out hF9 Hlb.out))
  rw [show strOf [2] = ⟨#[2]⟩ from rfl] at hcv
  have HX9 := Lib.hid hX9
  have Hb9 : Hid (Below w.heap.size w w9) := Hb8.out.trans (hF9.below Hb8.out.size (fun k e => by rw [e]; exact HXB.out))
  clear hX9 hF9 o0
  go_wp2_with fail
  refine (End_any X (.slice none 0 0) 64 64 0 0 0 w9 HX9.out).mono ?_
  rintro e w10 ⟨rfl, hX10, hF10⟩
  have Hb10 : Hid (Below w.heap.size w w10) := Hb9.out.trans (hF10.below Hb9.out.size (fun k e => by rw [e]; exact HXB.out))
  clear hX10 hF10 hcv
  go_wp2_with fail
  go_ret
  exact ⟨rfl, Hb10.out⟩
end Go.Proofs.Ytglkahonejblpaa
