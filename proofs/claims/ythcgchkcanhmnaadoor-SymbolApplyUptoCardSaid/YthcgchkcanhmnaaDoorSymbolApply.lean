
/-
  The statement SymbolApplyUptoCardSaid holds: symbols of any numbers, one behind the other, on any window behind any state: every answer is the document's, a refused one changes nothing, and what was answered stays the caller's. Conditions: none beyond the statement's own.
-/
import Derived.Test.YthcgchkcanhmnaaDoorRows
import Derived.Test.YthcgchkcanhmnaaDoorCards
import Derived.Test.YthcgchkcanhmnaaDoorTie
import Derived.Test.YthcgchkcanhmnaaDoorStLaidHere
import Derived.Test.YthcgchkcanhmnaaDoorApOpen
import Derived.Test.YthcgchkcanhmnaaDoorOpen
import Derived.Test.YthcgchkcanhmnaaDoorBulk
import Derived.WalkKit
import Derived.ProofKit
import Derived.LaidMore
import Derived.OpenShut
import Derived.Stop.Joined
import Derived.Carry
import Derived.SevenTiedAt
import Derived.JoinedCond
import Derived.Deep.CondSized
import Derived.Deep.DeepHandedRow
namespace Go.Proofs.YthcgchkcanhmnaaDoor.symbolApplyUpto
open Go Go.ChangeShapes Go.WideShapes Go.ChangeAt Go.RowKit Go.Deep

theorem laid_met (os : Os) : laidMet Tryd.prog Rows.symbolApplyUptoRow.laid ((World.doorLaid Tryd.prog 400 os).forCall (fun _ _ => 0) ⟨#[], #[.int .i64 0, .int .i64 0, .agg #[.int .i64 0, .int .i64 0, .int .i64 0, .int .i64 0], .slice none 0 0, .slice none 0 0], []⟩).memory :=
  laidMet_of_run' 8 (by kernel_rfl) (by kernel_rfl)
theorem reads (os : Os) {H : Type} (enc : TypeId × Value → H) : ∃ places, DataW.whole enc Tryd.prog ((World.doorLaid Tryd.prog 400 os).forCall (fun _ _ => 0) ⟨#[], #[.int .i64 0, .int .i64 0, .agg #[.int .i64 0, .int .i64 0, .int .i64 0, .int .i64 0], .slice none 0 0, .slice none 0 0], []⟩).memory Tryd.f3.params.toList Rows.symbolApplySpec.vars false #[Value.int .i64 0, Value.int .i64 0, Value.agg #[.int .i64 0, .int .i64 0, .int .i64 0, .int .i64 0], Value.slice none 0 0, Value.slice none 0 0].toList 8 = some ([.lit (.int .i64 0), .lit (.int .i64 0), .agg [.lit (.int .i64 0), .lit (.int .i64 0), .lit (.int .i64 0), .lit (.int .i64 0)], .nil, .nil], [], places) :=
  ⟨[], by kernel_rfl⟩

set_option maxRecDepth 100000 in
theorem lifted (os : Os) (started : os.Started) (H : Type) (enc : TypeId × Value → H) (F : Stop.Interp) :
    ReturnsInHanded {} Tryd.checked os 3 .any ((Rows.OpenSpec.upto Rows.symbolApplySpec).preRow enc Tryd.prog Tryd.f3 Rows.symbolApplyUptoRow.domain false Rows.symbolApplyUptoRow.laid) (((Rows.OpenSpec.upto Rows.symbolApplySpec).at F).post enc Tryd.prog Tryd.f3 false true false false) := by
  obtain ⟨places, hx⟩ := reads os enc
  refine returnsInHanded_of_row (C := Tryd.checked) (s := (Rows.OpenSpec.upto Rows.symbolApplySpec)) laidHere.own started (by kernel_rfl) Tryd.func3
    (witness_row_at (enc := enc) (C := Tryd.checked) false (World.doorLaid Tryd.prog 400 os) #[.int .i64 0, .int .i64 0, .agg #[.int .i64 0, .int .i64 0, .int .i64 0, .int .i64 0], .slice none 0 0, .slice none 0 0] rfl (by kernel_rfl) (by kernel_rfl) (by kernel_rfl)
      (OpenSpec.preRow_of_cond 8 hx (by kernel_rfl) (fun k hk => by cases hk; kernel_rfl) (by kernel_rfl) (laid_met os))) ?_
  intro W base args ds gs before hval0 hW k1 k2 hsz0 hL k3 k4
  have hval : ∀ (j : Nat) t v, Tryd.f3.params[j]? = some t → args[j]? = some v → Value.okWide Tryd.prog W .any base t v := hval0
  have hW' := hW
  obtain ⟨p, q, hA0, hV, rfl, hfz, hnd⟩ := hW
  have hA : DataW.TrodAll enc Tryd.prog W 0 (fun _ => true) true Tryd.f3.params.toList args.toList ds p := hA0
  rw [Tryd.params3] at hA hval
  obtain ⟨v0, v1, v2, v3, v4, d0, d1, d2, d3, d4, p0, p1, p2, p3, p4, rfl, rfl, rfl, h0, h1, h2, h3, h4⟩ := trodAll5 hA
  obtain ⟨rfl, rfl⟩ := trodVars_none hV
  have hk : Rows.uptoSmall H ([d0, d1, d2, d3, d4] ++ []) = true := by first | exact k1 _ rfl | exact k2 _ rfl | exact k3 _ rfl | exact k4 _ rfl
  have hbulk := bulks.bound hk
  simp only [List.append_nil] at hbulk
  obtain ⟨x0, rfl, hw0⟩ := open_int Tryd.underlying3 (hval 0 3 v0 rfl rfl) h0
  obtain ⟨x1, rfl, hw1⟩ := open_int Tryd.underlying3 (hval 1 3 v1 rfl rfl) h1
  obtain ⟨a2, b2, c2, e2, rfl⟩ := open_arr4 (hval 2 22 v2 rfl rfl) h2
  obtain ⟨A3, n3, c3, l3, rfl, hc3, hRd3, hlt3, hd3⟩ := open_bytes (hval 3 23 v3 rfl rfl) h3
  obtain ⟨A4, n4, c4, l4, rfl, hc4, hRd4, hlt4, hd4⟩ := open_sys (hval 4 24 v4 rfl rfl) h4
  have lt0 : ∀ z ∈ p0, z.block < W.heap.size := by obtain ⟨m, hm⟩ := h0; exact DataW.trod_lt m _ _ _ hm
  have lt1 : ∀ z ∈ p1, z.block < W.heap.size := by obtain ⟨m, hm⟩ := h1; exact DataW.trod_lt m _ _ _ hm
  have lt2 : ∀ z ∈ p2, z.block < W.heap.size := by obtain ⟨m, hm⟩ := h2; exact DataW.trod_lt m _ _ _ hm
  have lt3 : ∀ z ∈ p3, z.block < W.heap.size := by obtain ⟨m, hm⟩ := h3; exact DataW.trod_lt m _ _ _ hm
  have lt4 : ∀ z ∈ p4, z.block < W.heap.size := by obtain ⟨m, hm⟩ := h4; exact DataW.trod_lt m _ _ _ hm
  clear hA0 hval0
  simp only [List.append_nil] at hW'
  have hlaid := laidHere.of_laid hL
  have hn3 : n3 ≤ 1048576 := by
    rcases hd3 with h | ⟨es, sp, hde, hn⟩
    · omega
    · have h1 := Nat.le_trans (bulks.part_le (d := d3) (l := [d0, d1, d2, d3, d4]) (by simp)) hbulk
      have h2 := bulks.slice_le es sp
      rw [hde] at h1
      omega
  have hn4 : n4 ≤ 1048576 := by
    rcases hd4 with h | ⟨es, sp, hde, hn⟩
    · omega
    · have h1 := Nat.le_trans (bulks.part_le (d := d4) (l := [d0, d1, d2, d3, d4]) (by simp)) hbulk
      have h2 := bulks.slice_le es sp
      rw [hde] at h1
      omega
  refine (apply_law_ x0 x1 a2 b2 c2 e2 A3 n3 c3 l3 A4 n4 c4 l4 W (bounds_i64 hw0) (bounds_i64 hw1) ⟨hRd3, hlt3, by omega⟩ hn3 ⟨hRd4, hlt4, by omega⟩ hn4 hc4 hlaid).mono fun e W' ⟨he, bel⟩ => ?_
  subst he
  exact ⟨_, rfl, _, _, _, [], _, [], hW', trodAll_mk1 (shut_bool Tryd.underlying4 _), trodAll_mk5 (Below.trod laidHere.laidOut (by kernel_rfl) (of_decide_eq_true (by kernel_rfl)) h0 bel lt0) (Below.trod laidHere.laidOut (by kernel_rfl) (of_decide_eq_true (by kernel_rfl)) h1 bel lt1) (Below.trod laidHere.laidOut (by kernel_rfl) (of_decide_eq_true (by kernel_rfl)) h2 bel lt2) (Below.trod laidHere.laidOut (by kernel_rfl) (of_decide_eq_true (by kernel_rfl)) h3 bel lt3) (Below.trod laidHere.laidOut (by kernel_rfl) (of_decide_eq_true (by kernel_rfl)) h4 bel lt4), rfl, bel.frame _, fun h => by cases h⟩

theorem said : Rows.SymbolApplyUptoSaid :=
  OpenClaim.holds_of_cond 3 Tryd.f3 rfl rfl rfl rfl rfl rfl rfl ⟨rfl, rfl, rfl, rfl, rfl⟩ rfl rfl rfl rfl rfl (by kernel_rfl) Tryd.func3 (by kernel_rfl)
    (of_decide_eq_true (by kernel_rfl)) (by unfold Func.isWrapper; first | (rw [if_pos (by decide +kernel)]; kernel_rfl) | (rw [if_neg (by decide +kernel)]; exact ⟨rfl, rfl⟩))
    (fun os started H enc _ F => by rw [OpenClaim.pre_eq_preRow]; exact lifted os started H enc F)

theorem proved : Rows.SymbolApplyUptoCardSaid :=
  Claim7.holds_tied_plain_at .later [] _ _ _ _
    said (fun _ h => by cases h) (by kernel_rfl) (fun _ h => by cases h) symbolApplyUpto_row_tie rfl ⟨rfl, rfl⟩ (by kernel_rfl) rfl
    (fun f fn hf hfn => by
      obtain rfl : f = 3 := Option.some.inj ((show Tryd.prog.funcNamed "pith/pithlaw13.SymbolApply" = some 3 by kernel_rfl).symm.trans hf) |>.symm
      obtain rfl : fn = Tryd.f3 := (Option.some.inj (Tryd.func3.symm.trans hfn)).symm
      exact ⟨by kernel_rfl, fun j t ht => by
        rw [Tryd.params3] at ht
        have hm : t ∈ [3, 3, 22, 23, 24] := by simpa using Array.mem_of_getElem? ht
        have hall : ([3, 3, 22, 23, 24].all fun u => !Tryd.prog.wantsStandIn u) = true := by kernel_rfl
        exact (show Tryd.prog.wantsStandIn t = false by simpa using List.all_eq_true.1 hall t hm)⟩)
    (by kernel_rfl)
#print axioms proved
end Go.Proofs.YthcgchkcanhmnaaDoor.symbolApplyUpto
