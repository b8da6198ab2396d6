/-
  The statement ParseCheapest with its card: Plan's price is at most that of any other way of the finder's matches, and Cheap's symbols cost no more. Condition: the tables, which the card ties to the text.
-/
import Derived.Test.YthlflcnpmabmbaaDoorRows
import Derived.Test.YthlflcnpmabmbaaDoorCards
import Derived.Test.YthlflcnpmabmbaaDoorTie
import Derived.Test.YthlflcnpmabmbaaDoorStLaidHere
import Derived.Test.YthlflcnpmabmbaaDoorChL
import Derived.Test.YthlflcnpmabmbaaDoorFiOpen
import Derived.Test.YthlflcnpmabmbaaDoorPcOpen
import Derived.Test.YthlflcnpmabmbaaDoorBulk
import Derived.WalkKit
import Derived.ProofKit
import Derived.LaidMore
import Derived.OpenShut
import Derived.Stop.Joined
import Derived.Carry
import Derived.SevenTiedAt
import Derived.JoinedCond
import Derived.Deep.CondSized
import Derived.Deep.DeepHandedRow
namespace Go.Proofs.YthlflcnpmabmbaaDoor.parseCheapest
open Go Go.ChangeShapes Go.WideShapes Go.ChangeAt Go.RowKit Go.Deep

theorem laid_met (os : Os) : laidMet Tryd.prog Rows.parseCheapestRow.laid ((World.doorLaid Tryd.prog 400 os).forCall (fun _ _ => 0) ⟨#[], #[.agg #[.slice none 0 0, .int .i64 0, .int .i64 0, .int .i64 0, .int .i64 0, .int .i64 0, .int .i64 0, .int .i64 0, .int .i64 0], .slice none 0 0], []⟩).memory :=
  laidMet_of_run' 8 (by kernel_rfl) (by kernel_rfl)
theorem reads (os : Os) {H : Type} (enc : TypeId × Value → H) : ∃ places, DataW.whole enc Tryd.prog ((World.doorLaid Tryd.prog 400 os).forCall (fun _ _ => 0) ⟨#[], #[.agg #[.slice none 0 0, .int .i64 0, .int .i64 0, .int .i64 0, .int .i64 0, .int .i64 0, .int .i64 0, .int .i64 0, .int .i64 0], .slice none 0 0], []⟩).memory Tryd.f6.params.toList Rows.parseCheapestSpec.vars false #[Value.agg #[.slice none 0 0, .int .i64 0, .int .i64 0, .int .i64 0, .int .i64 0, .int .i64 0, .int .i64 0, .int .i64 0, .int .i64 0], Value.slice none 0 0].toList 8 = some ([.agg [.nil, .lit (.int .i64 0), .lit (.int .i64 0), .lit (.int .i64 0), .lit (.int .i64 0), .agg [.lit (.int .i64 0), .lit (.int .i64 0), .lit (.int .i64 0), .lit (.int .i64 0)]], .nil], [], places) :=
  ⟨[], by kernel_rfl⟩

set_option maxRecDepth 100000 in
theorem lifted (os : Os) (started : os.Started) (H : Type) (enc : TypeId × Value → H) (F : Stop.Interp) :
    ReturnsInHanded {} Tryd.checked os 6 .any ((OpenSpec.ofChange Rows.parseCheapestSpec).preRow enc Tryd.prog Tryd.f6 Rows.parseCheapestRow.domain false Rows.parseCheapestRow.laid) (((OpenSpec.ofChange Rows.parseCheapestSpec).at F).post enc Tryd.prog Tryd.f6 false true false false) := by
  obtain ⟨places, hx⟩ := reads os enc
  refine returnsInHanded_of_row (C := Tryd.checked) (s := (OpenSpec.ofChange Rows.parseCheapestSpec)) laidHere.own started (by kernel_rfl) Tryd.func6
    (witness_row_at (enc := enc) (C := Tryd.checked) false (World.doorLaid Tryd.prog 400 os) #[.agg #[.slice none 0 0, .int .i64 0, .int .i64 0, .int .i64 0, .int .i64 0, .int .i64 0, .int .i64 0, .int .i64 0, .int .i64 0], .slice none 0 0] rfl (by kernel_rfl) (by kernel_rfl) (by kernel_rfl)
      (OpenSpec.preRow_of_cond 8 hx (by kernel_rfl) (fun k hk => by cases hk) (by kernel_rfl) (laid_met os))) ?_
  intro W base args ds gs before hval0 hW k1 k2 hsz0 hL k3 k4
  have hval : ∀ (j : Nat) t v, Tryd.f6.params[j]? = some t → args[j]? = some v → Value.okWide Tryd.prog W .any base t v := hval0
  have hW' := hW
  obtain ⟨p, q, hA0, hV, rfl, hfz, hnd⟩ := hW
  have hA : DataW.TrodAll enc Tryd.prog W 0 (fun _ => true) true Tryd.f6.params.toList args.toList ds p := hA0
  rw [Tryd.params6] at hA hval
  obtain ⟨v0, v1, d0, d1, p0, p1, rfl, rfl, rfl, h0, h1⟩ := trodAll_two hA
  obtain ⟨rfl, rfl⟩ := trodVars_none hV
  obtain ⟨A0, n0, c0, l0, fr0, tz0, di0, s0, rfl, hc0, hRd0, hlt0, hz0, hd0⟩ := open_piece (hval 0 45 v0 rfl rfl) h0
  obtain ⟨A1, n1, c1, l1, rfl, hI1, hd1⟩ := open_ints_ (hval 1 61 v1 rfl rfl) h1
  have lt0 : ∀ z ∈ p0, z.block < W.heap.size := by obtain ⟨m, hm⟩ := h0; exact DataW.trod_lt m _ _ _ hm
  have lt1 : ∀ z ∈ p1, z.block < W.heap.size := by obtain ⟨m, hm⟩ := h1; exact DataW.trod_lt m _ _ _ hm
  clear hA0 hval0
  simp only [List.append_nil] at hW'
  have hlaid := laidHere.of_laid hL
  have hsz : (DataW.weightsEach Tryd.prog ([45, 61] ++ Rows.parseCheapestSpec.plain.varTypes Tryd.prog) ([d0, d1] ++ [])).all (· ≤ reachBytes) = true := hsz0
  have hn0 : n0 ≤ 140737488351232 := by
    rcases hd0 with h | ⟨parts, es, sp, hde, hp, hn⟩
    · omega
    · have := sized_piece hsz (j := 0) rfl (by rw [hde]; rfl) hp
      omega
  have hn1 : n1 ≤ 140737488351232 := by
    rcases hd1 with h | ⟨es, sp, hde, hn⟩
    · omega
    · have := sized_slice hsz (j := 1) (t := 61) (e := 3) (by rfl) (by rw [hde]; rfl) Tryd.underlying61
      rw [bytesInt] at this
      simp only [reachBytes] at this
      omega
  refine (cheapest_law A0 n0 c0 l0 fr0 tz0 di0 s0 A1 n1 c1 l1 W ⟨hRd0, hlt0, hn0⟩ hc0 hz0 (hI1 hn1) hlaid).mono fun e W' ⟨he, bel⟩ => ?_
  subst he
  exact ⟨_, rfl, _, _, _, [], _, [], hW', trodAll_mk1 (shut_bool Tryd.underlying4 _), trodAll_mk2 (Below.trod laidHere.laidOut (by kernel_rfl) (of_decide_eq_true (by kernel_rfl)) h0 bel lt0) (Below.trod laidHere.laidOut (by kernel_rfl) (of_decide_eq_true (by kernel_rfl)) h1 bel lt1), rfl, bel.frame _, fun h => by cases h⟩

theorem said : Rows.ParseCheapestSaid :=
  OpenClaim.holds_of_cond 6 Tryd.f6 rfl rfl rfl rfl rfl rfl rfl ⟨rfl, rfl, rfl, rfl, rfl⟩ rfl rfl rfl rfl rfl (by kernel_rfl) Tryd.func6 (by kernel_rfl)
    (of_decide_eq_true (by kernel_rfl)) (by unfold Func.isWrapper; first | (rw [if_pos (by decide +kernel)]; kernel_rfl) | (rw [if_neg (by decide +kernel)]; exact ⟨rfl, rfl⟩))
    (fun os started H enc _ F => by rw [OpenClaim.pre_eq_preRow]; exact lifted os started H enc F)

theorem proved : Rows.ParseCheapestCardSaid :=
  Claim7.holds_tied_plain_at .later [] _ _ _ _
    said (fun _ h => by cases h) (by kernel_rfl) (fun _ h => by cases h) parseCheapest_row_tie rfl ⟨rfl, rfl⟩ (by kernel_rfl) rfl
    (fun f fn hf hfn => by
      obtain rfl : f = 6 := Option.some.inj ((show Tryd.prog.funcNamed "pith/pithlaw16.ParseCheapest" = some 6 by kernel_rfl).symm.trans hf) |>.symm
      obtain rfl : fn = Tryd.f6 := (Option.some.inj (Tryd.func6.symm.trans hfn)).symm
      exact ⟨by kernel_rfl, fun j t ht => by
        rw [Tryd.params6] at ht
        have hm : t ∈ [45, 61] := by simpa using Array.mem_of_getElem? ht
        have hall : ([45, 61].all fun u => !Tryd.prog.wantsStandIn u) = true := by kernel_rfl
        exact (show Tryd.prog.wantsStandIn t = false by simpa using List.all_eq_true.1 hall t hm)⟩)
    (by kernel_rfl)
#print axioms proved
end Go.Proofs.YthlflcnpmabmbaaDoor.parseCheapest
