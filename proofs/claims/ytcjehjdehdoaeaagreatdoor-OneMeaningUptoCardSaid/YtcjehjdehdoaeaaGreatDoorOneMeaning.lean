/-
  The law OneMeaning, in its second form (what it reads is of bulk at most 1048576): any bytes with any limits of memory: Decode answers data or one error, a greater limit takes what a lesser one takes, each front is Truncated. Conditions: those of the row.
-/
import Derived.Test.YtcjehjdehdoaeaaGreatDoorRows
import Derived.Test.YtcjehjdehdoaeaaGreatDoorCards
import Derived.Test.YtcjehjdehdoaeaaGreatDoorTie
import Derived.Test.YtcjehjdehdoaeaaGreatDoorOm51
import Derived.WalkKit
import Derived.ProofKit
import Derived.LaidMore
import Derived.OpenShut
import Derived.Stop.Joined
import Derived.Carry
import Derived.SevenTiedAt
import Derived.JoinedCond
import Derived.Deep.CondSized
import Derived.Deep.DeepHandedRow
set_option linter.unusedVariables false
set_option linter.unusedSimpArgs false
set_option maxRecDepth 1000000
set_option maxHeartbeats 16000000
namespace Go.Proofs.YtcjehjdehdoaeaaGreatDoor.oneMeaningUpto
open Go Go.Proofs.YtcjehjdehdoaeaaGreatDoor.opn Go.ChangeShapes Go.WideShapes Go.ChangeAt Go.RowKit Go.Deep
theorem one_law (A : Option Addr) (m c : Nat) (l : List UInt8) (mem more cut : Int) (w : World) (hI : In w A m l) (hm : m ≤ 1048576) (hc : m ≤ c) (h : ∃ T Rr E, LaidA T Rr E w) :
 Calls Tryz.prog 4 #[.slice A m c, .agg #[.int .i64 mem, .int .i64 more, .int .i64 cut]] w fun e w' => e = .returned (.bool true) ∧ Below w.heap.size w w' := by
 obtain ⟨T, Rr, E, h⟩ := h;exact one_any T Rr E A m c l mem more cut w h hI hc hm
theorem laid_met (os : Os) : laidMet Tryz.prog Rows.oneMeaningUptoRow.laid ((World.doorLaid Tryz.prog 400 os).forCall (fun _ _ => 0) ⟨#[], #[.slice none 0 0, .agg #[.int .i64 0, .int .i64 0, .int .i64 0]], []⟩).memory :=
 laidMet_of_run' 8 (by kernel_rfl) (by kernel_rfl)
theorem reads (os : Os) {H : Type} (enc : TypeId × Value → H) : ∃ places, DataW.whole enc Tryz.prog ((World.doorLaid Tryz.prog 400 os).forCall (fun _ _ => 0) ⟨#[], #[.slice none 0 0, .agg #[.int .i64 0, .int .i64 0, .int .i64 0]], []⟩).memory Tryz.f4.params.toList Rows.oneMeaningSpec.vars false #[Value.slice none 0 0, Value.agg #[.int .i64 0, .int .i64 0, .int .i64 0]].toList 8 = some ([.nil, .agg [.lit (.int .i64 0), .lit (.int .i64 0), .lit (.int .i64 0)]], [], places) :=
 ⟨[], by kernel_rfl⟩
theorem lifted (os : Os) (started : os.Started) (H : Type) (enc : TypeId × Value → H) (F : Stop.Interp) :
 ReturnsInHanded {} Tryz.checked os 4 .any ((Rows.OpenSpec.upto Rows.oneMeaningSpec).preRow enc Tryz.prog Tryz.f4 Rows.oneMeaningUptoRow.domain false Rows.oneMeaningUptoRow.laid) (((Rows.OpenSpec.upto Rows.oneMeaningSpec).at F).post enc Tryz.prog Tryz.f4 false true false false) := by
 obtain ⟨places, hx⟩ := reads os enc;refine returnsInHanded_of_row (C := Tryz.checked) (s := (Rows.OpenSpec.upto Rows.oneMeaningSpec)) own_ started (by kernel_rfl) Tryz.func4
  (witness_row_at (enc := enc) (C := Tryz.checked) false (World.doorLaid Tryz.prog 400 os) #[.slice none 0 0, .agg #[.int .i64 0, .int .i64 0, .int .i64 0]] rfl (by kernel_rfl) (by kernel_rfl) (by kernel_rfl)
   (OpenSpec.preRow_of_cond 8 hx (by kernel_rfl) (fun k hk => by cases hk; kernel_rfl) (by kernel_rfl) (laid_met os))) ?_
 intro W base args ds gs before hval0 hW k1 k2 hsz0 hL k3 k4;have hval : ∀ (j : Nat) t v, Tryz.f4.params[j]? = some t → args[j]? = some v → Value.okWide Tryz.prog W .any base t v := hval0;have hW' := hW;obtain ⟨p, q, hA0, hV, rfl, hfz, hnd⟩ := hW;have hA : DataW.TrodAll enc Tryz.prog W 0 (fun _ => true) true Tryz.f4.params.toList args.toList ds p := hA0
 rw [Tryz.params4] at hA hval;obtain ⟨v0, v1, d0, d1, p0, p1, rfl, rfl, rfl, h0, h1⟩ := trodAll_two hA;obtain ⟨rfl, rfl⟩ := trodVars_none hV;have hk : Rows.uptoSmall H ([d0, d1] ++ []) = true := by first | exact k1 _ rfl | exact k2 _ rfl | exact k3 _ rfl | exact k4 _ rfl
 have hbulk := bulks.bound hk;simp only [List.append_nil] at hbulk;obtain ⟨A0, n0, c0, l0, rfl, hc0, hRd0, hlt0, hd0⟩ := open_bytes (hval 0 22 v0 rfl rfl) h0;obtain ⟨x1, y1, z1, rfl⟩ := open_limits (hval 1 40 v1 rfl rfl) h1;have lt0 : ∀ z ∈ p0, z.block < W.heap.size := by obtain ⟨m, hm⟩ := h0; exact DataW.trod_lt m _ _ _ hm
 have lt1 : ∀ z ∈ p1, z.block < W.heap.size := by obtain ⟨m, hm⟩ := h1; exact DataW.trod_lt m _ _ _ hm
 clear hA0 hval0;simp only [List.append_nil] at hW';have hlaid := laidA_of hL k3;have hn0 : n0 ≤ 1048576 := by
  rcases hd0 with h | ⟨es, sp, hde, hn⟩
  · omega
  · have h1 := Nat.le_trans (bulks.part_le (d := d0) (l := [d0, d1]) (by simp)) hbulk
    have h2 := bulks.slice_le es sp;rw [hde] at h1;omega
 refine (one_law A0 n0 c0 l0 x1 y1 z1 W ⟨hRd0, hlt0, by omega⟩ hn0 hc0 hlaid).mono fun e W' ⟨he, bel⟩ => ?_
 subst he;exact ⟨_, rfl, _, _, _, [], _, [], hW', trodAll_mk1 (shut_bool Tryz.underlying4 _), trodAll_mk2 (Below.trod laidOut_ (by kernel_rfl) (of_decide_eq_true (by kernel_rfl)) h0 bel lt0) (Below.trod laidOut_ (by kernel_rfl) (of_decide_eq_true (by kernel_rfl)) h1 bel lt1), rfl, bel.frame _, fun h => by cases h⟩
theorem j1 : (Rows.oneMeaningUptoRow.inPlace == Tryz.prog.inPlace 4) = true := by kernel_rfl
theorem j2 : (Rows.oneMeaningUptoRow.unfollowed == Tryz.prog.unfollowed 4) = true := by kernel_rfl
theorem j3 : (Rows.oneMeaningUptoRow.recurses == Tryz.prog.recurses 4) = true := by kernel_rfl
theorem j4 : (Rows.oneMeaningUptoRow.named == Tryz.prog.varsNamed 4) = true := by kernel_rfl
theorem j5 : (Rows.oneMeaningUptoRow.lifted == Tryz.prog.liftsFinal) = true := by kernel_rfl
theorem j6 : (Tryz.prog.mayEnter) = true := by kernel_rfl
theorem closed_ : joinedFacts Tryz.prog 4 Tryz.f4 (Rows.OpenSpec.upto Rows.oneMeaningSpec).bare Rows.oneMeaningUptoRow = true := by
 unfold joinedFacts;simp only [j1, j2, j3, j4, j5, j6, Bool.and_true]
 kernel_rfl
theorem said : Rows.OneMeaningUptoSaid :=
 OpenClaim.holds_of_cond 4 Tryz.f4 rfl rfl rfl rfl rfl rfl rfl ⟨rfl, rfl, rfl, rfl, rfl⟩ rfl rfl rfl rfl rfl (by kernel_rfl) Tryz.func4 closed_
  (of_decide_eq_true (by kernel_rfl)) (by unfold Func.isWrapper; first | (rw [if_pos (by decide +kernel)]; kernel_rfl) | (rw [if_neg (by decide +kernel)]; exact ⟨rfl, rfl⟩))
  (fun os started H enc _ F => by rw [OpenClaim.pre_eq_preRow]; exact lifted os started H enc F)
theorem proved : Rows.OneMeaningUptoCardSaid :=
 Claim7.holds_tied_plain_at .later [] _ _ _ _
  said (fun _ h => by cases h) (by kernel_rfl) (fun _ h => by cases h) oneMeaningUpto_row_tie rfl ⟨rfl, rfl⟩ (by kernel_rfl) rfl
  (fun f fn hf hfn => by
   obtain rfl : f = 4 := Option.some.inj ((show Tryz.prog.funcNamed "pith/pithtop.OneMeaning" = some 4 by kernel_rfl).symm.trans hf) |>.symm
   obtain rfl : fn = Tryz.f4 := (Option.some.inj (Tryz.func4.symm.trans hfn)).symm;exact ⟨by kernel_rfl, fun j t ht => by
    rw [Tryz.params4] at ht;have hm : t ∈ [22, 40] := by simpa using Array.mem_of_getElem? ht
    have hall : ([22, 40].all fun u => !Tryz.prog.wantsStandIn u) = true := by kernel_rfl
    exact (show Tryz.prog.wantsStandIn t = false by simpa using List.all_eq_true.1 hall t hm)⟩)
  (by kernel_rfl)
#print axioms proved
end Go.Proofs.YtcjehjdehdoaeaaGreatDoor.oneMeaningUpto
