/-
  The statement ParsePrices with its card: prices of symbols and rows. Conditions: the tables, which the card ties to the text.
-/
import Derived.Test.YthfmomhcalppfaaDoorRows
import Derived.Test.YthfmomhcalppfaaDoorCards
import Derived.Test.YthfmomhcalppfaaDoorTie
import Derived.Test.YthfmomhcalppfaaDoorStLaidHere
import Derived.Test.YthfmomhcalppfaaDoorPricesLaw
import Derived.Test.YthfmomhcalppfaaDoorStOpen
import Derived.Test.YthfmomhcalppfaaDoorBulk
import Derived.WalkKit
import Derived.ProofKit
import Derived.LaidMore
import Derived.OpenShut
import Derived.Stop.Joined
import Derived.Carry
import Derived.SevenTiedAt
import Derived.JoinedCond
import Derived.Deep.CondSized
import Derived.Deep.DeepHandedRow
namespace Go.Proofs.YthfmomhcalppfaaDoor.parsePrices
open Go Go.ChangeShapes Go.WideShapes Go.ChangeAt Go.RowKit Go.Deep

theorem laid_met (os : Os) : laidMet Tryd.prog Rows.parsePricesRow.laid ((World.doorLaid Tryd.prog 400 os).forCall (fun _ _ => 0) ⟨#[], #[.slice none 0 0], []⟩).memory :=
  laidMet_of_run' 8 (by kernel_rfl) (by kernel_rfl)
theorem reads (os : Os) {H : Type} (enc : TypeId × Value → H) : ∃ places, DataW.whole enc Tryd.prog ((World.doorLaid Tryd.prog 400 os).forCall (fun _ _ => 0) ⟨#[], #[.slice none 0 0], []⟩).memory Tryd.f3.params.toList Rows.parsePricesSpec.vars false #[Value.slice none 0 0].toList 8 = some ([.nil], [], places) :=
  ⟨[], by kernel_rfl⟩

set_option maxRecDepth 100000 in
theorem lifted (os : Os) (started : os.Started) (H : Type) (enc : TypeId × Value → H) (F : Stop.Interp) :
    ReturnsInHanded {} Tryd.checked os 3 .any ((OpenSpec.ofChange Rows.parsePricesSpec).preRow enc Tryd.prog Tryd.f3 Rows.parsePricesRow.domain false Rows.parsePricesRow.laid) (((OpenSpec.ofChange Rows.parsePricesSpec).at F).post enc Tryd.prog Tryd.f3 false true false false) := by
  obtain ⟨places, hx⟩ := reads os enc
  refine returnsInHanded_of_row (C := Tryd.checked) (s := (OpenSpec.ofChange Rows.parsePricesSpec)) laidHere.own started (by kernel_rfl) Tryd.func3
    (witness_row_at (enc := enc) (C := Tryd.checked) false (World.doorLaid Tryd.prog 400 os) #[.slice none 0 0] rfl (by kernel_rfl) (by kernel_rfl) (by kernel_rfl)
      (OpenSpec.preRow_of_cond 8 hx (by kernel_rfl) (fun k hk => by cases hk) (by kernel_rfl) (laid_met os))) ?_
  intro W base args ds gs before hval0 hW k1 k2 hsz0 hL k3 k4
  have hval : ∀ (j : Nat) t v, Tryd.f3.params[j]? = some t → args[j]? = some v → Value.okWide Tryd.prog W .any base t v := hval0
  have hW' := hW
  obtain ⟨p, q, hA0, hV, rfl, hfz, hnd⟩ := hW
  have hA : DataW.TrodAll enc Tryd.prog W 0 (fun _ => true) true Tryd.f3.params.toList args.toList ds p := hA0
  rw [Tryd.params3] at hA hval
  obtain ⟨v0, d0, rfl, rfl, h0⟩ := trodAll_one hA
  obtain ⟨rfl, rfl⟩ := trodVars_none hV
  obtain ⟨A0, n0, c0, l0, rfl, hc0, hRd0, hlt0, hd0⟩ := open_sys (hval 0 22 v0 rfl rfl) h0
  have lt0 : ∀ z ∈ p, z.block < W.heap.size := by obtain ⟨m, hm⟩ := h0; exact DataW.trod_lt m _ _ _ hm
  clear hA0 hval0
  simp only [List.append_nil] at hW'
  have hlaid := laidHere.of_laid hL
  have hsz : (DataW.weightsEach Tryd.prog ([22] ++ Rows.parsePricesSpec.plain.varTypes Tryd.prog) ([d0] ++ [])).all (· ≤ reachBytes) = true := hsz0
  have hn0 : n0 ≤ 4398046510976 := by
    rcases hd0 with h | ⟨es, sp, hde, hn⟩
    · omega
    · have := sized_slice hsz (j := 0) (t := 22) (e := 24) (by rfl) (by rw [hde]; rfl) Tryd.underlying22
      rw [show Tryd.prog.bytesOf 24 = 32 by kernel_rfl] at this
      simp only [reachBytes] at this
      omega
  refine (prices_law_ A0 n0 c0 l0 W ⟨hRd0, hlt0, by omega⟩ hn0 hc0 hlaid).mono fun e W' ⟨he, bel⟩ => ?_
  subst he
  exact ⟨_, rfl, _, _, _, [], _, [], hW', trodAll_mk1 (shut_bool Tryd.underlying4 _), trodAll_cons_mk (Below.trod laidHere.laidOut (by kernel_rfl) (of_decide_eq_true (by kernel_rfl)) h0 bel lt0) trodAll_mk0, rfl, bel.frame _, fun h => by cases h⟩

theorem said : Rows.ParsePricesSaid :=
  OpenClaim.holds_of_cond 3 Tryd.f3 rfl rfl rfl rfl rfl rfl rfl ⟨rfl, rfl, rfl, rfl, rfl⟩ rfl rfl rfl rfl rfl (by kernel_rfl) Tryd.func3 (by kernel_rfl)
    (of_decide_eq_true (by kernel_rfl)) (by unfold Func.isWrapper; first | (rw [if_pos (by decide +kernel)]; kernel_rfl) | (rw [if_neg (by decide +kernel)]; exact ⟨rfl, rfl⟩))
    (fun os started H enc _ F => by rw [OpenClaim.pre_eq_preRow]; exact lifted os started H enc F)

theorem proved : Rows.ParsePricesCardSaid :=
  Claim7.holds_tied_plain_at .later [] _ _ _ _
    said (fun _ h => by cases h) (by kernel_rfl) (fun _ h => by cases h) parsePrices_row_tie rfl ⟨rfl, rfl⟩ (by kernel_rfl) rfl
    (fun f fn hf hfn => by
      obtain rfl : f = 3 := Option.some.inj ((show Tryd.prog.funcNamed "pith/pithlaw16.ParsePrices" = some 3 by kernel_rfl).symm.trans hf) |>.symm
      obtain rfl : fn = Tryd.f3 := (Option.some.inj (Tryd.func3.symm.trans hfn)).symm
      exact ⟨by kernel_rfl, fun j t ht => by
        rw [Tryd.params3] at ht
        have hm : t ∈ [22] := by simpa using Array.mem_of_getElem? ht
        have hall : ([22].all fun u => !Tryd.prog.wantsStandIn u) = true := by kernel_rfl
        exact (show Tryd.prog.wantsStandIn t = false by simpa using List.all_eq_true.1 hall t hm)⟩)
    (by kernel_rfl)
#print axioms proved
end Go.Proofs.YthfmomhcalppfaaDoor.parsePrices
