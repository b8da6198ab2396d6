/-
  Walk: the law CdcCuts returns true. Conditions: the data lie in memory, at most 1048576 bytes.
-/
import Derived.Test.YtglkahonejblpaaCkS
import Derived.Test.YtglkahonejblpaaQuietR
import Derived.Deep.CutBlock
import Derived.Outline
namespace Go.Proofs.Ytglkahonejblpaa
open Go.RowKit Go.Shelf
attribute [local go_sem] Oper.semAt_some

theorem InN.of_cells {B n : Nat} {w : World} {A : Option Addr} {l : List Nat} (h : CellsB B w A (fun i => (nis l)[i]?)) (hl : l.length = n) (hn : n ≤ 17179869184) (hB : B ≤ w.heap.size) : InN w A n l := by
  refine ⟨hl, hn, fun h0 => ?_⟩
  have hv : ∀ (i x : Nat), l[i]? = some x → (nis l)[i]? = some (.int .i64 (x : Int)) := fun i x hx => by simp only [nis, List.getElem?_map, hx, Option.map_some]
  obtain ⟨x0, hx0⟩ : ∃ x, l[0]? = some x := ⟨_, List.getElem?_eq_getElem (by omega)⟩
  obtain ⟨b, o, e, hlt, _⟩ := h 0 _ (hv 0 x0 hx0)
  refine ⟨b, o, e, by omega, fun i x hx => ?_⟩
  obtain ⟨b', o', e', _, hc⟩ := h i _ (hv i x hx)
  rw [e] at e'
  injection e' with e'
  injection e' with e1 e2
  rw [e1, e2]
  exact hc
theorem tail_ends {w w0 wB W : World} {Z Bp D2 : Nat} (hZ : w.heap.size = Z) (hb0 : Below w.heap.size w w0) (hb0B : Below w0.heap.size w0 wB) (hbW : Below (Bp + 1) wB W) (hs : w0.heap.size ≤ Bp + 1) (hD : Bp + 3 < D2) (hZB : Z + 2 < Bp + 1)
    (hM2 : W.heap[D2]? = some (.deferred (some []))) (hM1 : W.heap[Bp + 3]? = some (.deferred (some []))) (wz : World) (hz : Below W.heap.size W wz) {tb : TypeId} {cs : Array Value} (hrs : Blk W (Z + 2) tb cs) (u : Value) :
    (wz.setCell ⟨Z + 1 + 1, 0, none⟩ u).heap[D2]? = some (.deferred (some [])) ∧ (∀ o, ((wz.setCell ⟨Z + 1 + 1, 0, none⟩ u).putObj D2 o).heap[Bp + 3]? = some (.deferred (some []))) ∧
      ∀ o1 o2, (0 < cs.size → (((wz.setCell ⟨Z + 1 + 1, 0, none⟩ u).putObj D2 o1).putObj (Bp + 3) o2).cell? ⟨Z + 1 + 1, 0, none⟩ = some u) ∧ Below w.heap.size w (((wz.setCell ⟨Z + 1 + 1, 0, none⟩ u).putObj D2 o1).putObj (Bp + 3) o2) := by
  have hl2 : D2 < W.heap.size := (Array.getElem?_eq_some_iff.1 hM2).1
  have hl1 : Bp + 3 < W.heap.size := (Array.getElem?_eq_some_iff.1 hM1).1
  have hsz := hz.size
  have hs0 := hb0.size
  have F1 := (Fr.refl (fun k => k = Z + 2) wz).setCell (p := ⟨Z + 1 + 1, 0, none⟩) (.inl rfl) u
  have F2 := fun o => ((Fr.refl (fun k => k = Z + 2 ∨ k = D2) wz).setCell (p := ⟨Z + 1 + 1, 0, none⟩) (.inl (.inl rfl)) u).put_ (l := D2) (.inr rfl) o
  refine ⟨(F1.block D2 (by omega) (by omega)).trans ((hz.block D2 hl2).trans hM2), fun o => ((F2 o).block (Bp + 3) (by omega) (by omega)).trans ((hz.block _ hl1).trans hM1), fun o1 o2 => ⟨fun h0 => ?_, ?_⟩⟩
  · have h1 := (hrs.below hz).set_ 0 u
    have hlt : Z + 2 < (wz.setCell ⟨Z + 2, 0, none⟩ u).heap.size := h1.lt
    have F3 := ((Fr.refl (fun k => k = D2 ∨ k = Bp + 3) (wz.setCell ⟨Z + 2, 0, none⟩ u)).put_ (l := D2) (.inl rfl) o1).put_ (l := Bp + 3) (.inr rfl) o2
    have h2 := (h1.fr F3 (by omega)).cell 0
    rw [Array.getElem?_setIfInBounds_self_of_lt h0] at h2
    exact h2
  · have h2 : Below w.heap.size w W := (bup hb0 hb0B).trans (hbW.mono (by omega))
    have h3 := bup h2 hz
    have hF := (((Fr.refl (fun k => k = Z + 2 ∨ k = D2 ∨ k = Bp + 3) wz).setCell (p := ⟨Z + 1 + 1, 0, none⟩) (.inl (.inl rfl)) u).put_ (l := D2) (.inr (.inl rfl)) o1).put_ (l := Bp + 3) (.inr (.inr rfl)) o2
    exact h3.trans (hF.below h3.size (fun k e => by omega))
theorem room_in (A : Option Addr) (n c : Nat) (l : List UInt8) (w : World) (h : In w A n l) (hn : n ≤ 17179869184 - 1) :
    Calls Try.prog 13 #[.slice A n c] w fun e w' => ∃ O oc, e = .returned (.slice O n oc) ∧ n ≤ oc ∧ Hid (In w' O n l) ∧ Below w.heap.size w w' := by
  have hl := h.len
  refine (room_any A n c l w h (by omega)).mono ?_
  rintro e w' ⟨O, oc, rfl, hoc, hO, hb⟩
  refine ⟨O, oc, rfl, by omega, ?_, hb⟩
  have h1 := In.of_own hO (by omega)
  have h2 := h1.take (k := n) (by omega)
  rw [List.take_append_of_le_length (by rw [hl]; exact Nat.le_refl _), List.take_of_length_le (by rw [hl]; exact Nat.le_refl _)] at h2
  exact h2
theorem eq_fn (w : World) (cb ob : Nat) : (binOp .eql 65 (.func (.func 34) #[] #[.pointer (some ⟨cb, 0, none⟩), .pointer (some ⟨ob, 0, none⟩)]) .nilFunc).run Try.prog w = .ok (.bool false) w := by
  first | kernel_rfl | rfl | simp [binOp, go_sem]
set_option maxHeartbeats 8000000 in
set_option maxRecDepth 100000 in
theorem cuts_law (A : Option Addr) (n c : Nat) (la : List UInt8) (least most bits stop : Int) (w : World) (hA : In w A n la) (hnc : n ≤ c) (hn : n ≤ 1048576) :
    Calls Try.prog 6 #[.slice A n c, .agg #[.int .i64 least, .int .i64 most, .int .i64 bits], .int .i64 stop] w fun e w' => e = .returned (.bool true) ∧ Below w.heap.size w w' := by
  obtain ⟨Z, hZ⟩ : ∃ Z, w.heap.size = Z := ⟨_, rfl⟩
  obtain ⟨w0, hw0⟩ : ∃ w0, ((w.alloc (.cells #[.int .i64 least, .int .i64 most, .int .i64 bits] 23)).alloc (.cells #[.int .i64 stop] 3)).alloc (.cells #[.bool false] 4) = w0 := ⟨_, rfl⟩
  have Hb0 : Hid (Below w.heap.size w w0) := by rw [← hw0]; exact bmk_ (bmk_ (bmk_ (Below.refl _ _) _) _) _
  have HX : Hid (Blk w0 Z 23 #[.int .i64 least, .int .i64 most, .int .i64 bits]) := by rw [← hw0, ← hZ]; exact ((Blk.new _ _ _).alloc _).alloc _
  have HSt : Hid (Blk w0 (Z + 1) 3 #[.int .i64 stop]) := by rw [← hw0, ← hZ]; exact (Blk.new_at (by simp)).alloc _
  have HRs : Hid (Blk w0 (Z + 2) 4 #[.bool false]) := by rw [← hw0, ← hZ]; exact Blk.new_at (by simp)
  have HC : Hid (∀ W : World, Below w0.heap.size w0 W → W.cell? ⟨Z, 0, none⟩ = some (.int .i64 least) ∧ W.cell? ⟨Z, 1, none⟩ = some (.int .i64 most) ∧ W.cell? ⟨Z, 2, none⟩ = some (.int .i64 bits) ∧ Z < W.heap.size) := fun W hW => ⟨(HX.out.below hW).cell 0, (HX.out.below hW).cell 1, (HX.out.below hW).cell 2, (HX.out.below hW).lt⟩
  have HI : Hid (In w0 A n la) := hA.below Hb0.out
  have HlA := Lib.hid HI.out.len
  obtain ⟨cl, hcl⟩ : ∃ cl, cutsAny least most bits la = cl := ⟨_, rfl⟩
  obtain ⟨q, hq⟩ : ∃ q, cl.length = q := ⟨_, rfl⟩
  obtain ⟨ec, hec⟩ : ∃ ec, erOf least most bits = ec := ⟨_, rfl⟩
  have Hcl := Lib.hid hcl
  have Hq := Lib.hid hq
  have Hec := Lib.hid hec
  have hqn : q ≤ 1048577 := by
    have := pieces_len least most bits la
    rw [hcl, hq, HlA.out] at this
    omega
  have HRo := Lib.hid (room_any A n c la w0 HI.out (by omega))
  clear hA hcl hq hec
  refine (callsIn_wide (n := 5)).1 ?_
  refine callsIn_of_wp_marks Try.func6 rfl trivial ?_ rfl
  simp only [Try.ntmps6, List.size_toArray, List.length_cons, List.length_nil, Nat.reduceAdd, Nat.reduceSub, Array.replicate_succ, Array.replicate_zero, List.push_toArray, List.append_toArray, List.nil_append, List.cons_append]
  refine wpIn_wide.2 ?_
  go_wp2_with fail
  refine HRo.out.mono ?_
  rintro e w1 ⟨IA, ic, rfl, hic, hI1, hb1⟩
  have HI1 := Lib.hid hI1
  have Hb1 := Lib.hid hb1
  have HJ1 : Hid (In w1 IA n la ∧ In w1 IA (n + 1) (la ++ [77])) := by
    have h1 := In.of_own hI1 (by omega)
    have h2 := h1.take (k := n) (by omega)
    rw [List.take_append_of_le_length (by rw [HlA.out]; exact Nat.le_refl _), List.take_of_length_le (by rw [HlA.out]; exact Nat.le_refl _)] at h2
    exact ⟨h2, h1⟩
  obtain ⟨x0, x1, x2, hz⟩ := HC.out w1 Hb1.out
  have HCu := Lib.hid (Cut_gen IA n ic la least most bits cl q ec w1 HJ1.out.1 (by omega) (by omega) Hcl.out Hq.out Hec.out)
  clear hI1 hb1 HRo
  go_wp2_with fail
  refine HCu.out.mono ?_
  rintro e w2 ⟨L, lc, rfl, hL, hb2⟩
  have HL2 := Lib.hid hL
  have Hb2 := Lib.hid hb2
  have Hb02 : Hid (Below w0.heap.size w0 w2) := bup Hb1.out hb2
  clear hL hb2 HCu x0 x1 x2 hz
  obtain ⟨x0, x1, x2, hz⟩ := HC.out w2 Hb02.out
  have HRc := Lib.hid (RCut_gen A n c la least most bits cl q ec w2 (HI.out.below Hb02.out) hnc (by omega) Hcl.out Hq.out Hec.out)
  go_wp2_with fail
  refine HRc.out.mono ?_
  rintro e w3 ⟨L3, lc3, rfl, hL3, hb3⟩
  have HL3 := Lib.hid hL3
  have Hb3 := Lib.hid hb3
  have Hb03 : Hid (Below w0.heap.size w0 w3) := bup Hb02.out hb3
  have hq2 := own_le HL2.out
  have hq3 := own_le hL3
  have HN3 : Hid (InN w3 L q cl ∧ InN w3 L3 q cl) := ⟨(InN.of_own HL2.out (by omega)).below hb3, InN.of_own hL3 (by omega)⟩
  clear hL3 hb3 HRc x0 x1 x2 hz
  have HIs := Lib.hid (ints_same L L3 q lc lc3 cl w3 HN3.out.1 HN3.out.2 hq2 hq3)
  go_wp2_with fail
  refine HIs.out.mono ?_
  rintro e w4 ⟨rfl, hb4⟩
  have Hb04 : Hid (Below w0.heap.size w0 w4) := bup Hb03.out hb4
  have Hb34 : Hid (Below w3.heap.size w3 w4) := hb4
  clear hb4 HIs
  obtain ⟨x0, x1, x2, hz⟩ := HC.out w4 Hb04.out
  have HLg := Lib.hid (Legal_any least most bits w4)
  rw [show (if CutsOk least most bits then (0 : Int) else 6) = ec from Hec.out] at HLg
  go_wp2_with fail
  refine HLg.out.mono ?_
  rintro e w5 ⟨rfl, hb5⟩
  have Hb35 : Hid (Below w3.heap.size w3 w5) := bup Hb34.out hb5
  have Hb05 : Hid (Below w0.heap.size w0 w5) := bup Hb04.out hb5
  clear hb5 HLg x0 x1 x2 hz Hb34 Hb04
  have HHe := Lib.hid (held_any IA A n ic c la w5 (HJ1.out.2.below (bup Hb2.out (bup Hb3.out Hb35.out))) (HI.out.below Hb05.out) hic)
  go_wp2_with fail
  refine HHe.out.mono ?_
  rintro e w6 ⟨rfl, hb6⟩
  go_wp2_with fail
  refine (fixed_any w6).mono ?_
  rintro e w7 ⟨rfl, hb7⟩
  have Hb37 : Hid (Below w3.heap.size w3 w7) := bup Hb35.out (bup hb6 hb7)
  clear hb6 hb7 HHe Hb35 Hb05
  go_upto_block 0 with (fail)
  go_cut [12] from 64 to 74 (fun s12 wy => s12 = .int .i64 256 ∧ Hid (Below w3.heap.size w3 wy))
  case first => as_aux_lemma =>
    --<C1
    go_wp2_with fail
    go_loopw [12] (fun s12 wr => ∃ i : Nat, s12 = .int .i64 (i : Int) ∧ i ≤ 256 ∧ w7 = wr) (fun s12 _ => 256 - (intOf s12).toNat)
    case atStart => exact ⟨0, rfl, Nat.zero_le _, rfl⟩
    case round => as_aux_lemma =>
      obtain ⟨i, rfl, hi, rfl⟩ := hrel
      by_cases hlt : i < 256
      · have hlt' : (i : Int) < 256 := by omega
        have hz : ((UInt8.ofNat i).toNat : Int) = (i : Int) := by rw [UInt8.toNat_ofNat']; omega
        have HG := Lib.hid (Gear_any (UInt8.ofNat i) w7)
        have HRG := Lib.hid (RGear_any (UInt8.ofNat i) w7)
        rw [hz] at HG HRG
        clear hz
        go_wp2_with fail
        refine HG.out.mono ?_
        rintro e w' ⟨rfl, rfl⟩
        go_wp2_with fail
        refine HRG.out.mono ?_
        rintro e w' ⟨rfl, rfl⟩
        go_wp2_with fail
        go_roundw
        case rel => exact ⟨i + 1, by go_num, by omega, trivial⟩
        case measure => simp [intOf]; omega
      · have hi256 : i = 256 := by omega
        subst hi256
        go_wp2_with fail
        go_meet
        exact ⟨rfl, Hb37⟩
    --C1>
  case rest => as_aux_lemma =>
    obtain ⟨rfl, Hb38⟩ := hcut
    obtain ⟨w8, rfl⟩ : ∃ w8 : World, w8 = wc := ⟨_, rfl⟩
    have Hb28 : Hid (Below w2.heap.size w2 w8) := bup Hb3.out Hb38.out
    have Hb18 : Hid (Below w1.heap.size w1 w8) := bup Hb2.out Hb28.out
    have HL8 := Lib.hid (own_below HL2.out Hb28.out)
    have HI8 := Lib.hid (own_below HI1.out Hb18.out)
    have HM8 := Lib.hid (own_below HL3.out Hb38.out)
    have Hb08 : Hid (Below w0.heap.size w0 w8) := bup Hb1.out Hb18.out
    have Hs12 := Lib.hid Hb2.out.size
    have Hs23 := Lib.hid Hb3.out.size
    have Hs01 := Lib.hid Hb1.out.size
    have Hs18 := Lib.hid Hb18.out.size
    have hLl : Hid (∀ g, (Value.slice L q lc).ownBlock = some g → g < w2.heap.size) := fun g hg => (own_lt HL2.out hg).2
    have hIl : Hid (∀ g, (Value.slice IA (n + 1) ic).ownBlock = some g → g < w1.heap.size) := fun g hg => (own_lt HI1.out hg).2
    clear HL2 HI1 HL3 HJ1 HN3 Hb37 Hb02 Hb03 Hb38 Hb18 Hb28 Hb1 Hb2 Hb3
    have hnl : (nis cl).length = q := by rw [nis_length, Hq.out]
    have Hnl := Lib.hid hnl
    clear hnl
    go_upto_block 2 with (fail)
    go_cut [13] from 75 to 83 (fun s13 wy => s13 = .int .i64 (q : Int) ∧ Hid (wy.ownsRow w1.heap.size 3 1 (.slice L q lc) q (List.replicate q (.int .i64 (-7))) ∧ Fr (fun k => some k = (Value.slice L q lc).ownBlock) w8 wy))
    case first => as_aux_lemma =>
      --<C2
      have H0 : Hid (w8.ownsRow w1.heap.size 3 1 (.slice L q lc) q (List.replicate 0 (.int .i64 (-7)) ++ (nis cl).drop 0) ∧ Fr (fun k => some k = (Value.slice L q lc).ownBlock) w8 w8) := ⟨by simpa using HL8.out, Fr.refl _ _⟩
      go_wp2_with fail
      go_loopw [13] (fun s13 wr => ∃ i : Nat, s13 = .int .i64 (i : Int) ∧ i ≤ q ∧ Hid (wr.ownsRow w1.heap.size 3 1 (.slice L q lc) q (List.replicate i (.int .i64 (-7)) ++ (nis cl).drop i) ∧ Fr (fun k => some k = (Value.slice L q lc).ownBlock) w8 wr)) (fun s13 _ => q - (intOf s13).toNat)
      case atStart => exact ⟨0, rfl, Nat.zero_le _, H0⟩
      case round => as_aux_lemma =>
        clear H0
        obtain ⟨i, rfl, hi, H⟩ := hrel
        by_cases hlt : i < q
        · have hlt' : (i : Int) < (q : Int) := by omega
          obtain ⟨g, cap, hv, _, _⟩ := H.out.1.form (by omega)
          injection hv with hA _ hcap
          subst hA
          subst hcap
          have e0 := H.out.1.cellAt i (by omega)
          obtain ⟨u, hu⟩ : ∃ u, (List.replicate i (Value.int .i64 (-7)) ++ (nis cl).drop i)[i]? = some u := ⟨_, List.getElem?_eq_getElem (by rw [List.length_append, List.length_replicate, List.length_drop, Hnl.out]; omega)⟩
          rw [hu] at e0
          have e2 := H.out.1.frozenAt i
          have hset := own_set H.out.1 i (.int .i64 (-7))
          have hrw : (List.replicate i (Value.int .i64 (-7)) ++ (nis cl).drop i).set i (.int .i64 (-7)) = List.replicate (i + 1) (.int .i64 (-7)) ++ (nis cl).drop (i + 1) := by
            have hl : i < (nis cl).length := by rw [Hnl.out]; exact hlt
            rw [List.set_append_right _ _ (by simp), List.length_replicate, Nat.sub_self, List.drop_eq_getElem_cons hl, List.replicate_succ', List.append_assoc]
            rfl
          rw [hrw] at hset
          have HN := Lib.hid (And.intro hset (H.out.2.setCell (p := ⟨g, i, none⟩) (.inl rfl) (.int .i64 (-7))))
          have hil : i ≤ lc ∧ i < q := by omega
          clear hu hset hrw
          go_wp2_with fail
          go_roundw
          case rel => exact ⟨i + 1, by go_num, by omega, HN⟩
          case measure => simp [intOf]; omega
        · have hiq : i = q := by omega
          subst hiq
          have hlt' : decide ((i : Int) < (i : Int)) = false := decide_eq_false (by omega)
          have HN : Hid (wr.ownsRow w1.heap.size 3 1 (.slice L i lc) i (List.replicate i (.int .i64 (-7))) ∧ Fr (fun k => some k = (Value.slice L i lc).ownBlock) w8 wr) := by
            have := H.out
            rw [List.drop_of_length_le (by rw [Hnl.out]; exact Nat.le_refl _), List.append_nil] at this
            exact this
          go_wp2_with fail
          go_meet
          exact ⟨rfl, HN⟩
      --C2>
    case rest => as_aux_lemma =>
      obtain ⟨rfl, H9⟩ := hcut
      obtain ⟨w9, rfl⟩ : ∃ w9 : World, w9 = wc := ⟨_, rfl⟩
      obtain ⟨i0, hi0, hz0, hz1, hz2⟩ := info_parts infoint
      have HI9 := Lib.hid (own_fr HI8.out H9.out.2 (fun g hg e => by have h1 := (own_lt H9.out.1 e.symm).1; have h2 := hIl.out g hg; omega))
      have HM9 := Lib.hid (own_fr HM8.out H9.out.2 (fun g hg e => by have h1 := (own_lt HM8.out hg).1; have h2 := hLl.out g e.symm; omega))
      have Hb09 : Hid (Below w0.heap.size w0 w9) := Hb08.out.trans (H9.out.2.below Hb08.out.size (fun g e => by have h1 := (own_lt H9.out.1 e.symm).1; have := Hs01.out; omega))
      have Hs19 : Hid (w1.heap.size ≤ w9.heap.size) := Nat.le_trans Hs18.out H9.out.2.size
      have hne : Hid (∀ g, (Value.slice L3 q lc3).ownBlock = some g → (Value.slice L q lc).ownBlock ≠ some g) := fun g hg e => by have h1 := (own_lt HM9.out hg).1; have h2 := hLl.out g e; omega
      clear HI8 HM8 HL8 Hb08
      have hq63 : q ≤ 1048577 := hqn
      have Hone : Hid (∀ u, u ∈ [Value.int .i64 (-8)] → u.oneCell' = true) := by intro u hu; simp at hu; subst hu; rfl
      go_upto_region 16 with (at_builtin; refine wpList_append_keep (w := w9.alloc (.cells #[.int .i64 (-8)] 3)) rfl (.tmp 84) (.tmp 85) 46 rfl w1.heap.size 3 i0 _ 1 8 Try.underlying46 hi0 hz0 hz1 hz2 rfl (by decide) (.slice L q lc) q (List.replicate q (.int .i64 (-7))) rfl (H9.out.1.alloc _) ⟨w9.heap.size, 0, none⟩ 1 1 [.int .i64 (-8)] rfl ⟨rfl, fun _ => ⟨_, rfl, World.news_of_block (heap_alloc_new w9 _)⟩⟩ (by decide) Hone.out (by simp only [maxLen]; omega) (by omega) (by have := Hs19.out; simp; omega) ?_; intro M mc w10 hown hg hat hk; have HMr := Lib.hid hown; have HG10 := Lib.hid hg; have HLr := Lib.hid hk; clear hown hg hat hk)
      have HI10 := Lib.hid (own_apart (HI9.out.alloc (.cells #[.int .i64 (-8)] 3)) (H9.out.1.alloc _) (by decide) HG10.out)
      have HM10 := Lib.hid (own_same (HM9.out.alloc (.cells #[.int .i64 (-8)] 3)) (fun g hg => HG10.out.block g ((own_lt (HM9.out.alloc (.cells #[.int .i64 (-8)] 3)) hg).2) (fun e => hne.out g hg e.symm)))
      have Hb010 : Hid (Below w0.heap.size w0 w10) := Hb09.out.trans (((Fr.refl (fun k => some k = (Value.slice L q lc).ownBlock) w9).alloc (.cells #[.int .i64 (-8)] 3)).grown HG10.out (fun g hg => .inl hg.symm) |>.below Hb09.out.size (fun g e => by have h1 := (own_lt H9.out.1 e.symm).1; have := Hs01.out; omega))
      have HJ10 : Hid (In w10 IA n la ∧ In w10 IA (n + 1) (la ++ [77]) ∧ ∃ a, IA = some a) := by
        have h1 := In.of_own HI10.out (by omega)
        have h2 := h1.take (k := n) (by omega)
        rw [List.take_append_of_le_length (by rw [HlA.out]; exact Nat.le_refl _), List.take_of_length_le (by rw [HlA.out]; exact Nat.le_refl _)] at h2
        obtain ⟨ad, had, _⟩ := h1.1.2 (by omega)
        exact ⟨h2, h1, ad, had⟩
      obtain ⟨x0, x1, x2, hz⟩ := HC.out w10 Hb010.out
      have HPi := Lib.hid (Pieces_any IA n ic la least most bits w10 HJ10.out.1 (fun _ => .inr HJ10.out.2.2))
      clear HI9 HM9 Hb09 H9 hne
      go_wp2_with fail
      refine HPi.out.mono ?_
      rintro e w11 ⟨cb, ob, O, oc, rfl, hcb, hob, hO, hcbl, hobl, hb11⟩
      have Hcb := Lib.hid hcb
      have Hob := Lib.hid hob
      have HO := Lib.hid hO
      have Hbl : Hid (w10.heap.size ≤ cb ∧ w10.heap.size ≤ ob) := ⟨hcbl, hobl⟩
      have Hb11 := Lib.hid hb11
      have Hb011 : Hid (Below w0.heap.size w0 w11) := bup Hb010.out hb11
      have HHe2 := Lib.hid (held_any IA A n ic c la w11 (HJ10.out.2.1.below hb11) (HI.out.below Hb011.out) hic)
      clear hcb hob hO hcbl hobl hb11 HPi x0 x1 x2 hz
      have hfn := fun w => eq_fn w cb ob
      go_wp2_with fail
      refine HHe2.out.mono ?_
      rintro e w12 ⟨rfl, hb12⟩
      have Hcb := Lib.hid (Hcb.out.below hb12)
      have Hob := Lib.hid (Hob.out.below hb12)
      have HO := Lib.hid (own_below HO.out hb12)
      have Hb1012 : Hid (Below w10.heap.size w10 w12) := bup Hb11.out hb12
      clear hb12 HHe2 hfn Hb11 Hb011
      have HI12 := Lib.hid (own_below HI10.out Hb1012.out)
      have HLr := Lib.hid (own_below HLr.out Hb1012.out)
      have HMr := Lib.hid (own_below HMr.out Hb1012.out)
      have HM12 := Lib.hid (own_below HM10.out Hb1012.out)
      have Hb012 : Hid (Below w0.heap.size w0 w12) := bup Hb010.out Hb1012.out
      have hIl2 : Hid (∀ g, (Value.slice IA (n + 1) ic).ownBlock = some g → w0.heap.size ≤ g) := fun g hg => (own_lt HI12.out hg).1
      have Hs1012 := Lib.hid Hb1012.out.size
      have Hs110 : Hid (w1.heap.size ≤ w10.heap.size) := by have := HG10.out.size; simp at this; have := Hs19.out; show _ ≤ _; omega
      clear HI10 HM10 Hb1012 Hb010 HG10 HJ10
      go_upto_block 4 with (fail)
      go_cut [16] from 98 to 106 (fun s16 wy => s16 = .int .i64 (n : Int) ∧ Hid (Fr (fun k => some k = (Value.slice IA (n + 1) ic).ownBlock) w12 wy))
      case first => as_aux_lemma =>
        --<C3
        have H0 : Hid (∃ il, w12.ownsRow w0.heap.size 5 1 (.slice IA (n + 1) ic) (n + 1) (bys il) ∧ Fr (fun k => some k = (Value.slice IA (n + 1) ic).ownBlock) w12 w12) := ⟨_, HI12.out, Fr.refl _ _⟩
        go_wp2_with fail
        go_loopw [16] (fun s16 wr => ∃ j : Nat, s16 = .int .i64 (j : Int) ∧ j ≤ n ∧ Hid (∃ il, wr.ownsRow w0.heap.size 5 1 (.slice IA (n + 1) ic) (n + 1) (bys il) ∧ Fr (fun k => some k = (Value.slice IA (n + 1) ic).ownBlock) w12 wr)) (fun s16 _ => n - (intOf s16).toNat)
        case atStart => exact ⟨0, rfl, Nat.zero_le _, H0⟩
        case round => as_aux_lemma =>
          clear H0
          obtain ⟨j, rfl, hj, HJ⟩ := hrel
          by_cases hjl : j < n
          · have hjl' : (j : Int) < (n : Int) := by omega
            obtain ⟨il, hown, hfr⟩ := HJ.out
            have hil : il.length = n + 1 := by have := hown.1; rw [bys_length] at this; omega
            obtain ⟨gb, cap, hv, _, _⟩ := hown.form (by omega)
            injection hv with hA _ hcap
            subst hA
            subst hcap
            have e0 := hown.cellAt j (by omega)
            obtain ⟨u, hu⟩ : ∃ u, (bys il)[j]? = some u := ⟨_, List.getElem?_eq_getElem (by rw [bys_length]; omega)⟩
            rw [hu] at e0
            have e2 := hown.frozenAt j
            have hnew := own_set hown j (.int .u8 9)
            have h3 : (bys il).set j (.int .u8 9) = bys (il.set j 9) := by simp [bys, List.map_set]
            rw [h3] at hnew
            have HN : Hid (∃ il, (wr.setCell ⟨gb, j, none⟩ (.int .u8 9)).ownsRow w0.heap.size 5 1 (.slice (some ⟨gb, 0, none⟩) (n + 1) ic) (n + 1) (bys il) ∧ Fr (fun k => some k = (Value.slice (some ⟨gb, 0, none⟩) (n + 1) ic).ownBlock) w12 (wr.setCell ⟨gb, j, none⟩ (.int .u8 9))) := ⟨_, hnew, hfr.setCell (p := ⟨gb, j, none⟩) (.inl rfl) _⟩
            have hjm : j < n + 1 ∧ j ≤ n := by omega
            clear hown hu hnew hfr hil h3
            go_wp2_with fail
            go_roundw
            case rel => exact ⟨j + 1, by go_num, by omega, HN⟩
            case measure => simp [intOf]; omega
          · have hjn : j = n := by omega
            subst hjn
            have hjl' : decide ((j : Int) < (j : Int)) = false := decide_eq_false (by omega)
            obtain ⟨il, hown, hfr⟩ := HJ.out
            have HN := Lib.hid hfr
            go_wp2_with fail
            go_meet
            exact ⟨rfl, HN⟩
        --C3>
      case rest => as_aux_lemma =>
        obtain ⟨rfl, H13⟩ := hcut
        obtain ⟨w13, rfl⟩ : ∃ w13 : World, w13 = wc := ⟨_, rfl⟩
        have far : ∀ g, (w1.heap.size ≤ g) → ¬ some g = (Value.slice IA (n + 1) ic).ownBlock := fun g hg e => by have := hIl.out g e.symm; omega
        have Hcb13 := Lib.hid (Hcb.out.fr H13.out (far _ (by have := Hbl.out.1; have := Hs110.out; omega)))
        have Hob13 := Lib.hid (Hob.out.fr H13.out (far _ (by have := Hbl.out.2; have := Hs110.out; omega)))
        have HO13 := Lib.hid (own_fr HO.out H13.out (fun g hg => far g (by have := (own_lt HO.out hg).1; have := Hs110.out; omega)))
        have HL13 := Lib.hid (own_fr HLr.out H13.out (fun g hg => far g (own_lt HLr.out hg).1))
        have HMm13 := Lib.hid (own_fr HMr.out H13.out (fun g hg => far g (own_lt HMr.out hg).1))
        have HM13 := Lib.hid (own_fr HM12.out H13.out (fun g hg => far g (by have := (own_lt HM12.out hg).1; have := Hs12.out; omega)))
        have Hb013 : Hid (Below w0.heap.size w0 w13) := Hb012.out.trans (H13.out.below Hb012.out.size (fun g e => hIl2.out g e.symm))
        clear far Hcb Hob HO HLr HMr HM12 HI12 H13 Hb012
        obtain ⟨x0, x1, x2, hz⟩ := HC.out w13 Hb013.out
        have HRP := Lib.hid (RPieces_gen A n c la least most bits w13 (HI.out.below Hb013.out) hnc (by omega))
        go_wp2_with fail
        refine HRP.out.mono ?_
        rintro e w14 ⟨OP, opc, ps, rfl, hps, hrow, hpc, hb14⟩
        have Hps := Lib.hid hps
        have Hrow := Lib.hid hrow
        have Hpc := Lib.hid hpc
        have Hb14 := Lib.hid hb14
        clear hps hrow hpc hb14 HRP x0 x1 x2 hz
        obtain ⟨N, hN⟩ : ∃ N, ps.length = N := ⟨_, rfl⟩
        have HN := Lib.hid hN
        rw [hN]
        clear hN
        go_upto_region 26 with (fail)
        obtain ⟨wB, hwB⟩ : ∃ wB, w14.alloc (.cells #[.slice OP N opc] 41) = wB := ⟨_, rfl⟩
        obtain ⟨B, hB⟩ : ∃ B, wB.heap.size = B := ⟨_, rfl⟩
        have hBe : w14.heap.size + 1 = B := by rw [← hB, ← hwB, World.size_alloc]
        have hb14B : Below w14.heap.size w14 wB := by rw [← hwB]; exact (Below.refl _ _).alloc (Nat.le_refl _) _
        have hb13B : Below w13.heap.size w13 wB := bup Hb14.out hb14B
        have hs13 := hb13B.size
        have HS : Hid (CkS B Z w14.heap.size cb ob least most bits stop A n la L M L3 q cl O oc OP opc ps wB) := by
          have hz2 := HRs.out.lt
          have hs0 := Hb013.out.size
          have hb0B : Below w0.heap.size w0 wB := bup Hb013.out hb13B
          have hrep : ∀ (xs : List Value) (A : Option Addr), CellsB B wB A (fun i => xs[i]?) → (∀ i, i < q → xs[i]? = some (.int .i64 (-7))) → CellsB B wB A (fun i => if i < q then some (.int .i64 (-7)) else none) := fun xs A h hx i v hv => by
            by_cases hi : i < q
            · simp only [if_pos hi] at hv
              exact h i v ((hx i hi).trans hv)
            · simp only [if_neg hi] at hv; cases hv
          refine ⟨HX.out.below hb0B, HSt.out.below hb0B, HRs.out.below hb0B, ⟨HI.out.below hb0B, fun h0 ad had => by have := HI.out.2.1 h0 ad had; omega⟩, ?_, ?_, ?_, Hcb13.out.below hb13B, Hob13.out.below hb13B, ⟨In.of_own (own_below HO13.out hb13B) (by omega), fun h0 ad had => ?_⟩, ?_, ?_, ?_, by omega, ?_, ?_, by omega⟩
          · exact hrep _ _ (CellsB.of_own (own_below HL13.out hb13B) (by omega)) (fun i hi => by rw [List.getElem?_replicate, if_pos hi])
          · exact hrep _ _ (CellsB.of_own (own_below HMm13.out hb13B) (by omega)) (fun i hi => by rw [List.getElem?_append_left (by simpa using hi), List.getElem?_replicate, if_pos hi])
          · exact CellsB.of_own (own_below HM13.out hb13B) (by omega)
          · have := (own_lt HO13.out (own_addr HO13.out had)).2; omega
          · rw [HN.out, ← hwB]; exact Blk.new _ _ _
          · have h1 := own_below Hrow.out hb14B
            exact CellsB.of_own h1 (by omega)
          · intro p hp
            have h1 := Hpc.out p hp
            refine ⟨h1.1 wB (HI.out.below hb0B), fun h0 ad had => ?_⟩
            obtain ⟨ad', e1, e2⟩ := h1.2.1 ad had
            have h2 := h1.1 w0 HI.out
            have := h2.2.1 h0 ad had
            omega
          · have := Hcb13.out.lt; omega
          · have := Hob13.out.lt; omega
        have hnoc : n ≤ oc := own_le HO13.out
        have hnopc : N ≤ opc := by have := own_le Hrow.out; rw [HN.out] at this; exact this
        obtain ⟨Bp, hBp⟩ : ∃ Bp, w14.heap.size = Bp := ⟨_, rfl⟩
        rw [hBp] at hBe HS
        have hwR0 : Blk ((wB.alloc (.cells #[.slice none 0 0] 35)).alloc (.cells #[.int .i64 0] 3)) (Bp + 1) 35 #[.slice none 0 0] := (Blk.new_at (by omega)).alloc _
        have hwR1 : Blk ((wB.alloc (.cells #[.slice none 0 0] 35)).alloc (.cells #[.int .i64 0] 3)) (Bp + 2) 3 #[.int .i64 0] := Blk.new_at (by simp; omega)
        obtain ⟨wR, hwR⟩ : ∃ wR, (wB.alloc (.cells #[.slice none 0 0] 35)).alloc (.cells #[.int .i64 0] 3) = wR := ⟨_, rfl⟩
        have hbR : Below B wB wR := by rw [← hB, ← hwR]; exact bmk_ (bmk_ (Below.refl _ _) _) _
        have hzR : wR.heap.size = Bp + 3 := by rw [← hwR]; simp; omega
        rw [hwR] at hwR0 hwR1
        subst hBe
        have HIK : Hid (IK (Bp + 1) (Bp + 1) (Bp + 2) (Bp + 3) 0 [] wB 0 wR) := by
          have hsp := SPK.start (B := Bp + 1) hwR0 hwR1 (Nat.le_refl _) (by omega)
          refine ⟨_, rfl, rfl, rfl, rfl, rfl, rfl, hsp, fun x g hg hg' => by have := (hsp.inb x g hg).2; omega, hbR, fun d hd => by cases hd⟩
        have HSR : Hid (CkS (Bp + 1) Z Bp cb ob least most bits stop A n la L M L3 q cl O oc OP opc ps wR) := HS.out.below hbR
        have Hb0B : Hid (Below w0.heap.size w0 wB) := bup Hb013.out hb13B
        have hs0B : w0.heap.size ≤ Bp + 1 := by have := Hb0B.out.size; omega
        have HPc' : Hid (byP ps = piecesAny least most bits la) := Hps.out
        have HzR := Lib.hid hzR
        rw [hwB, hBp, hwR]
        clear hwB hB hb14B hb13B hs13 hBp hwR0 hwR1 hwR hbR hzR Hcb13 Hob13 HO13 HL13 HMm13 HM13 Hb013 Hrow Hpc Hb14 HX HSt HRs HC Hps HI
        go_wp2_with fail
        have hmix : Try.prog.follows Departure.mixedOrders = true := by kernel_rfl
        refine (wpIn_wide (n := 5)).1 ?_
        have hlenP := pieces_len least most bits la
        obtain ⟨P, hP⟩ : ∃ P, piecesAny least most bits la = P := ⟨_, rfl⟩
        have HP := Lib.hid hP
        have hPN : P.length = N := by rw [← hP, ← HPc'.out, ← HN.out]; simp [byP]
        have HPN := Lib.hid hPN
        have hPn : P.length ≤ 1048577 ∧ ∀ x, x ∈ P → x.length ≤ 1048576 := by
          rw [hP, HlA.out] at hlenP
          exact ⟨by omega, fun x hx => by have := hlenP.2.2 x hx; omega⟩
        have HPn := Lib.hid hPn
        clear hlenP hP hPN hPn
        refine' range_lv (n := 5) (by omega) (gf := 34) (lb := #[.pointer (some ⟨cb, 0, none⟩), .pointer (some ⟨ob, 0, none⟩)]) rfl (enters_of Try.func34 (by kernel_rfl) rfl) rfl .ret
          (IK (Bp + 1) (Bp + 1) (Bp + 2) (Bp + 3) 0 [] wB) (fun _ => False) (VK (Bp + 1) (Bp + 1) (Bp + 2) (Bp + 3) 0 [] wB P) (fun g => Bp + 3 + 2 ≤ g ∧ g < Bp + 3 + 10) (KP (Bp + 3) cb ob n O) P.length (Bp + 3) HzR.out ?kk ?oo ?i1 ?i2 ?x1 ?x2 ?v1 HIK.out ?iter _ ?assign ?body ?done ?stop
        case assign =>
          intro v W R hR
          gi_wp2
          exact hR
        case kk =>
          have := HSR.out.lt
          rintro g (h | h | h | ⟨h0, ad, had, h⟩)
          · omega
          · omega
          · omega
          · have := HSR.out.ins.2 h0 ad had; omega
        case oo => intro g h; omega
        case i1 => intro k W W' h hF; exact h.fr hF (fun g e => by omega) (by omega)
        case i2 => intro k W W' h hF; exact h.fr hF (fun g e => by omega) (by omega)
        case x1 => intro W W' h; exact h.elim
        case x2 => intro W W' h; exact h.elim
        case v1 => intro k v W W' h hF; exact h.fr hF
        case iter =>
          intro J Jx r hJ0 hJf hXf hJI hY
          have := pieces_iter (B := Bp + 1) (Bb := Bp + 1) (Bn := Bp + 2) (D := Bp + 3) (q0 := 0) (ds := []) (w0 := wB) (m := 5) (by omega) HzR.out HSR.out hnoc (by omega) J Jx r hJ0 hJf hXf hJI (by rw [HP.out]; exact hY)
          rw [HP.out] at this
          exact this
        case body =>
          rintro k v W - ⟨x, O', oc', Wp, rfl, hx, ⟨g, e1, e2, e3, e4, e5, e6, hs, hO, hb, hd⟩, hsz, hF, hrow⟩ hk hlt
          obtain ⟨bv, gk, gL, gc, pgs, gPA, gpc, gpl⟩ := g
          simp only [] at e1 e2 e3 e4 e5 e6
          subst e1 e2 e3 e4 e5
          have hsW := SPK.piece hs hF (fun x k hk hk' => hO x k hk (by omega)) hrow
          have hbW : Below (Bp + 1) wB W := hb.trans (hF.below hs.le (fun k hk => by omega))
          have hSW := HS.out.below hbW
          obtain ⟨p, hp⟩ : ∃ p, ps[gk]? = some p := ⟨_, List.getElem?_eq_getElem (by rw [HN.out, ← HPN.out]; exact hk)⟩
          have hpx : p.2.2 = x := by
            have h1 : (byP ps)[gk]? = some p.2.2 := by simp [byP, hp]
            rw [HPc'.out, HP.out, hx] at h1
            exact (Option.some.inj h1).symm
          obtain ⟨b1, o1, hOP, hb1, z1⟩ := hSW.row gk _ (svs_at hp)
          have hin2 := (hSW.pin p (List.mem_of_getElem? hp)).1.1
          have hin1 : Rd W 1 O' x.length (bys x) := Rd.of_own hrow
          have n0 : W.cell? ⟨Bp + 1 + 1, 0, none⟩ = some (.int .i64 (gk : Int)) := (hsW.hold .nn).one
          have b0 : W.cell? ⟨Bp + 1, 0, none⟩ = some (.slice gL pgs.length gc) := (hsW.hold .bb).one
          have p0 : W.cell? ⟨Bp, 0, none⟩ = some (.slice OP ps.length opc) := hSW.bp.one
          rw [HN.out] at p0
          obtain ⟨pA, pc, pl⟩ := p
          simp only [] at hpx z1 hin2
          subst hpx
          have hcv1 : ∀ a, (convert 32 9 (.slice O' pl.length oc')).run Try.prog (W.drewN a) = .ok (.string (strOf pl)) (W.drewN a) := fun a => conv_rd (hin1.keep fun _ _ => rfl)
          have hcv2 : ∀ a, (convert 32 9 (.slice pA pl.length pc)).run Try.prog (W.drewN a) = .ok (.string (strOf pl)) (W.drewN a) := fun a => conv_rd (hin2.keep fun _ _ => rfl)
          have hkN : gk < N ∧ (gk : Int) < (N : Int) ∧ ¬ (N : Int) ≤ (gk : Int) := by have := HPN.out; omega
          have hgeN : decide ((N : Int) ≤ (gk : Int)) = false := decide_eq_false hkN.2.2
          have hgeN2 : decide (N ≤ gk) = false := decide_eq_false (by omega)
          have hopc : gk ≤ opc := by omega
          have hwl : Bp + 1 + 1 < W.heap.size := by omega
          subst hOP
          have HsW := Lib.hid hsW
          have HKK := Lib.hid (fun a => KeepK (hsW.keep (below_drewN (Below.refl _ W) a)) (show pgs.length ≤ 4294967296 by have := HPn.out.1; omega) (show pl.length ≤ 4294967296 by have := HPn.out.2 pl (List.mem_of_getElem? hx); omega))
          have HE : Hid (∀ (a : Nat) (L : Option Addr) (c : Nat) (pg : Pg) (W5 : World) (act : Act), SP (famK (Bp + 1) (Bp + 1) (Bp + 2) ⟨.slice gL pgs.length gc, gk, L, c, pgs ++ [pg], none, 0, []⟩) (Bp + 1) W5 → Fr (fun k => ∃ x, (famK (Bp + 1) (Bp + 1) (Bp + 2) ⟨.slice gL pgs.length gc, gk, gL, gc, pgs, O', oc', pl⟩ x).S k) (W.drewN a) W5 →
              (∀ x k, (famK (Bp + 1) (Bp + 1) (Bp + 2) ⟨.slice gL pgs.length gc, gk, L, c, pgs ++ [pg], none, 0, []⟩ x).S k → (∃ y, (famK (Bp + 1) (Bp + 1) (Bp + 2) ⟨.slice gL pgs.length gc, gk, gL, gc, pgs, O', oc', pl⟩ y).S k) ∨ (W.drewN a).heap.size ≤ k) →
              RoundPostL (Bp + 3) .ret (fun W' => IK (Bp + 1) (Bp + 1) (Bp + 2) (Bp + 3) 0 [] wB (gk + 1) W' ∧ KeepAt (KP (Bp + 3) cb ob n O) W W') (fun W' => (fun _ => False) W' ∧ KeepAt (KP (Bp + 3) cb ob n O) W W') W .normal act ((W5.setCell ⟨Bp + 1, 0, none⟩ (.slice L (pgs.length + 1) c)).setCell ⟨Bp + 1 + 1, 0, none⟩ (.int .i64 ((gk : Int) + 1)))) := by
            intro a L c pg W5 act h5 hF5 hS5
            have hOut : Out (Bp + 3) (famK (Bp + 1) (Bp + 1) (Bp + 2) ⟨.slice gL pgs.length gc, gk, gL, gc, pgs, O', oc', pl⟩) := hO.next hsz (fun x k hk => by
              cases x with
              | p => exact .inr (own_lt hrow hk).1
              | bb => exact .inl ⟨.bb, hk⟩
              | nn => exact .inl ⟨.nn, hk⟩
              | bk => exact .inl ⟨.bk, hk⟩
              | pg i => exact .inl ⟨.pg i, hk⟩)
            have hlt := HSR.out.lt
            have := round_done (ds := []) (q0 := 0) (K := KP (Bp + 3) cb ob n O) (w0 := wB) (hsW.keep (below_drewN (Below.refl _ W) a)) rfl e6 hOut (below_drewN hbW a) (by show Bp + 3 + 10 ≤ W.heap.size; have := hF.size; omega) (by omega) (fun d hd => by cases hd) h5 hF5 hS5 (by
              rintro g (h | h | h | ⟨h0, ad, had, h⟩)
              · omega
              · omega
              · omega
              · have := HSR.out.ins.2 h0 ad had; omega) _ rfl
            obtain ⟨r1, r2, r3, r4⟩ := this
            exact ⟨r3, r4, r1, r2⟩
          clear hs hO hb hd hF hrow hsW hbW hSW hp hin1 hin2 hx e6
          gi_wp2
          refine quiet_round hmix (by kernel_rfl) (by kernel_rfl) ?_
          repeat (gi_big_quiet_step (fail))
          refine wpQuietIn_nil ?_
          intro _ hw'
          obtain ⟨nq, hw''⟩ := hw'
          subst hw''
          gi_wp2
          refine ⟨trivial, ?_⟩
          refine (CallsIn.inRound _ (callsIn_wide.2 (HKK.out nq))).mono ?_
          rintro en W5 ⟨L5, c5, pg, rfl, h5, hF5, hS5⟩
          have hb5 := h5.hold .bb
          have hn5 := h5.hold .nn
          have b5 : W5.cell? ⟨Bp + 1, 0, none⟩ = some (.slice gL pgs.length gc) := hb5.one
          have n5 : W5.cell? ⟨Bp + 1 + 1, 0, none⟩ = some (.int .i64 (gk : Int)) := hn5.one
          have bf5 : W5.frozen? ⟨Bp + 1, 0, none⟩ = false := hb5.frozen 0
          have nf5 : W5.frozen? ⟨Bp + 1 + 1, 0, none⟩ = false := hn5.frozen 0
          have bl5 : Bp + 1 < W5.heap.size := hb5.lt
          have nl5 : Bp + 1 + 1 < W5.heap.size := hn5.lt
          have HE5 := Lib.hid (fun act => HE.out nq L5 c5 pg W5 act h5 hF5 hS5)
          have hgk : gk ≤ 1048577 := by have := HPn.out.1; omega
          clear h5 hF5 hS5 hb5 hn5 HE HKK HsW hcv1 hcv2 z1 p0 n0 b0
          gi_wp2
          exact HE5.out _
        case done =>
          rintro W hI hM
          rw [HPN.out] at hI
          obtain ⟨g, e1, e2, e3, e4, e5, e6, hs, hO, hb, _⟩ := hI
          obtain ⟨bv, m0, gL0, gc0, pgs0, gPA, gpc, gpl⟩ := g
          simp only [] at e1 e2 e3 e4 e5 e6
          subst e1 e2 e3 e4 e5
          have hSW := HS.out.below hb
          have n0 : W.cell? ⟨Bp + 1 + 1, 0, none⟩ = some (.int .i64 (m0 : Int)) := (hs.hold .nn).one
          have nf0 : W.frozen? ⟨Bp + 1 + 1, 0, none⟩ = false := (hs.hold .nn).frozen 0
          have nl0 : Bp + 1 + 1 < W.heap.size := (hs.hold .nn).lt
          have p0 : W.cell? ⟨Bp, 0, none⟩ = some (.slice OP ps.length opc) := hSW.bp.one
          rw [HN.out] at p0
          have hD1 : Bp + 3 < W.heap.size := (Array.getElem?_eq_some_iff.1 hM).1
          have hs2 := SPK.nn hs 0
          have hF2 : Fr (fun k => k = Bp + 1 + 1) W (W.setCell ⟨Bp + 1 + 1, 0, none⟩ (.int .i64 0)) := (Fr.refl (fun k => k = Bp + 1 + 1) W).setCell (p := ⟨Bp + 1 + 1, 0, none⟩) (.inl rfl) _
          have HS2 := Lib.hid (And.intro hs2 hF2)
          have HO1 := Lib.hid hO
          have Hb1' := Lib.hid hb
          have HM1 := Lib.hid hM
          have hgk : m0 ≤ 1048577 := by have := HPn.out.1; have := HPN.out; omega
          have hgg : decide ((m0 : Int) = (m0 : Int)) = true := decide_eq_true rfl
          have He6 := Lib.hid e6
          clear hs hO hb hSW hM hs2 hF2 e6
          go_wp2_with fail
          obtain ⟨W2, hW2⟩ : ∃ W2, W.setCell ⟨Bp + 1 + 1, 0, none⟩ (.int .i64 0) = W2 := ⟨_, rfl⟩
          rw [hW2]
          obtain ⟨D2, hD2⟩ : ∃ D2, W2.heap.size = D2 := ⟨_, rfl⟩
          have HD2 := Lib.hid hD2
          have hD13 : Bp + 3 < D2 := by rw [← hD2, ← hW2]; simpa [World.setCell] using hD1
          have HIK2 : Hid (IK (Bp + 1) (Bp + 1) (Bp + 2) D2 m0 [Bp + 3] wB 0 W2) := by
            have h1 := HS2.out.1
            have h2 := HS2.out.2
            have hW2' : W.setCell ⟨Bp + 2, 0, none⟩ (.int .i64 ((0 : Nat) : Int)) = W2 := hW2
            rw [hW2'] at h1
            rw [hW2] at h2
            have hO2 : Out (Bp + 3) (famK (Bp + 1) (Bp + 1) (Bp + 2) ⟨.slice gL0 pgs0.length gc0, 0, gL0, gc0, pgs0, none, 0, []⟩) := fun x k hk => by
              cases x with
              | p => exact HO1.out .p k hk
              | bb => exact HO1.out .bb k hk
              | nn => exact HO1.out .nn k hk
              | bk => exact HO1.out .bk k hk
              | pg i => exact HO1.out (.pg i) k hk
            refine ⟨_, rfl, rfl, rfl, rfl, rfl, by have := He6.out; show pgs0.length = _; omega, h1, fun x k hk hk' => by have := (h1.inb x k hk).2; omega, Hb1'.out.trans (h2.below (by omega) (fun k e => by omega)), fun d hd => ?_⟩
            rw [List.mem_singleton] at hd
            subst hd
            exact ⟨hO2, by omega, hD13, (h2.block _ hD1 (by omega)).trans HM1.out⟩
          have HSR2 : Hid (CkS (Bp + 1) Z Bp cb ob least most bits stop A n la L M L3 q cl O oc OP opc ps W2) := by
            obtain ⟨g, _, _, _, _, _, _, _, _, hb, _⟩ := HIK2.out
            exact HS.out.below hb
          clear hW2 HS2 HO1 HM1 hD2 n0 nf0 nl0 p0 hD1 Hb1'
          refine (wpIn_wide (n := 5)).1 ?_
          refine' range_lv (n := 5) (by omega) (gf := 34) (lb := #[.pointer (some ⟨cb, 0, none⟩), .pointer (some ⟨ob, 0, none⟩)]) rfl (enters_of Try.func34 (by kernel_rfl) rfl) rfl (.exit 8)
            (IK (Bp + 1) (Bp + 1) (Bp + 2) D2 m0 [Bp + 3] wB) (fun W => ∃ k, k ≤ P.length ∧ IK (Bp + 1) (Bp + 1) (Bp + 2) D2 m0 [Bp + 3] wB k W) (VK (Bp + 1) (Bp + 1) (Bp + 2) D2 m0 [Bp + 3] wB P) (fun g => D2 + 2 ≤ g ∧ g < D2 + 10) (KP D2 cb ob n O) P.length D2 HD2.out ?kk2 ?oo2 ?i12 ?i22 ?x12 ?x22 ?v12 HIK2.out ?iter2 _ ?assign2 ?body2 ?done2 ?stop2
          case assign2 =>
            intro v W R hR
            gi_wp2
            exact hR
          case kk2 =>
            have := HSR.out.lt
            rintro g (h | h | h | ⟨h0, ad, had, h⟩)
            · omega
            · omega
            · omega
            · have := HSR.out.ins.2 h0 ad had; omega
          case oo2 => intro g h; omega
          case i12 => intro k W W' h hF; exact h.fr hF (fun g e => by omega) (by omega)
          case i22 => intro k W W' h hF; exact h.fr hF (fun g e => by omega) (by omega)
          case x12 => rintro W W' ⟨k, hk, h⟩ hF; exact ⟨k, hk, h.fr hF (fun g e => by omega) (by omega)⟩
          case x22 => rintro W W' ⟨k, hk, h⟩ hF; exact ⟨k, hk, h.fr hF (fun g e => by omega) (by omega)⟩
          case v12 => intro k v W W' h hF; exact h.fr hF
          case iter2 =>
            intro J Jx r hJ0 hJf hXf hJI hY
            have := pieces_iter (B := Bp + 1) (Bb := Bp + 1) (Bn := Bp + 2) (D := D2) (q0 := m0) (ds := [Bp + 3]) (w0 := wB) (m := 5) (by omega) HD2.out HSR2.out hnoc (by omega) J Jx r hJ0 hJf hXf hJI (by rw [HP.out]; exact hY)
            rw [HP.out] at this
            exact this
          case body2 =>
            rintro k v W - ⟨x, O', oc', Wp, rfl, hx, ⟨g, e1, e2, e3, e4, e5, e6, hs, hO, hb, hd⟩, hsz, hF, hrow⟩ hk hlt
            obtain ⟨bv, gk, gL, gc, pgs, gPA, gpc, gpl⟩ := g
            simp only [] at e1 e2 e3 e4 e5 e6
            subst e1 e2 e3 e4 e5
            have hsW := SPK.piece hs hF (fun x k hk hk' => hO x k hk (by omega)) hrow
            have hbW : Below (Bp + 1) wB W := hb.trans (hF.below hs.le (fun k hk => by omega))
            have hSW := HS.out.below hbW
            obtain ⟨p, hp⟩ : ∃ p, ps[gk]? = some p := ⟨_, List.getElem?_eq_getElem (by rw [HN.out, ← HPN.out]; exact hk)⟩
            have hpx : p.2.2 = x := by
              have h1 : (byP ps)[gk]? = some p.2.2 := by simp [byP, hp]
              rw [HPc'.out, HP.out, hx] at h1
              exact (Option.some.inj h1).symm
            obtain ⟨b1, o1, hOP, hb1, z1⟩ := hSW.row gk _ (svs_at hp)
            have hin2 := (hSW.pin p (List.mem_of_getElem? hp)).1.1
            have hin1 : Rd W 1 O' x.length (bys x) := Rd.of_own hrow
            have n0 : W.cell? ⟨Bp + 1 + 1, 0, none⟩ = some (.int .i64 (gk : Int)) := (hsW.hold .nn).one
            have b0 : W.cell? ⟨Bp + 1, 0, none⟩ = some (.slice gL pgs.length gc) := (hsW.hold .bb).one
            have p0 : W.cell? ⟨Bp, 0, none⟩ = some (.slice OP ps.length opc) := hSW.bp.one
            rw [HN.out] at p0
            obtain ⟨pA, pc, pl⟩ := p
            simp only [] at hpx z1 hin2
            subst hpx
            have hcv1 : ∀ a, (convert 32 9 (.slice O' pl.length oc')).run Try.prog (W.drewN a) = .ok (.string (strOf pl)) (W.drewN a) := fun a => conv_rd (hin1.keep fun _ _ => rfl)
            have hcv2 : ∀ a, (convert 32 9 (.slice pA pl.length pc)).run Try.prog (W.drewN a) = .ok (.string (strOf pl)) (W.drewN a) := fun a => conv_rd (hin2.keep fun _ _ => rfl)
            have hkN : gk < m0 ∧ (gk : Int) < (m0 : Int) ∧ ¬ (m0 : Int) ≤ (gk : Int) := by have := HPN.out; omega
            have hgeN : decide ((m0 : Int) ≤ (gk : Int)) = false := decide_eq_false hkN.2.2
            have hgeN2 : decide (m0 ≤ gk) = false := decide_eq_false (by omega)
            have hopc : gk ≤ opc := by omega
            have hwl : Bp + 1 + 1 < W.heap.size := by omega
            subst hOP
            have HsW := Lib.hid hsW
            have HKK := Lib.hid (fun a => KeepK (hsW.keep (below_drewN (Below.refl _ W) a)) (show pgs.length ≤ 4294967296 by have := HPn.out.1; omega) (show pl.length ≤ 4294967296 by have := HPn.out.2 pl (List.mem_of_getElem? hx); omega))
            have hdd : ∀ d, d ∈ [Bp + 3] → Out d (famK (Bp + 1) (Bp + 1) (Bp + 2) ⟨.slice gL pgs.length gc, gk, gL, gc, pgs, O', oc', pl⟩) ∧ Bp + 1 ≤ d ∧ d < D2 ∧ W.heap[d]? = some (.deferred (some [])) := fun d hdm => by
              obtain ⟨d1, d2, d3, d4⟩ := hd d hdm
              have hlt : d < Wp.heap.size := by omega
              refine ⟨fun x k hk hk' => ?_, d2, d3, (hF.block d hlt (fun e => by omega)).trans d4⟩
              cases x with
              | p => have := (own_lt hrow hk).1; omega
              | bb => exact d1 .bb k hk hk'
              | nn => exact d1 .nn k hk hk'
              | bk => exact d1 .bk k hk hk'
              | pg i => exact d1 (.pg i) k hk hk'
            have s0 : W.cell? ⟨Z + 1, 0, none⟩ = some (.int .i64 stop) := hSW.st.one
            have hbWW := hbW
            have hZl := hSW.lt
            have HB5 : Hid (∀ (a : Nat) (L : Option Addr) (c : Nat) (pg : Pg) (W5 : World), SP (famK (Bp + 1) (Bp + 1) (Bp + 2) ⟨.slice gL pgs.length gc, gk, L, c, pgs ++ [pg], none, 0, []⟩) (Bp + 1) W5 → Fr (fun k => ∃ x, (famK (Bp + 1) (Bp + 1) (Bp + 2) ⟨.slice gL pgs.length gc, gk, gL, gc, pgs, O', oc', pl⟩ x).S k) (W.drewN a) W5 → W5.cell? ⟨Z + 1, 0, none⟩ = some (.int .i64 stop)) := fun a L c pg W5 _ hF5 => by
              have h1 : (W.drewN a).cell? ⟨Z + 1, 0, none⟩ = some (.int .i64 stop) := s0
              exact (hF5.cell (p := ⟨Z + 1, 0, none⟩) (by show Z + 1 < W.heap.size; omega) (fun ⟨x, hx⟩ => by have := (HsW.out.inb x _ hx).1; simp at this; omega)).trans h1
            have HE : Hid (∀ (a : Nat) (L : Option Addr) (c : Nat) (pg : Pg) (W5 : World) (act : Act) (ex : Bool), SP (famK (Bp + 1) (Bp + 1) (Bp + 2) ⟨.slice gL pgs.length gc, gk, L, c, pgs ++ [pg], none, 0, []⟩) (Bp + 1) W5 → Fr (fun k => ∃ x, (famK (Bp + 1) (Bp + 1) (Bp + 2) ⟨.slice gL pgs.length gc, gk, gL, gc, pgs, O', oc', pl⟩ x).S k) (W.drewN a) W5 →
                (∀ x k, (famK (Bp + 1) (Bp + 1) (Bp + 2) ⟨.slice gL pgs.length gc, gk, L, c, pgs ++ [pg], none, 0, []⟩ x).S k → (∃ y, (famK (Bp + 1) (Bp + 1) (Bp + 2) ⟨.slice gL pgs.length gc, gk, gL, gc, pgs, O', oc', pl⟩ y).S k) ∨ (W.drewN a).heap.size ≤ k) →
                RoundPostL D2 (.exit 8) (fun W' => IK (Bp + 1) (Bp + 1) (Bp + 2) D2 m0 [Bp + 3] wB (gk + 1) W' ∧ KeepAt (KP D2 cb ob n O) W W') (fun W' => (∃ k, k ≤ P.length ∧ IK (Bp + 1) (Bp + 1) (Bp + 2) D2 m0 [Bp + 3] wB k W') ∧ KeepAt (KP D2 cb ob n O) W W') W (if ex then .exit 8 else .normal) act ((W5.setCell ⟨Bp + 1, 0, none⟩ (.slice L (pgs.length + 1) c)).setCell ⟨Bp + 1 + 1, 0, none⟩ (.int .i64 ((gk : Int) + 1)))) := by
              intro a L c pg W5 act ex h5 hF5 hS5
              have hOut : Out D2 (famK (Bp + 1) (Bp + 1) (Bp + 2) ⟨.slice gL pgs.length gc, gk, gL, gc, pgs, O', oc', pl⟩) := hO.next hsz (fun x k hk => by
                cases x with
                | p => exact .inr (own_lt hrow hk).1
                | bb => exact .inl ⟨.bb, hk⟩
                | nn => exact .inl ⟨.nn, hk⟩
                | bk => exact .inl ⟨.bk, hk⟩
                | pg i => exact .inl ⟨.pg i, hk⟩)
              have hlt := HSR.out.lt
              have := round_done (ds := [Bp + 3]) (q0 := m0) (K := KP D2 cb ob n O) (w0 := wB) (hsW.keep (below_drewN (Below.refl _ W) a)) rfl e6 hOut (below_drewN hbW a) (by show D2 + 10 ≤ W.heap.size; have := hF.size; omega) (by omega) hdd h5 hF5 hS5 (by
                rintro g (h | h | h | ⟨h0, ad, had, h⟩)
                · omega
                · omega
                · omega
                · have := HSR.out.ins.2 h0 ad had; omega) _ rfl
              obtain ⟨r1, r2, r3, r4⟩ := this
              cases ex
              · exact ⟨r3, r4, r1, r2⟩
              · exact ⟨rfl, r3, r4, ⟨gk + 1, by omega, r1⟩, r2⟩
            clear hs hO hb hd hdd hF hrow hsW hbW hSW hp hin1 hin2 hx e6
            gi_wp2
            refine quiet_round hmix (by kernel_rfl) (by kernel_rfl) ?_
            repeat (gi_big_quiet_step (fail))
            refine wpQuietIn_nil ?_
            intro _ hw'
            obtain ⟨nq, hw''⟩ := hw'
            subst hw''
            gi_wp2
            refine ⟨trivial, ?_⟩
            refine (CallsIn.inRound _ (callsIn_wide.2 (HKK.out nq))).mono ?_
            rintro en W5 ⟨L5, c5, pg, rfl, h5, hF5, hS5⟩
            have hb5 := h5.hold .bb
            have hn5 := h5.hold .nn
            have b5 : W5.cell? ⟨Bp + 1, 0, none⟩ = some (.slice gL pgs.length gc) := hb5.one
            have n5 : W5.cell? ⟨Bp + 1 + 1, 0, none⟩ = some (.int .i64 (gk : Int)) := hn5.one
            have bf5 : W5.frozen? ⟨Bp + 1, 0, none⟩ = false := hb5.frozen 0
            have nf5 : W5.frozen? ⟨Bp + 1 + 1, 0, none⟩ = false := hn5.frozen 0
            have bl5 : Bp + 1 < W5.heap.size := hb5.lt
            have nl5 : Bp + 1 + 1 < W5.heap.size := hn5.lt
            have s5 : W5.cell? ⟨Z + 1, 0, none⟩ = some (.int .i64 stop) := (HB5.out nq L5 c5 pg W5 h5 hF5)
            have HE5 := Lib.hid (fun act ex => HE.out nq L5 c5 pg W5 act ex h5 hF5 hS5)
            have hgk : gk ≤ 1048577 := by have := HPn.out.1; omega
            clear h5 hF5 hS5 hb5 hn5 HE HKK HsW hcv1 hcv2 z1 p0 n0 b0
            gi_wp2
            all_goals first | exact HE5.out _ false | exact HE5.out _ true
          case done2 =>
            rintro W hI hM
            rw [HPN.out] at hI
            obtain ⟨g, e1, e2, e3, e4, e5, e6, hs, hO, hb, hd⟩ := hI
            obtain ⟨bv, m1, gL1, gc1, pgs1, gPA1, gpc1, gpl1⟩ := g
            simp only [] at e1 e2 e3 e4 e5 e6
            subst e1 e2 e3 e4 e5
            have HSW := Lib.hid (HS.out.below hb)
            have hbs : Bp + 1 ≤ W.heap.size := hs.le
            have hp1 : pgs1.length ≤ 4294967296 := by have := HPn.out.1; have := HPN.out; omega
            have b0 : W.cell? ⟨Bp + 1, 0, none⟩ = some (.slice gL1 pgs1.length gc1) := (hs.hold .bb).one
            have bl0 : Bp + 1 < W.heap.size := (hs.hold .bb).lt
            have HSP := Lib.hid hs
            have HbW := Lib.hid hb
            have HM2 := Lib.hid hM
            have HM1 := Lib.hid (hd (Bp + 3) (List.mem_singleton.2 rfl)).2.2.2
            have HD1 := Lib.hid hD13
            have HCW : Hid (∀ W' : World, Below W.heap.size W W' → W'.cell? ⟨Z, 0, none⟩ = some (.int .i64 least) ∧ W'.cell? ⟨Z, 1, none⟩ = some (.int .i64 most) ∧ W'.cell? ⟨Z, 2, none⟩ = some (.int .i64 bits)) := fun W' hW' => ⟨(HSW.out.x.below hW').cell 0, (HSW.out.x.below hW').cell 1, (HSW.out.x.below hW').cell 2⟩
            have HRo := Lib.hid (fun (V : World) (hV : Below W.heap.size W V) => room_in A n c la V (HSW.out.data.1.below hV) (by omega))
            have hzW : Z < W.heap.size := HSW.out.x.lt
            clear hs hO hb hd hM e6
            go_wp2_with fail
            go_loopw [22] (fun s22 wr => ∃ i : Nat, s22 = .int .i64 (i : Int) ∧ i ≤ q ∧ W = wr) (fun s22 _ => q - (intOf s22).toNat)
            case atStart => exact ⟨0, rfl, Nat.zero_le _, rfl⟩
            case round => as_aux_lemma =>
              obtain ⟨i, rfl, hi, rfl⟩ := hrel
              by_cases hlt : i < q
              · have hlt' : (i : Int) < (q : Int) := by omega
                obtain ⟨b1, o1, rfl, hb1, z1⟩ := HSW.out.l7 i (.int .i64 (-7)) (by simp only [if_pos hlt])
                obtain ⟨b2, o2, rfl, hb2, z2⟩ := HSW.out.m7 i (.int .i64 (-7)) (by simp only [if_pos hlt])
                have hic : i ≤ lc ∧ i < lc ∧ i < q + 1 ∧ b1 < W.heap.size ∧ b2 < W.heap.size := by omega
                have hici : (i : Int) < ((q + 1 : Nat) : Int) ∧ (i : Int) < (q : Int) + 1 := by omega
                go_wp2_with fail
                go_roundw
                case rel => exact ⟨i + 1, by go_num, by omega, trivial⟩
                case measure => simp [intOf]; omega
              · have hlt' : decide ((i : Int) < (q : Int)) = false := decide_eq_false (by omega)
                obtain ⟨x0, x1, x2⟩ := HCW.out W (Below.refl _ _)
                go_upto_region 47 with (fail)
                go_region_held3 (fun w' => w'.cell? ⟨Z, 0, none⟩ = some (.int .i64 least) ∧ w'.cell? ⟨Z, 1, none⟩ = some (.int .i64 most) ∧ w'.cell? ⟨Z, 2, none⟩ = some (.int .i64 bits))
                  (first | (with_reducible exact ⟨x0, x1, x2⟩) | (with_reducible exact ⟨p0, p1, p2⟩) | (with_reducible exact ⟨q0, q1, q2⟩) | go_keep)
                  (first | (go_at_call 18; refine (Cut_gen O1 n o1c la least most bits cl q ec _ (hO1.out.below (by first | (with_reducible exact (Below.refl _ _)) | (with_reducible exact (Below.refl _ _).drew))) hoc1 (by omega) Hcl.out Hq.out Hec.out).mono ?_; rintro en wq ⟨L4, lc4, rfl, hL4, hbq1⟩; have hbq : Below W.heap.size W wq := bup hbp (bup (by first | (with_reducible exact (Below.refl _ _)) | (with_reducible exact (Below.refl _ _).drew)) hbq1); obtain ⟨q0, q1, q2⟩ := HCW.out wq hbq) | (go_at_call 13; refine (HRo.out _ (by first | (with_reducible exact (Below.refl _ _)) | (with_reducible exact (Below.refl _ _).drew))).mono ?_; rintro en wp ⟨O1, o1c, rfl, hoc1, hO1, hbp1⟩; have hbp : Below W.heap.size W wp := bup (by first | (with_reducible exact (Below.refl _ _)) | (with_reducible exact (Below.refl _ _).drew)) hbp1; obtain ⟨p0, p1, p2⟩ := HCW.out wp hbp))
                have bq : wq.cell? ⟨Bp + 1, 0, none⟩ = some (.slice gL1 pgs1.length gc1) := (hbq.cell (p := ⟨Bp + 1, 0, none⟩) bl0).trans b0
                have blq : Bp + 1 < wq.heap.size := Nat.lt_of_lt_of_le bl0 hbq.size
                have HKt := Lib.hid (KeptK (HSP.out.keep hbq) hp1)
                have HL4 : Hid (InN wq L4 q cl) := InN.of_own hL4 (by omega)
                have hq4 := own_le hL4
                have Hbq := Lib.hid hbq
                have HTl := Lib.hid (tail_ends hZ Hb0.out Hb0B.out HbW.out hs0B hD13 HSW.out.lt.1 HM2.out HM1.out)
                clear hL4 hbq1 hbq hbp hbp1 hO1 hoc1 p0 p1 p2 q0 q1 q2 x0 x1 x2 b0 bl0 HCW HRo
                go_wp2_with fail
                refine HKt.out.mono ?_
                rintro e we ⟨rfl, hbe⟩
                have Hbe : Hid (Below W.heap.size W we) := bup Hbq.out hbe
                have HIs := Lib.hid (ints_same L4 L3 q lc4 lc3 cl we (HL4.out.below hbe) (InN.of_cells (HSW.out.l3.below (Hbe.out.mono hbs)) Hq.out (by omega) (Nat.le_trans hbs Hbe.out.size)) hq4 hq3)
                clear hbe bq blq HKt
                go_wp2_with fail
                refine HIs.out.mono ?_
                rintro e wz ⟨rfl, hbz⟩
                have Hbz : Hid (Below W.heap.size W wz) := bup Hbe.out hbz
                have hRz := HSW.out.rs.below Hbz.out
                have r0 : wz.cell? ⟨Z + 1 + 1, 0, none⟩ = some (.bool false) := hRz.one
                have rf : wz.frozen? ⟨Z + 1 + 1, 0, none⟩ = false := hRz.frozen 0
                have rl : Z + 1 + 1 < wz.heap.size := hRz.lt
                clear hbz HIs hRz
                go_wp2_with fail
                obtain ⟨t1, t2, t3⟩ := HTl.out wz Hbz.out HSW.out.rs (.bool true)
                refine ⟨by simp, .inl ⟨_, _, rfl, run_takeDeferred t1, ?_⟩⟩
                refine ⟨by simp, .inl ⟨_, _, rfl, run_takeDeferred (t2 _), ?_⟩⟩
                obtain ⟨t4, t5⟩ := t3 (.deferred none) (.deferred none)
                have t6 := t4 (by simp)
                exact ⟨.bool true, by simp [results, Try.results6, go_sem, t6], rfl, t5⟩
          case stop2 =>
            rintro W ⟨k, hk, ⟨g, e1, e2, e3, e4, e5, e6, hs, hO, hb, hd⟩⟩ hM
            refine wpIn_wide.2 ?_
            obtain ⟨bv, m1, gL1, gc1, pgs1, gPA1, gpc1, gpl1⟩ := g
            simp only [] at e1 e2 e3 e4 e5 e6
            subst e1 e2 e3 e4 e5
            have HSW := Lib.hid (HS.out.below hb)
            have hbs : Bp + 1 ≤ W.heap.size := hs.le
            have hp1 : pgs1.length ≤ 4294967296 := by have := HPn.out.1; have := HPN.out; omega
            have b0 : W.cell? ⟨Bp + 1, 0, none⟩ = some (.slice gL1 pgs1.length gc1) := (hs.hold .bb).one
            have bl0 : Bp + 1 < W.heap.size := (hs.hold .bb).lt
            have HSP := Lib.hid hs
            have HbW := Lib.hid hb
            have HM2 := Lib.hid hM
            have HM1 := Lib.hid (hd (Bp + 3) (List.mem_singleton.2 rfl)).2.2.2
            have HD1 := Lib.hid hD13
            have HCW : Hid (∀ W' : World, Below W.heap.size W W' → W'.cell? ⟨Z, 0, none⟩ = some (.int .i64 least) ∧ W'.cell? ⟨Z, 1, none⟩ = some (.int .i64 most) ∧ W'.cell? ⟨Z, 2, none⟩ = some (.int .i64 bits)) := fun W' hW' => ⟨(HSW.out.x.below hW').cell 0, (HSW.out.x.below hW').cell 1, (HSW.out.x.below hW').cell 2⟩
            have HRo := Lib.hid (fun (V : World) (hV : Below W.heap.size W V) => room_in A n c la V (HSW.out.data.1.below hV) (by omega))
            have hzW : Z < W.heap.size := HSW.out.x.lt
            clear hs hO hb hd hM e6
            go_wp2_with fail
            go_loopw [22] (fun s22 wr => ∃ i : Nat, s22 = .int .i64 (i : Int) ∧ i ≤ q ∧ W = wr) (fun s22 _ => q - (intOf s22).toNat)
            case atStart => exact ⟨0, rfl, Nat.zero_le _, rfl⟩
            case round => as_aux_lemma =>
              obtain ⟨i, rfl, hi, rfl⟩ := hrel
              by_cases hlt : i < q
              · have hlt' : (i : Int) < (q : Int) := by omega
                obtain ⟨b1, o1, rfl, hb1, z1⟩ := HSW.out.l7 i (.int .i64 (-7)) (by simp only [if_pos hlt])
                obtain ⟨b2, o2, rfl, hb2, z2⟩ := HSW.out.m7 i (.int .i64 (-7)) (by simp only [if_pos hlt])
                have hic : i ≤ lc ∧ i < lc ∧ i < q + 1 ∧ b1 < W.heap.size ∧ b2 < W.heap.size := by omega
                have hici : (i : Int) < ((q + 1 : Nat) : Int) ∧ (i : Int) < (q : Int) + 1 := by omega
                go_wp2_with fail
                go_roundw
                case rel => exact ⟨i + 1, by go_num, by omega, trivial⟩
                case measure => simp [intOf]; omega
              · have hlt' : decide ((i : Int) < (q : Int)) = false := decide_eq_false (by omega)
                obtain ⟨x0, x1, x2⟩ := HCW.out W (Below.refl _ _)
                go_upto_region 47 with (fail)
                go_region_held3 (fun w' => w'.cell? ⟨Z, 0, none⟩ = some (.int .i64 least) ∧ w'.cell? ⟨Z, 1, none⟩ = some (.int .i64 most) ∧ w'.cell? ⟨Z, 2, none⟩ = some (.int .i64 bits))
                  (first | (with_reducible exact ⟨x0, x1, x2⟩) | (with_reducible exact ⟨p0, p1, p2⟩) | (with_reducible exact ⟨q0, q1, q2⟩) | go_keep)
                  (first | (go_at_call 18; refine (Cut_gen O1 n o1c la least most bits cl q ec _ (hO1.out.below (by first | (with_reducible exact (Below.refl _ _)) | (with_reducible exact (Below.refl _ _).drew))) hoc1 (by omega) Hcl.out Hq.out Hec.out).mono ?_; rintro en wq ⟨L4, lc4, rfl, hL4, hbq1⟩; have hbq : Below W.heap.size W wq := bup hbp (bup (by first | (with_reducible exact (Below.refl _ _)) | (with_reducible exact (Below.refl _ _).drew)) hbq1); obtain ⟨q0, q1, q2⟩ := HCW.out wq hbq) | (go_at_call 13; refine (HRo.out _ (by first | (with_reducible exact (Below.refl _ _)) | (with_reducible exact (Below.refl _ _).drew))).mono ?_; rintro en wp ⟨O1, o1c, rfl, hoc1, hO1, hbp1⟩; have hbp : Below W.heap.size W wp := bup (by first | (with_reducible exact (Below.refl _ _)) | (with_reducible exact (Below.refl _ _).drew)) hbp1; obtain ⟨p0, p1, p2⟩ := HCW.out wp hbp))
                have bq : wq.cell? ⟨Bp + 1, 0, none⟩ = some (.slice gL1 pgs1.length gc1) := (hbq.cell (p := ⟨Bp + 1, 0, none⟩) bl0).trans b0
                have blq : Bp + 1 < wq.heap.size := Nat.lt_of_lt_of_le bl0 hbq.size
                have HKt := Lib.hid (KeptK (HSP.out.keep hbq) hp1)
                have HL4 : Hid (InN wq L4 q cl) := InN.of_own hL4 (by omega)
                have hq4 := own_le hL4
                have Hbq := Lib.hid hbq
                have HTl := Lib.hid (tail_ends hZ Hb0.out Hb0B.out HbW.out hs0B hD13 HSW.out.lt.1 HM2.out HM1.out)
                clear hL4 hbq1 hbq hbp hbp1 hO1 hoc1 p0 p1 p2 q0 q1 q2 x0 x1 x2 b0 bl0 HCW HRo
                go_wp2_with fail
                refine HKt.out.mono ?_
                rintro e we ⟨rfl, hbe⟩
                have Hbe : Hid (Below W.heap.size W we) := bup Hbq.out hbe
                have HIs := Lib.hid (ints_same L4 L3 q lc4 lc3 cl we (HL4.out.below hbe) (InN.of_cells (HSW.out.l3.below (Hbe.out.mono hbs)) Hq.out (by omega) (Nat.le_trans hbs Hbe.out.size)) hq4 hq3)
                clear hbe bq blq HKt
                go_wp2_with fail
                refine HIs.out.mono ?_
                rintro e wz ⟨rfl, hbz⟩
                have Hbz : Hid (Below W.heap.size W wz) := bup Hbe.out hbz
                have hRz := HSW.out.rs.below Hbz.out
                have r0 : wz.cell? ⟨Z + 1 + 1, 0, none⟩ = some (.bool false) := hRz.one
                have rf : wz.frozen? ⟨Z + 1 + 1, 0, none⟩ = false := hRz.frozen 0
                have rl : Z + 1 + 1 < wz.heap.size := hRz.lt
                clear hbz HIs hRz
                go_wp2_with fail
                obtain ⟨t1, t2, t3⟩ := HTl.out wz Hbz.out HSW.out.rs (.bool true)
                refine ⟨by simp, .inl ⟨_, _, rfl, run_takeDeferred t1, ?_⟩⟩
                refine ⟨by simp, .inl ⟨_, _, rfl, run_takeDeferred (t2 _), ?_⟩⟩
                obtain ⟨t4, t5⟩ := t3 (.deferred none) (.deferred none)
                have t6 := t4 (by simp)
                exact ⟨.bool true, by simp [results, Try.results6, go_sem, t6], rfl, t5⟩
        case stop => intro W h; exact h.elim
end Go.Proofs.Ytglkahonejblpaa
