/-
  Walks of the document's Cutter: Write and End. Conditions: the cutter lies in memory; legal cuts.
-/
import Derived.Test.YtglkahonejblpaaRef3
namespace Go.Proofs.Ytglkahonejblpaa
open Go.RowKit

/-- the document's cutter in memory -/
structure RC (B R : Nat) (least most bits : Int) (w : World) (AA : Option Addr) (ac : Nat) (la : List UInt8) (told : Nat) : Prop where
  blk : Blk w R 34 #[.int .i64 least, .int .i64 most, .int .i64 bits, .slice AA la.length ac, .int .i64 (told : Int)]
  own : w.ownsRow B 5 1 (.slice AA la.length ac) la.length (bys la)
  le : B ≤ R
theorem RC.below {B R : Nat} {least most bits : Int} {w w' : World} {AA : Option Addr} {ac told : Nat} {la : List UInt8} (h : RC B R least most bits w AA ac la told) (hb : Below w.heap.size w w') : RC B R least most bits w' AA ac la told :=
  ⟨h.blk.below hb, own_below h.own hb, h.le⟩
theorem RC.fr {S : Nat → Prop} {B R : Nat} {least most bits : Int} {w w' : World} {AA : Option Addr} {ac told : Nat} {la : List UInt8} (h : RC B R least most bits w AA ac la told) (hF : Fr S w w') (h1 : ¬ S R) (h2 : ∀ g, (Value.slice AA la.length ac).ownBlock = some g → ¬ S g) : RC B R least most bits w' AA ac la told :=
  ⟨h.blk.fr hF h1, own_fr h.own hF h2, h.le⟩
theorem RC.five {B R : Nat} {least most bits : Int} {w : World} {AA : Option Addr} {ac told : Nat} {la : List UInt8} (h : RC B R least most bits w AA ac la told) : w.cell? ⟨R, 0, none⟩ = some (.int .i64 least) ∧ w.cell? ⟨R, 1, none⟩ = some (.int .i64 most) ∧ w.cell? ⟨R, 2, none⟩ = some (.int .i64 bits) ∧ w.cell? ⟨R, 3, none⟩ = some (.slice AA la.length ac) ∧ w.cell? ⟨R, 4, none⟩ = some (.int .i64 (told : Int)) := h.blk.five
/-- whole pieces and what is left -/
theorem piecesL_parts (least most bits : Int) (hok : CutsOk least most bits) (l : List UInt8) : ∃ lf, wrL least most bits 0 0 [] l = ((wrL least most bits 0 0 [] l).1, rollL 0 lf, lf.length, lf) ∧ piecesL least most bits l = (wrL least most bits 0 0 [] l).1 ++ (if lf = [] then [] else [lf]) ∧
    (∀ p, p ∈ (wrL least most bits 0 0 [] l).1 → endsR least most bits p = true) ∧ (lf ≠ [] → endsR least most bits lf = false) := by
  have hm : ((([] : List UInt8).length : Nat) : Int) < most := by have := hok.a; have := hok.b; simp; omega
  obtain ⟨lf, h1, h2, h3⟩ := wrL_inv least most bits hok l [] hm
  have h4 := wrL_whole least most bits hok l [] hm
  refine ⟨lf, Prod.ext rfl h1, ?_, h4, h3 (fun e => absurd rfl e)⟩
  unfold piecesL allP
  have h5 : (wrL least most bits 0 0 [] l).2.2.2 = lf := by
    have := congrArg (fun x => x.2.2) h1
    exact this
  rw [h5]
def RWPost (B R : Nat) (least most bits : Int) (AA : Option Addr) (ac : Nat) (la lb : List UInt8) (told : Nat) (w : World) (e : Ending) (w' : World) : Prop :=
  ∃ (O : Option Addr) (oc : Nat) (ps : List Pc) (AA' : Option Addr) (ac' : Nat), e = .returned (.slice O ps.length oc) ∧ byP ps = (wrL least most bits 0 0 [] (la ++ lb)).1.drop told ∧ w'.ownsRow w.heap.size 32 1 (.slice O ps.length oc) ps.length (svs ps) ∧
    (∀ p, p ∈ ps → PcIn AA' (la ++ lb).length (la ++ lb) p) ∧ RC B R least most bits w' AA' ac' (la ++ lb) (wrL least most bits 0 0 [] (la ++ lb)).1.length ∧
    Fr (fun k => k = R ∨ some k = (Value.slice AA la.length ac).ownBlock) w w' ∧ (∀ g, (Value.slice AA' (la ++ lb).length ac').ownBlock = some g → (Value.slice AA la.length ac).ownBlock = some g ∨ w.heap.size ≤ g)
structure RWRel (pa : List Pc) (told : Nat) (w : World) (i : Nat) (O : Option Addr) (oc k : Nat) (ps : List Pc) (wr : World) : Prop where
  at_ : ps = (pa.drop told).take k
  row : wr.ownsRow w.heap.size 32 1 (.slice O k oc) k (svs ps)
  len : ps.length = k
  idx : i = told + k
  below : Below w.heap.size w wr
set_option maxHeartbeats 8000000 in
set_option maxRecDepth 100000 in
theorem RWrite_any (B R : Nat) (least most bits : Int) (AA : Option Addr) (ac : Nat) (la : List UInt8) (told : Nat) (A : Option Addr) (m c : Nat) (lb : List UInt8) (w : World) (h : RC B R least most bits w AA ac la told) (hI : In w A m lb) (hok : CutsOk least most bits)
    (hsz : la.length + m ≤ 17179869184) (htl : told ≤ (wrL least most bits 0 0 [] (la ++ lb)).1.length) :
    Calls Try.prog 15 #[.pointer (some ⟨R, 0, none⟩), .slice A m c] w (RWPost B R least most bits AA ac la lb told w) := by
  obtain ⟨i0, hi0, hz0, hz1, hz2⟩ := info_parts infou8
  obtain ⟨j0, hj0, jz0, jz1, jz2⟩ := info_parts infosl
  have hlb : lb.length = m := hI.len
  have hB : B ≤ w.heap.size := by have := h.le; have := h.blk.lt; omega
  obtain ⟨la2, hla2⟩ : ∃ x, la ++ lb = x := ⟨_, rfl⟩
  have hl2 : la2.length = la.length + m := by rw [← hla2, List.length_append, hlb]
  obtain ⟨lf, hw1, hP, hall, hlf⟩ := piecesL_parts least most bits hok la2
  unfold RWPost
  rw [hla2] at htl ⊢
  obtain ⟨W1, hW1⟩ : ∃ x, (wrL least most bits 0 0 [] la2).1 = x := ⟨_, rfl⟩
  rw [hW1] at hw1 hP hall htl ⊢
  have hR3 : w.cell? ⟨R, 3, none⟩ = some (.slice AA la.length ac) := h.five.2.2.2.1
  have hf3 := h.blk.frozen 3
  have hWl : W1.length ≤ la2.length := by rw [← hW1]; exact (wrL_bd least most bits la2 0 0 []).2.2
  rw [hl2] at hWl
  obtain ⟨N, hN⟩ : ∃ x, la.length = x := ⟨_, rfl⟩
  have H := Lib.hid h
  have HI := Lib.hid hI
  have Hok := Lib.hid hok
  have HP := Lib.hid hP
  have Hall := Lib.hid hall
  have Hlf := Lib.hid hlf
  have Hl2 := Lib.hid hl2
  have HN := Lib.hid hN
  have Hla2 := Lib.hid hla2
  rw [hN] at hR3 hsz hWl
  clear h hI hok hla2 hw1 hP hall hlf hl2 hlb hN hW1
  go_enter Try.func15, Try.ntmps15
  go_upto_region 2 with (at_builtin; refine wpList_append_rd (w := w) rfl (.tmp 13) (.tmp 14) 32 rfl B 5 i0 _ 1 1 Try.underlying32 hi0 hz0 hz1 hz2 rfl (by decide) (.slice AA N ac) N (bys la) rfl (by have := H.out.own; rw [HN.out] at this; exact this) A m c (bys lb) rfl HI.out.1 (bys_one _) (by simp only [maxLen]; omega) (by omega) hB ?_; intro AA' ac' w1 hown1 hg1 hat1; have Hown1 := Lib.hid hown1; have Hg1 := Lib.hid hg1; have Hat1 := Lib.hid hat1; have HX1 := Lib.hid (H.out.blk.same (hg1.block R H.out.blk.lt (by rw [← HN.out]; exact own_ne H.out.own H.out.blk (by decide)))); have x3 : w1.cell? ⟨R, 3, none⟩ = some (.slice AA la.length ac) := HX1.out.cell 3; have y3 := HX1.out.frozen 3; clear hown1 hg1 hat1)
  obtain ⟨w2, hw2⟩ : ∃ w2, w1.setCell ⟨R, 3, none⟩ (.slice AA' (N + m) ac') = w2 := ⟨_, rfl⟩
  have HX2 : Hid (Blk w2 R 34 #[.int .i64 least, .int .i64 most, .int .i64 bits, .slice AA' (N + m) ac', .int .i64 (told : Int)]) := by
    rw [← hw2]
    exact HX1.out.set_ 3 _
  have hlen2 : la2.length = N + m := by rw [Hl2.out, HN.out]
  have HO2 : Hid (w2.ownsRow B 5 1 (.slice AA' (N + m) ac') (N + m) (bys la2)) := by
    rw [← hw2, ← Hla2.out, bys_append]
    exact own_far Hown1.out (p := ⟨R, 3, none⟩) (own_ne Hown1.out HX1.out (by decide)) _
  have HI2 : Hid (In w2 AA' (N + m) la2) := In.of_own HO2.out (by omega)
  have hac : N + m ≤ ac' := own_le HO2.out
  have HF2 : Hid (Fr (fun k => k = R ∨ some k = (Value.slice AA N ac).ownBlock) w w2) := by
    rw [← hw2]
    exact ((Fr.refl _ w).grown Hg1.out (fun g hg => .inl (.inr hg.symm))).setCell (p := ⟨R, 3, none⟩) (.inl (.inl rfl)) _
  have Hat : Hid (∀ g, (Value.slice AA' (N + m) ac').ownBlock = some g → (Value.slice AA N ac).ownBlock = some g ∨ w.heap.size ≤ g) := fun g hg => by
    rcases Hat1.out with h | h
    · exact .inl (h.symm.trans hg)
    · right
      have h3 := hg.symm.trans h
      injection h3 with h3
      omega
  have HLe : Hid (B ≤ R) := H.out.le
  have Hlen2 := Lib.hid hlen2
  rw [hw2]
  clear hw2 HX1 Hown1 Hg1 Hat1 H HI x3 y3 hR3 hf3 hlen2
  obtain ⟨x0, x1, x2, x3, x4⟩ := HX2.out.five
  have HRP := Lib.hid (fun (W : World) (hW : Below w2.heap.size w2 W) => RPieces_any AA' (N + m) ac' la2 least most bits W (HI2.out.below hW) hac (by omega) Hok.out)
  go_cut [5] (fun s5 wy => ∃ (O : Option Addr) (oc : Nat) (pa : List Pc), s5 = .slice O pa.length oc ∧ Hid (byP pa = piecesL least most bits la2 ∧ wy.ownsRow w2.heap.size 32 1 (.slice O pa.length oc) pa.length (svs pa) ∧ (∀ p, p ∈ pa → PcIn AA' (N + m) la2 p) ∧ Below w2.heap.size w2 wy))
  case first => as_aux_lemma =>
    --<A1
    go_region_with (go_at_call 29; refine (HRP.out _ (by first | (with_reducible exact (Below.refl _ _)) | (with_reducible exact (Below.refl _ _).drew))).mono ?_; rintro en wp ⟨O, oc, pa, rfl, hpa1, hpa2, hpa3, hbp1⟩; have hbp : Below w2.heap.size w2 wp := bup (by first | (with_reducible exact (Below.refl _ _)) | (with_reducible exact (Below.refl _ _).drew)) hbp1)
    all_goals go_wp2_with fail
    all_goals go_meet
    all_goals exact ⟨O, oc, pa, rfl, hpa1, hpa2, hpa3, hbp⟩
    --A1>
  case rest => as_aux_lemma =>
    obtain ⟨O, oc, pa, rfl, Hc⟩ := hcut
    obtain ⟨w3, rfl⟩ : ∃ w3 : World, w3 = wc := ⟨_, rfl⟩
    clear x0 x1 x2 x3 x4
    obtain ⟨q, hq⟩ : ∃ q, pa.length = q := ⟨_, rfl⟩
    have Hq := Lib.hid hq
    have hqW : (piecesL least most bits la2).length = q := by rw [← Hc.out.1, ← hq]; simp [byP]
    rw [HP.out, List.length_append] at hqW
    obtain ⟨wh, hwh⟩ : ∃ wh, W1.length = wh := ⟨_, rfl⟩
    have HqW : Hid (wh + (if lf = [] then 0 else 1) = q) := by
      rw [← hqW, hwh]
      show _ = _
      split <;> simp
    have Hwh := Lib.hid hwh
    rw [hwh] at htl
    have hwq : wh ≤ q ∧ q ≤ 17179869185 := by
      have := HqW.out
      rw [← hwh]
      split at this <;> omega
    rw [hq]
    clear hq hqW hwh hWl
    have hwql : W1.length = wh := Hwh.out
    have HO3 : Hid (w3.ownsRow w2.heap.size 32 1 (.slice O q oc) q (svs pa)) := by have := Hc.out.2.1; rw [Hq.out] at this; exact this
    have hqoc := own_le HO3.out
    obtain ⟨x0, x1, x2, x3, x4⟩ := (HX2.out.below Hc.out.2.2.2).five
    clear hwql
    obtain ⟨b, HB⟩ : ∃ b : Bool, Hid ((b = true → lf ≠ []) ∧ (b = false → lf = [])) := ⟨decide (lf ≠ []), by intro h; simpa using h, by intro h; simpa using h⟩
    go_upto_region 4 with (fail)
    go_cut [43] (fun s43 wy => s43 = .bool b ∧ Hid (Below w3.heap.size w3 wy))
    case first => as_aux_lemma =>
      by_cases hq0 : q = 0
      · obtain rfl : b = false := by
          have := HqW.out
          cases b
          · rfl
          · rw [if_neg (HB.out.1 rfl)] at this
            omega
        subst hq0
        go_wp2_with fail
        go_quiet (fail)
        go_wp2_with fail
        go_meet
        exact ⟨rfl, below_drewN (Below.refl _ _) _⟩
      · obtain ⟨f, hf⟩ : ∃ f, q = f + 1 := ⟨q - 1, by omega⟩
        have hq1 : (0 : Int) < (q : Int) := by omega
        have hq2 : decide ((0 : Int) < (q : Int)) = true := decide_eq_true hq1
        have hq4 : 0 < q := by omega
        have hq5 : decide (0 < q) = true := decide_eq_true hq4
        have hq3 : IntKind.i64.wrap ((q : Int) - 1) = (f : Int) := by rw [show (q : Int) - 1 = (f : Int) by omega]; exact IntWalk.i64_in _ (by omega)
        have hfq : f < q ∧ f ≤ oc ∧ (f : Int) < (q : Int) ∧ f ≤ q := by omega
        obtain ⟨p, hp⟩ : ∃ p, pa[f]? = some p := ⟨_, List.getElem?_eq_getElem (by rw [Hq.out]; omega)⟩
        have hpE : endsR least most bits p.2.2 = decide (lf = []) := by
          have h1 : (byP pa)[f]? = some p.2.2 := by simp [byP, hp]
          rw [Hc.out.1, HP.out] at h1
          have h2 := HqW.out
          by_cases hl : lf = []
          · rw [if_pos hl] at h2
            rw [List.getElem?_append_left (by rw [Hwh.out]; omega)] at h1
            rw [Hall.out _ (List.mem_of_getElem? h1), decide_eq_true hl]
          · rw [if_neg hl] at h2
            rw [List.getElem?_append_right (by rw [Hwh.out]; omega), if_neg hl, show f - W1.length = 0 by rw [Hwh.out]; omega] at h1
            simp at h1
            rw [← h1, Hlf.out hl, decide_eq_false hl]
        rw [show decide (lf = []) = !b by
          cases b
          · simp [HB.out.2 rfl]
          · simp [HB.out.1 rfl]] at hpE
        have hin := (Hc.out.2.2.1 p (List.mem_of_getElem? hp)).1 w3 (HI2.out.below Hc.out.2.2.2)
        have HRE := Lib.hid (fun (W : World) (hW : Below w3.heap.size w3 W) => Rends_any least most bits p.1 p.2.2.length p.2.1 p.2.2 W (hin.below hW) Hok.out)
        rw [hpE] at HRE
        obtain ⟨g, cap, hv, _, _⟩ := HO3.out.form hq4
        injection hv with hO _ hcap
        subst hO
        subst hcap
        have z1 := HO3.out.cellAt f (by omega)
        rw [svs_at hp] at z1
        obtain ⟨pA, pc, pl⟩ := p
        simp only [] at z1 HRE
        have HC3 : Hid (∀ W : World, Below w3.heap.size w3 W → W.cell? ⟨R, 0, none⟩ = some (.int .i64 least) ∧ W.cell? ⟨R, 1, none⟩ = some (.int .i64 most) ∧ W.cell? ⟨R, 2, none⟩ = some (.int .i64 bits) ∧ W.cell? ⟨g, f, none⟩ = some (.slice pA pl.length pc)) := fun W hW => ⟨(HX2.out.below (bup Hc.out.2.2.2 hW)).cell 0, (HX2.out.below (bup Hc.out.2.2.2 hW)).cell 1, (HX2.out.below (bup Hc.out.2.2.2 hW)).cell 2, (hW.cell (p := ⟨g, f, none⟩) (own_lt HO3.out rfl).2).trans z1⟩
        clear hp hpE hin hf
        have hnn : (!(!b)) = b := Bool.not_not b
        --<A2
        go_region_held3 (fun w' => w'.cell? ⟨R, 0, none⟩ = some (.int .i64 least) ∧ w'.cell? ⟨R, 1, none⟩ = some (.int .i64 most) ∧ w'.cell? ⟨R, 2, none⟩ = some (.int .i64 bits) ∧ w'.cell? ⟨g, f, none⟩ = some (.slice pA pl.length pc))
          (first | (with_reducible exact ⟨x0, x1, x2, z1⟩) | (with_reducible exact ⟨p0, p1, p2, p3⟩) | go_keep)
          ((go_at_call 31; refine (HRE.out _ (by first | (with_reducible exact (Below.refl _ _)) | (with_reducible exact (Below.refl _ _).drew))).mono ?_; rintro en wp ⟨rfl, hbp1⟩; have hbp : Below w3.heap.size w3 wp := bup (by first | (with_reducible exact (Below.refl _ _)) | (with_reducible exact (Below.refl _ _).drew)) hbp1; obtain ⟨p0, p1, p2, p3⟩ := HC3.out wp hbp))
        all_goals go_wp2_with fail
        all_goals go_meet
        all_goals exact ⟨rfl, hbp⟩
        --A2>
    case rest => as_aux_lemma =>
      obtain ⟨rfl, Hb4⟩ := hcut
      obtain ⟨w4, rfl⟩ : ∃ w4 : World, w4 = wc := ⟨_, rfl⟩
      go_upto_if 43 with (fail)
      go_cut [6] (fun s6 wy => s6 = .int .i64 (wh : Int) ∧ w4 = wy)
      case first => as_aux_lemma =>
        cases b
        · have hqw : q = wh := by have := HqW.out; rw [if_pos (HB.out.2 rfl)] at this; omega
          subst hqw
          go_wp2_with fail
          go_meet
          exact ⟨rfl, rfl⟩
        · have hqw : q = wh + 1 := by have := HqW.out; rw [if_neg (HB.out.1 rfl)] at this; omega
          subst hqw
          go_wp2_with fail
          go_meet
          exact ⟨by go_num, rfl⟩
      case rest => as_aux_lemma =>
        obtain ⟨rfl, rfl⟩ := hcut
        have Hb34 : Hid (Below w2.heap.size w2 w4) := bup Hc.out.2.2.2 Hb4.out
        have HX4 := Lib.hid (HX2.out.below Hb34.out)
        have HO4 := Lib.hid (own_below HO3.out Hb4.out)
        clear x0 x1 x2 x3 x4
        obtain ⟨x0, x1, x2, x3, x4⟩ := HX4.out.five
        go_wp2_with fail
        have H0 : Hid (RWRel pa told w4 told none 0 0 [] w4) := ⟨by rw [List.take_zero], World.ownsRow_nil _ _ _ _, rfl, rfl, Below.refl _ _⟩
        clear x0 x1 x2 x3 x4
        go_loopw [7, 8] (fun s7 s8 wr => ∃ (i oc' k : Nat) (O' : Option Addr) (ps : List Pc), s7 = .slice O' k oc' ∧ s8 = .int .i64 (i : Int) ∧ i ≤ wh ∧ Hid (RWRel pa told w4 i O' oc' k ps wr)) (fun _ s8 _ => wh - (intOf s8).toNat)
        case atStart => exact ⟨told, 0, 0, none, [], rfl, rfl, htl, H0⟩
        case round => as_aux_lemma =>
          clear H0
          obtain ⟨i, oc', k, O', ps, rfl, rfl, hi, H⟩ := hrel
          by_cases hlt : i < wh
          · have hlt' : (i : Int) < (wh : Int) := by omega
            obtain ⟨p, hp⟩ : ∃ p, pa[i]? = some p := ⟨_, List.getElem?_eq_getElem (by rw [Hq.out]; omega)⟩
            have hO5 := own_below HO4.out H.out.below
            obtain ⟨g, cap, hv, _, _⟩ := hO5.form (by omega)
            injection hv with hO _ hcap
            subst hO
            subst hcap
            have z1 := hO5.cellAt i (by omega)
            rw [svs_at hp] at z1
            have hio : i < q ∧ i ≤ oc ∧ (i : Int) < (q : Int) := by omega
            have Hgl := Lib.hid ((own_lt HO4.out (g := g) rfl).2)
            have Hp := Lib.hid hp
            have Hsz := Lib.hid H.out.below.size
            have hik : i = told + k := H.out.idx
            have hk : k ≤ 17179869185 := by omega
            obtain ⟨pA, pc, pl⟩ := p
            simp only [] at z1
            have Hik := Lib.hid hik
            clear hO5 hp hik
            go_wp2_with (at_builtin; refine wpList_append_rd (w := wr.alloc (.cells #[.slice pA pl.length pc] 32)) rfl (.tmp 55) (.tmp 60) 41 rfl w4.heap.size 32 j0 _ 1 24 Try.underlying41 hj0 jz0 jz1 jz2 rfl (by decide) (.slice O' k oc') k (svs ps) rfl (H.out.row.alloc _) (some ⟨wr.heap.size, 0, none⟩) 1 1 (svs [(pA, pc, pl)]) rfl ⟨rfl, fun _ => ⟨_, rfl, World.news_of_block (heap_alloc_new wr _)⟩⟩ (svs_one _) (by simp only [maxLen]; omega) (by omega) (by have := Hsz.out; simp; omega) ?_; intro O3 oc3 w5 hown3 hg3 hat3; have Hown3 := Lib.hid hown3; have Hg3 := Lib.hid hg3; clear hown3 hg3 hat3)
            go_roundw
            case rel =>
              refine ⟨i + 1, oc3, k + 1, O3, ps ++ [(pA, pc, pl)], rfl, by go_num, by omega, ⟨?_, ?_, ?_, ?_, ?_⟩⟩
              · rw [List.take_add_one, List.getElem?_drop, ← Hik.out, Hp.out, ← H.out.at_]; rfl
              · rw [svs_append]; exact Hown3.out
              · rw [List.length_append, H.out.len]; rfl
              · rw [Hik.out]; omega
              · exact (bmk_ H.out.below _).grown Hg3.out (by have := Hsz.out; simp; omega) (fun g hg => (own_lt H.out.row hg).1)
            case measure => simp [intOf]; omega
          · have hlt' : decide ((i : Int) < (wh : Int)) = false := decide_eq_false (by omega)
            have hiw : i = wh := by omega
            have Hiw := Lib.hid hiw
            have HX5 := Lib.hid (HX4.out.below H.out.below)
            obtain ⟨x0, x1, x2, x3, x4⟩ := HX5.out.five
            have f4 := HX5.out.frozen 4
            clear hiw
            go_wp2_with fail
            go_ret
            have hb5 := bup Hb34.out H.out.below
            have hrow := H.out.row
            have hlen := H.out.len
            have hN2 := Hlen2.out
            have HR5 : Blk (wr.setCell ⟨R, 4, none⟩ (.int .i64 (wh : Int))) R 34 #[.int .i64 least, .int .i64 most, .int .i64 bits, .slice AA' (N + m) ac', .int .i64 (wh : Int)] := HX5.out.set_ 4 _
            have hs1 := HF2.out.size
            have hs2 := Hb34.out.size
            refine ⟨O', oc', ps, AA', ac', by show Ending.returned (.slice O' k oc') = _; rw [hlen], ?_, ?_, ?_, ⟨?_, ?_, HLe.out⟩, ?_, ?_⟩
            · have h1 := H.out.at_
              have h2 := H.out.idx
              have h3 : byP ps = ((byP pa).drop told).take k := by rw [h1]; simp [byP, List.map_take, List.map_drop]
              rw [h3, Hc.out.1, HP.out, List.drop_append_of_le_length (by rw [Hwh.out]; exact htl)]
              exact List.take_left' (by rw [List.length_drop, Hwh.out, ← Hiw.out]; omega)
            · rw [hlen]
              exact own_mono (own_far hrow (p := ⟨R, 4, none⟩) (own_ne hrow HX5.out (by decide)) _) (by omega)
            · intro p hp
              rw [H.out.at_] at hp
              rw [hN2]
              exact Hc.out.2.2.1 p (List.mem_of_mem_drop (List.mem_of_mem_take hp))
            · rw [hN2, Hwh.out]
              exact HR5
            · have h1 := own_below HO2.out hb5
              rw [hN2]
              exact own_far h1 (p := ⟨R, 4, none⟩) (own_ne h1 HX5.out (by decide)) _
            · rw [HN.out]
              exact (HF2.out.trans' (Fr.of_below (S := fun _ => False) hb5) (fun _ _ e => e.elim)).setCell (p := ⟨R, 4, none⟩) (.inl (.inl rfl)) _
            · rw [hN2, HN.out]
              exact Hat.out
end Go.Proofs.Ytglkahonejblpaa
