/-
  The iterator of the matches, walked. Conditions: the finder lies in memory, and no round changes its parts but the place.
-/
import Derived.Test.YthlflcnpmabmbaaDoorFiIter
namespace Go.Proofs.YthlflcnpmabmbaaDoor
open Go.RowKit Go.Shelf
attribute [local go_sem] Oper.semAt_some
set_option maxRecDepth 100000

def mV (m : Nat × Nat) : Value := .agg #[.int .i64 (m.1 : Int), .int .i64 (m.2 : Int)]
set_option maxHeartbeats 4000000 in
theorem matches1_lv (n : Nat) (lp fx mx : Nat) (most : Int) (p : FP) (pos : Nat) (J : Nat → World → Prop) (Jx : World → Prop) (W0 : World) (hF : Fi p pos W0) (hfx : Blk W0 fx 64 #[.pointer (some ⟨p.fb, 0, none⟩)]) (hmx : Blk W0 mx 3 #[.int .i64 most])
    (hpos : pos ≤ p.l.length) (hl : p.l.length ≤ 1073741824) (hd : 1 ≤ p.dict ∧ p.dict ≤ 4294967295) (h0 : J 0 W0) (hJf : ∀ k W W', J k W → Fr (fun _ => False) W W' → J k W')
    (hJF : ∀ k W, J k W → (∃ pos', Fi p pos' W) ∧ Blk W fx 64 #[.pointer (some ⟨p.fb, 0, none⟩)])
    (hY : ∀ k m W, J k W → (mats p.l p.dict pos most)[k]? = some m → YieldAt Fence.wide (n - 1) Tryd.prog lp #[mV m] W fun e W' => (e = .returned (.bool true) ∧ J (k + 1) W') ∨ (e = .returned (.bool false) ∧ Jx W')) :
    CallsIn Fence.wide n Tryd.prog 73 #[.func (.yield lp) #[] #[], .pointer (some ⟨fx, 0, none⟩), .pointer (some ⟨mx, 0, none⟩)] W0 fun e W' => (∃ v, e = .returned v) ∧ (J (mats p.l p.dict pos most).length W' ∨ Jx W') := by
  obtain ⟨N, hN⟩ : ∃ N, (mats p.l p.dict pos most).length = N := ⟨_, rfl⟩
  rw [hN]
  have HN := Lib.hid hN
  clear hN
  refine callsIn_wide.2 ?_
  have HF := Lib.hid hF
  have HJf := Lib.hid hJf
  have HJF := Lib.hid hJF
  have HY := Lib.hid hY
  have H0 := Lib.hid h0
  have x0 : W0.cell? ⟨fx, 0, none⟩ = some (.pointer (some ⟨p.fb, 0, none⟩)) := hfx.one
  have x1 : W0.cell? ⟨mx, 0, none⟩ = some (.int .i64 most) := hmx.one
  have b0 : W0.cell? ⟨p.fb, 0, none⟩ = some (.slice p.O p.l.length p.oc) := hF.b.cell 0
  have b1 : W0.cell? ⟨p.fb, 1, none⟩ = some (.int .i64 p.dict) := hF.b.cell 1
  have b2 : W0.cell? ⟨p.fb, 2, none⟩ = some (.int .i64 pos) := hF.b.cell 2
  have b3 : W0.cell? ⟨p.fb, 3, none⟩ = some (.map (some p.mb)) := hF.b.cell 3
  have hcap := hF.cap
  clear hF hJf hJF hY h0 hfx hmx
  go_enter Tryd.func73, Tryd.ntmps73
  go_wp2_with fail
  go_quiet (fail)
  generalize hz : (if (p.l.length : Int) - (pos : Int) < (if 273 < most then 273 else most) then (p.l.length : Int) - (pos : Int) else if 273 < most then 273 else most) = z
  have hz1 : z < 3 → lft p.l pos most < 3 := fun h => by
    unfold lft
    split at hz <;> split at hz <;> omega
  have hz2 : ¬ z < 3 → z = (lft p.l pos most : Nat) := fun h => by
    unfold lft
    split at hz <;> split at hz <;> omega
  have Hz := Lib.hid hz
  clear hz
  by_cases h3 : z < 3
  · have hN : N = 0 := by rw [← HN.out]; unfold mats; rw [if_pos (hz1 h3)]; rfl
    subst hN
    clear hz1 hz2
    go_wp2_with fail
    refine bodyPost_ret (v := .tuple #[]) (by simp [results, Tryd.results73, go_sem]) rfl ?_
    refine ⟨⟨_, rfl⟩, .inl ?_⟩
    exact HJf.out _ _ _ H0.out ((Fr.refl _ _).drewN _)
  · obtain rfl := hz2 h3
    have hM : mats p.l p.dict pos most = (cand p.l p.dict pos).map (fun q => (ext p.l q pos (lft p.l pos most), pos - q)) := by unfold mats; rw [if_neg (by omega)]
    rw [hM] at HY HN
    have HM := Lib.hid hM
    obtain ⟨zl, hzl⟩ : ∃ zl, lft p.l pos most = zl := ⟨_, rfl⟩
    have hzl1 : pos + zl ≤ p.l.length ∧ zl ≤ 273 := by unfold lft at hzl; omega
    rw [hzl] at HY HN h3 ⊢
    have Hzl := Lib.hid hzl
    have h3 : 3 ≤ zl := by omega
    clear hM hzl hz1 hz2
    obtain ⟨ad, hA, c0, c1, c2⟩ := word_cells (k := pos) HF.out.d (by omega)
    rw [hA] at b0
    obtain ⟨x, hx⟩ : ∃ x, (wordAt p.l pos).1 = x := ⟨_, rfl⟩
    obtain ⟨y, hy⟩ : ∃ y, (wordAt p.l pos).2.1 = y := ⟨_, rfl⟩
    obtain ⟨u, hu⟩ : ∃ u, (wordAt p.l pos).2.2 = u := ⟨_, rfl⟩
    rw [hx] at c0
    rw [hy] at c1
    rw [hu] at c2
    have hw3 : wordAt p.l pos = (x, y, u) := by rw [← hx, ← hy, ← hu]
    clear hx hy hu
    have Hw3 := Lib.hid hw3
    clear hw3
    obtain ⟨D, hD, hGD⟩ := HF.out.m
    obtain ⟨v, zs, hlk0, hat0, hov, hvb⟩ := groups_look hD (Maps.Keyed.of_law keyLaw) Tryd.underlying100 zero39 (keyOf_tri x y u) HF.out.sh
    have hzs := gd_at (t := (x, y, u)) hGD hat0 hov
    obtain ⟨va, vc, rfl⟩ := own_slice hov.1
    obtain ⟨ps, hps⟩ : ∃ ps, plc p.l (p.l.length - 2) (x, y, u) = ps := ⟨_, rfl⟩
    rw [hps] at hzs
    have hzl2 : zs.length = ps.length := by rw [hzs]; unfold ofN; simp
    rw [hzl2] at hlk0 hov hvb
    rw [hzs] at hov
    have hlk : ∀ a, (Instr.lookup 100 (.map (some p.mb)) (.agg #[.int .u8 (x.toNat : Int), .int .u8 (y.toNat : Int), .int .u8 (u.toNat : Int)]) false).run Tryd.prog (W0.drewN a) = .ok (.slice va ps.length vc) (W0.drewN a) := fun a => hlk0 _ rfl
    have hsd : ps.Pairwise (· < ·) := by rw [← hps]; exact plc_sorted _ _ _
    have hpl : ps.length ≤ 1073741824 := by rw [← hps]; exact Nat.le_trans (plc_length _ _ _) (by omega)
    have HSI : Hid (∀ a, Calls Tryd.prog 74 #[.slice va ps.length vc, .int .i64 pos] (W0.drewN a) fun e w' => e = .returned (.int .i64 ((ps.filter (fun q => decide (q < pos))).length : Nat)) ∧ Below W0.heap.size (W0.drewN a) w') := fun a => SInts_plc (w := W0.drewN a) hov hsd (by omega)
    have hcL : candL p.l pos = ps.filter (fun q => decide (q < pos)) := by unfold candL; rw [Hw3.out, hps]
    rw [← hcL] at HSI
    have htk := candL_take p.l pos
    rw [Hw3.out, hps] at htk
    obtain ⟨cL, hcl⟩ : ∃ cL, candL p.l pos = cL := ⟨_, rfl⟩
    rw [hcl] at HSI htk
    obtain ⟨c, hc⟩ : ∃ c, cL.length = c := ⟨_, rfl⟩
    rw [hc] at HSI htk
    have hcps : c ≤ ps.length := by rw [← hc, ← hcl, hcL]; exact List.length_filter_le _ _
    have hpv : ps.length ≤ vc := own_le (by have := hov.1; unfold ofN at this; rw [List.length_map] at this; exact this)
    have hkl : pos ≤ p.oc ∧ p.l.length ≤ p.oc := by omega
    have hat : ∀ w, (Instr.arrayAt 104 (.slice (some (ad.add pos)) (p.l.length - pos) (p.oc - pos))).run Tryd.prog w = .ok (.pointer (some (ad.add pos))) w := fun w => run_arrayAt w 104 5 3 (some (ad.add pos)) (p.l.length - pos) (p.oc - pos) Tryd.underlying104 (by omega)
    have hne : ¬ p.oc = pos := by omega
    have Hcl := Lib.hid hcl
    have Hc := Lib.hid hc
    have Htk := Lib.hid htk
    have Hov := Lib.hid hov
    have Hvb := Lib.hid hvb
    have hcv : c ≤ vc := by omega
    clear hD hGD hat0 hzs hps hzl2 hcL hcl hc htk hov hvb hlk0 hsd
    go_wp2_with fail
    go_quiet (fail)
    go_wp2_with fail
    refine (HSI.out _).mono ?_
    rintro e w1 ⟨rfl, hb1⟩
    have HJ1 : Hid (J 0 w1) := HJf.out _ _ _ H0.out ((Fr.of_below (⟨hb1.os, hb1.tape, hb1.output, hb1.size, hb1.block⟩ : Below W0.heap.size W0 w1)))
    clear hb1 HSI
    go_wp2_with fail
    have HN2 : Hid ((cand p.l p.dict pos).length = N) := by have := HN.out; rw [List.length_map] at this; exact this
    have hcle := cand_le p.l p.dict pos
    rw [HN2.out, Hcl.out, Hc.out] at hcle
    obtain ⟨hN32, hNc⟩ := hcle
    clear HN
    have hc30 : c ≤ 1073741824 := by omega
    have hw32 : IntKind.i64.wrap ((c : Int) - 32) = (c : Int) - 32 := IntWalk.i64_in _ (by omega)
    go_loopw [7] (fun s7 wr => ∃ j : Nat, s7 = .int .i64 ((c : Int) - 1 - (j : Int)) ∧ j ≤ N ∧ Hid (J j wr)) (fun s7 _ => (intOf s7 + 1).toNat)
    case atStart => exact ⟨0, by simp, Nat.zero_le _, HJ1.out⟩
    case round =>
      clear HJ1
      obtain ⟨j, rfl, hj, HJ⟩ := hrel
      obtain ⟨⟨pos', hF'⟩, hfx'⟩ := HJF.out _ _ HJ.out
      have y0 : wr.cell? ⟨fx, 0, none⟩ = some (.pointer (some ⟨p.fb, 0, none⟩)) := hfx'.one
      have y1 : wr.cell? ⟨p.fb, 1, none⟩ = some (.int .i64 p.dict) := hF'.b.cell 1
      have HF' := Lib.hid hF'
      have Hfx' := Lib.hid hfx'
      clear hF' hfx'
      have HC : Hid (∀ i q : Nat, i < c → cL[i]? = some q → ∃ g, va = some ⟨g, 0, none⟩ ∧ wr.cell? ⟨g, i, none⟩ = some (.int .i64 (q : Int))) := fun i q hic hq1 => by
        rcases Hov.out.1.2 with ⟨_, h0⟩ | ⟨g, cap, cur, hv, hg1, hgg, hn, hcc, hs2, hx⟩
        · unfold ofN at h0; rw [List.length_map] at h0; omega
        · injection hv with e1 e2 e3
          refine ⟨g, e1, ?_⟩
          subst e1
          have hP : FinP p g := Classical.byContradiction fun hn => Hvb.out g rfl hn
          have ho := own_same (w' := wr) Hov.out.1 (fun g' hg' => by
            have : g = g' := by simpa [Value.ownBlock] using hg'
            subst this
            exact (HF'.out.st g hP).trans (HF.out.st g hP).symm)
          have hl : (ofN ps).length = ps.length := by unfold ofN; simp
          rw [hl] at ho
          have := ho.cellAt (g := g) (cap := vc) i (by omega)
          rw [this]
          have hps : ps[i]? = some q := by
            rw [← Htk.out, List.getElem?_take, if_pos hic] at hq1
            exact hq1
          have hil : i < ps.length := by omega
          rw [List.getElem?_eq_getElem hil] at hps
          simp [ofN, hil, Option.some.inj hps]
      have HQ : Hid (∀ i q : Nat, cL[i]? = some q → q < pos) := fun i q hq => by
        have : q ∈ candL p.l pos := by rw [Hcl.out]; exact List.mem_of_getElem? hq
        exact (candL_mem.1 this).2.2
      by_cases hlt : j < N
      · obtain ⟨q, hq1, hq2, hq3⟩ := cand_at (l := p.l) (dict := p.dict) (p := pos) (by rw [HN2.out]; exact hlt)
        rw [Hcl.out, Hc.out] at hq1
        obtain ⟨i, hi⟩ : ∃ i, c - 1 - j = i := ⟨_, rfl⟩
        rw [hi] at hq1
        have hij : (c : Int) - 1 - (j : Int) = (i : Int) := by omega
        rw [hij]
        have hij32 : ¬ (32 < c ∧ i < c - 32) := by omega
        have hic : i < c := by omega
        have hcell := HC.out i q hic hq1
        obtain ⟨g, rfl, z0⟩ := hcell
        have hqp : q < pos := HQ.out i q hq1
        have Hij : Hid (i + 1 + j = c) := by show i + 1 + j = c; omega
        have Hq2 := Lib.hid hq2
        clear hq1 hq2 hij hi
        have hwq : (pos : Int) - (q : Int) ≤ p.dict := hq3
        go_wp2_with fail
        have hb32 : decide (max (0 : Int) ((c : Int) - 32) ≤ (i : Int)) = true := decide_eq_true (by omega)
        go_quiet (fail)
        go_wp2_with fail
        obtain ⟨W8, hW8⟩ : ∃ W8, wr.drewN nq = W8 := ⟨_, rfl⟩
        rw [hW8]
        have t0 : W8.cell? ⟨fx, 0, none⟩ = some (.pointer (some ⟨p.fb, 0, none⟩)) := by rw [← hW8]; exact y0
        have t1 : W8.cell? ⟨g, i, none⟩ = some (.int .i64 (q : Int)) := by rw [← hW8]; exact z0
        have hF8 : Fi p pos' W8 := by rw [← hW8]; exact HF'.out.keep (fun g _ _ => rfl) (Nat.le_refl _)
        have hJ8 : J j W8 := by rw [← hW8]; exact HJf.out _ _ _ HJ.out ((Fr.refl _ _).drewN _)
        have HL : Hid (∀ Wz, Below W8.heap.size W8 Wz → Calls Tryd.prog 75 #[.pointer (some ⟨p.fb, 0, none⟩), .int .i64 q, .int .i64 pos, .int .i64 zl] Wz fun e w' => e = .returned (.int .i64 (ext p.l q pos zl)) ∧ Below W8.heap.size W8 w') := fun Wz hz => by
          refine (long_any p pos' q pos zl Wz (hF8.below hz) (by omega) hzl1.1 hl).mono ?_
          rintro e w' ⟨h1, k, rfl⟩
          exact ⟨h1, below_drewN hz k⟩
        have HYY : Hid (∀ W4, Below W8.heap.size W8 W4 → YieldAt Fence.wide (n - 1) Tryd.prog lp #[.agg #[.int .i64 (ext p.l q pos zl : Nat), .int .i64 ((pos : Int) - (q : Int))]] W4 fun e W' => ∃ b : Bool, e = .returned (.bool b) ∧ Hid ((b = true → J (j + 1) W') ∧ (b = false → Jx W'))) := fun W4 h4 => by
          have hv : mV (ext p.l q pos zl, pos - q) = .agg #[.int .i64 (ext p.l q pos zl : Nat), .int .i64 ((pos : Int) - (q : Int))] := by
            unfold mV
            simp only []
            rw [show ((pos - q : Nat) : Int) = (pos : Int) - (q : Int) by omega]
          have := HY.out j (ext p.l q pos zl, pos - q) W4 (HJf.out _ _ _ hJ8 (Fr.of_below h4)) (by rw [List.getElem?_map, Hq2.out]; rfl)
          rw [hv] at this
          refine this.mono ?_
          rintro e W' (⟨h1, h2⟩ | ⟨h1, h2⟩)
          · exact ⟨true, h1, fun _ => h2, fun h => by cases h⟩
          · exact ⟨false, h1, (fun h => by cases h), fun _ => h2⟩
        clear hW8 hF8 hJ8 y0 y1 z0 HF' HJ Hfx'
        have hmix : Tryd.prog.follows Departure.mixedOrders = true := by kernel_rfl
        have hwpq : IntKind.i64.wrap ((pos : Int) - (q : Int)) = (pos : Int) - (q : Int) := IntWalk.i64_in _ (by omega)
        have hfl : fx < W8.heap.size := World.block_lt_of_cell? _ _ t0
        refine (wpIn_wide (n := n)).1 ?_
        gi_region_with_o (first | (refine ⟨trivial, (fun h => absurd h (by decide)), ?_⟩; gi_at_call 75; refine (callsIn_wide.2 (HL.out _ (by first | (with_reducible exact (Below.refl _ _)) | (with_reducible exact (Below.refl _ _).drew)))).mono ?_; rintro e' W4 ⟨rfl, hb4⟩; obtain ⟨fn, tmps, assign, body, hy, hR⟩ := HYY.out W4 hb4; have t4 : W4.cell? ⟨g, i, none⟩ = some (.int .i64 (q : Int)) := (hb4.cell (p := ⟨g, i, none⟩) (World.block_lt_of_cell? _ _ t1)).trans t1; have Hb4 := Lib.hid hb4; clear hb4) | (refine ⟨(fun h => absurd h (by decide)), ?_⟩; refine hR.mono ?_; rintro e' W5 ⟨b, rfl, hp⟩))
        all_goals cases b with
          | false =>
            have q1 := Lib.hid (hp.out.2 rfl)
            clear hp
            go_wp2_with fail
            refine bodyPost_ret (v := .tuple #[]) (by simp [results, Tryd.results73, go_sem]) rfl ?_
            exact ⟨⟨_, rfl⟩, .inr q1.out⟩
          | true =>
            have q1 := Lib.hid (hp.out.1 rfl)
            clear hp
            go_wp2_with fail
            go_roundw
            case rel => exact ⟨j + 1, by have h9 := Hij.out; simp; omega, by omega, q1⟩
            case measure => first | (simp [intOf]; done) | (simp [intOf]; omega)
      · obtain rfl : j = N := by omega
        have hend : J j (wr) := HJ.out
        have HE := Lib.hid hend
        clear hend HJ
        by_cases h32 : j < 32 ∧ j < c
        · obtain ⟨q, hq1, hq3⟩ := cand_stop (l := p.l) (dict := p.dict) (p := pos) (by rw [HN2.out]; exact h32.1) (by rw [HN2.out, Hcl.out, Hc.out]; exact h32.2)
          rw [HN2.out, Hcl.out, Hc.out] at hq1
          obtain ⟨i, hi⟩ : ∃ i, c - 1 - j = i := ⟨_, rfl⟩
          rw [hi] at hq1
          have hij : (c : Int) - 1 - (j : Int) = (i : Int) := by omega
          rw [hij]
          have hic : i < c := by omega
          obtain ⟨g, rfl, z0⟩ := HC.out i q hic hq1
          have hqp : q < pos := HQ.out i q hq1
          have hij32 : ¬ (32 < c ∧ i < c - 32) := by omega
          have HD : Hid (p.dict < (pos : Int) - (q : Int)) := hq3
          have hwpq : IntKind.i64.wrap ((pos : Int) - (q : Int)) = (pos : Int) - (q : Int) := IntWalk.i64_in _ (by omega)
          clear hq1 hij hi hq3 HQ HC
          go_wp2_with fail
          have hb32 : decide (max (0 : Int) ((c : Int) - 32) ≤ (i : Int)) = true := decide_eq_true (by omega)
          have hd : decide ((pos : Int) - (q : Int) ≤ p.dict) = false := decide_eq_false (by have := HD.out; omega)
          go_quiet (fail)
          go_wp2_with fail
          go_end0
          exact ⟨⟨_, rfl⟩, .inl (HJf.out _ _ _ HE.out ((Fr.refl _ _).drewN _))⟩
        · have HD : Hid (¬ max (0 : Int) ((c : Int) - 32) ≤ (c : Int) - 1 - (j : Int)) := by intro h; omega
          have hw1 : IntKind.i64.wrap ((c : Int) - 1 - (j : Int)) = (c : Int) - 1 - (j : Int) := IntWalk.i64_in _ (by omega)
          go_wp2_with fail
          have hd := decide_eq_false (show ¬ max (0 : Int) ((c : Int) - 32) ≤ (c : Int) - 1 - (j : Int) by omega)
          go_quiet (fail)
          go_wp2_with fail
          go_end0
          exact ⟨⟨_, rfl⟩, .inl (HJf.out _ _ _ HE.out ((Fr.refl _ _).drewN _))⟩
end Go.Proofs.YthlflcnpmabmbaaDoor
