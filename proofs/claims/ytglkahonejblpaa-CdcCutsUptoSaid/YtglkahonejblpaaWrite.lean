/-
  Walk of Write: the pieces that are whole now, and what is left. Conditions: the cutter, what is left and the bytes lie in memory, apart; legal cuts.
-/
import Derived.Test.YtglkahonejblpaaWrP
import Derived.Outline
namespace Go.Proofs.Ytglkahonejblpaa
open Go.RowKit

theorem infosl : (Try.prog.info? 32).map (fun i => (i.zero, i.size, i.bytes)) = some (some (.slice none 0 0), 1, 24) := by kernel_rfl
theorem eatGo_np (least most bits : Int) (l : List UInt8) : ∀ (i : Nat) (sum : Int) (n : Nat), (eatGo least most bits i sum n l).2.2.2 + i ≤ n + (eatGo least most bits i sum n l).1 := by
  induction l with
  | nil => intro i sum n; simp [eatGo]
  | cons z r ih =>
    intro i sum n
    rw [eatGo]
    split
    · simp; omega
    · have := ih (i + 1) (roll1 sum z) (n + 1)
      omega
/-- the pieces that become whole, the roll and what is left behind it -/
abbrev WR := List (List UInt8) × Int × Nat × List UInt8
def wrF (least most bits : Int) : Nat → Int → Nat → List UInt8 → List UInt8 → WR
  | 0, sum, n, lf, _ => ([], sum, n, lf)
  | f + 1, sum, n, lf, l => if l = [] then ([], sum, n, lf) else
      if (eatGo least most bits 0 sum n l).2.1 then
        ((lf ++ l.take (eatGo least most bits 0 sum n l).1) :: (wrF least most bits f (eatGo least most bits 0 sum n l).2.2.1 (eatGo least most bits 0 sum n l).2.2.2 [] (l.drop (eatGo least most bits 0 sum n l).1)).1, (wrF least most bits f (eatGo least most bits 0 sum n l).2.2.1 (eatGo least most bits 0 sum n l).2.2.2 [] (l.drop (eatGo least most bits 0 sum n l).1)).2)
      else wrF least most bits f (eatGo least most bits 0 sum n l).2.2.1 (eatGo least most bits 0 sum n l).2.2.2 (lf ++ l.take (eatGo least most bits 0 sum n l).1) (l.drop (eatGo least most bits 0 sum n l).1)
theorem wrF_fuel (least most bits : Int) : ∀ (f : Nat) (sum : Int) (n : Nat) (lf l : List UInt8), l.length ≤ f → wrF least most bits f sum n lf l = wrF least most bits l.length sum n lf l := by
  intro f
  induction f using Nat.strongRecOn with
  | _ f ih =>
    intro sum n lf l hl
    cases f with
    | zero =>
      have : l = [] := List.length_eq_zero_iff.1 (by omega)
      subst this
      rfl
    | succ f =>
      cases l with
      | nil => simp [wrF]
      | cons z r =>
        obtain ⟨_, e2, e3, _⟩ := eatGo_bd least most bits (z :: r) 0 sum n
        have e3 := e3 (by simp)
        have hd : ((z :: r).drop (eatGo least most bits 0 sum n (z :: r)).1).length ≤ r.length := by rw [List.length_drop, List.length_cons]; omega
        simp only [List.length_cons] at hl
        have step : ∀ s' n' lf', wrF least most bits f s' n' lf' ((z :: r).drop (eatGo least most bits 0 sum n (z :: r)).1) = wrF least most bits r.length s' n' lf' ((z :: r).drop (eatGo least most bits 0 sum n (z :: r)).1) := fun s' n' lf' => by
          rw [ih f (by omega) _ _ _ _ (by omega)]
          by_cases hrf : r.length = f
          · rw [hrf, ih f (by omega) _ _ _ _ (by omega)]
          · rw [ih r.length (by omega) _ _ _ _ hd]
        simp only [wrF, List.length_cons, reduceCtorEq, if_false, step]
def wrL (least most bits : Int) (sum : Int) (n : Nat) (lf l : List UInt8) : WR := wrF least most bits l.length sum n lf l
theorem wrL_nil (least most bits : Int) (sum : Int) (n : Nat) (lf : List UInt8) : wrL least most bits sum n lf [] = ([], sum, n, lf) := rfl
theorem wrL_cons (least most bits : Int) (sum : Int) (n : Nat) (lf l : List UInt8) (h : l ≠ []) {p kk : Nat} {ed : Bool} {sm : Int} (hr : eatGo least most bits 0 sum n l = (p, ed, sm, kk)) :
    wrL least most bits sum n lf l = if ed then ((lf ++ l.take p) :: (wrL least most bits sm kk [] (l.drop p)).1, (wrL least most bits sm kk [] (l.drop p)).2) else wrL least most bits sm kk (lf ++ l.take p) (l.drop p) := by
  unfold wrL
  obtain ⟨_, e2, e3, _⟩ := eatGo_bd least most bits l 0 sum n
  have e3 := e3 h
  rw [hr] at e2 e3
  simp only [] at e2 e3
  obtain ⟨f, hf⟩ : ∃ f, l.length = f + 1 := ⟨l.length - 1, by omega⟩
  have hd : (l.drop p).length ≤ f := by rw [List.length_drop]; omega
  rw [hf, wrF, if_neg h, hr]
  simp only []
  rw [wrF_fuel least most bits f _ _ _ _ hd, wrF_fuel least most bits f _ _ _ _ hd]
structure WrRel (B X : Nat) (least most bits : Int) (w wr : World) (v0 : Value) (res : WR) (s : CG) (l : List UInt8) : Prop where
  sp : SP (famC B X least most bits s) B wr
  fr : Fr (fun k => k = X ∨ some k = v0.ownBlock) w wr
  at_ : ∀ y g, (famC B X least most bits s y).S g → g = X ∨ v0.ownBlock = some g ∨ w.heap.size ≤ g
  ato : ∀ g, (Value.slice s.O s.ps.length s.oc).ownBlock = some g → w.heap.size ≤ g
  rest : res = (s.ps.map (fun p => p.2.2) ++ (wrL least most bits s.sum s.n s.left l).1, (wrL least most bits s.sum s.n s.left l).2)
def lenS : Value → Nat
  | .slice _ n _ => n
  | _ => 0
def WrPost (B X : Nat) (least most bits : Int) (v0 : Value) (res : WR) (w : World) (e : Ending) (w' : World) : Prop :=
  ∃ s : CG, e = .returned (.slice s.O s.ps.length s.oc) ∧ SP (famC B X least most bits s) B w' ∧ Fr (fun k => k = X ∨ some k = v0.ownBlock) w w' ∧ (∀ y g, (famC B X least most bits s y).S g → g = X ∨ v0.ownBlock = some g ∨ w.heap.size ≤ g) ∧
    (∀ g, (Value.slice s.O s.ps.length s.oc).ownBlock = some g → w.heap.size ≤ g) ∧ res = (s.ps.map (fun p => p.2.2), s.sum, s.n, s.left)
set_option maxHeartbeats 8000000 in
set_option maxRecDepth 100000 in
theorem Write_any (B X : Nat) (least most bits : Int) (s0 : CG) (A : Option Addr) (m c : Nat) (l : List UInt8) (w : World) (h : SP (famC B X least most bits s0) B w) (h0 : s0.ps = [] ∧ s0.O = none ∧ s0.oc = 0) (hI : In w A m l) (hmc : m ≤ c)
    (hA : ∀ ad, A = some ad → ad.block < w.heap.size ∧ ad.block ≠ X ∧ s0.lv.ownBlock ≠ some ad.block) (hok : CutsOk least most bits) (hb : s0.left.length + m ≤ 68719476736) (hn : s0.n + m ≤ 1099511627776) :
    Calls Try.prog 14 #[.pointer (some ⟨X, 0, none⟩), .slice A m c] w (WrPost B X least most bits s0.lv (wrL least most bits s0.sum s0.n s0.left l) w) := by
  obtain ⟨i0, hi0, hz0, hz1, hz2⟩ := info_parts infou8
  obtain ⟨j0, hj0, jz0, jz1, jz2⟩ := info_parts infosl
  obtain ⟨res, hres⟩ : ∃ res, wrL least most bits s0.sum s0.n s0.left l = res := ⟨_, rfl⟩
  rw [hres]
  have hm47 := hI.2.2
  have hm36 : m ≤ 68719476736 := by omega
  have hato : ∀ g, (Value.slice s0.O s0.ps.length s0.oc).ownBlock = some g → w.heap.size ≤ g := fun g hg => by rw [h0.1, h0.2.1] at hg; simp [Value.ownBlock] at hg
  have H0 : Hid (WrRel B X least most bits w w s0.lv res s0 l) := ⟨h, Fr.refl _ _, fun y g hg => by
    cases y with
    | x => exact .inl hg
    | l => exact .inr (.inl hg)
    | o => exact .inr (.inr (hato g hg))
    | e i => exact absurd hg (by simp [famC, h0.1, optC, trivC]), hato, by rw [h0.1, hres]; rfl⟩
  have e5 : Value.slice none 0 0 = .slice s0.O s0.ps.length s0.oc := by rw [h0.1, h0.2.1, h0.2.2]; rfl
  have He5 := Lib.hid e5
  have HI := Lib.hid hI
  have HA := Lib.hid hA
  have Hok := Lib.hid hok
  have hps : s0.ps.length = 0 := by rw [h0.1]; rfl
  clear h h0 hI hA hok hres hato e5
  obtain ⟨v0, hv0⟩ : ∃ v0, s0.lv = v0 := ⟨_, rfl⟩
  rw [hv0] at H0 HA ⊢
  clear hv0
  go_enter Try.func14, Try.ntmps14
  go_wp2_with fail
  go_loopw [1, 5] (fun s1 s5 wr => ∃ (A' : Option Addr) (m' c' : Nat) (l' : List UInt8) (s : CG), s1 = .slice A' m' c' ∧ m' ≤ c' ∧ s5 = .slice s.O s.ps.length s.oc ∧ m' ≤ m ∧ s.left.length + m' ≤ 68719476736 ∧ s.n + m' ≤ 1099511627776 ∧ s.ps.length + m' ≤ m ∧ Hid (In wr A' m' l') ∧
    Hid (∀ ad, A' = some ad → ad.block < w.heap.size ∧ ad.block ≠ X ∧ v0.ownBlock ≠ some ad.block) ∧ Hid (WrRel B X least most bits w wr v0 res s l')) (fun s1 _ _ => lenS s1)
  case atStart => exact ⟨A, m, c, l, s0, rfl, hmc, He5.out, Nat.le_refl _, hb, hn, by omega, HI, HA, H0⟩
  case round =>
    clear H0 He5 HI HA hmc hb hn hps
    obtain ⟨A', m', c', l', s, rfl, hmc, rfl, hmm, hb, hn, hpm, HI, HA, H⟩ := hrel
    by_cases hlt : 0 < m'
    · have hlt' : (0 : Int) < (m' : Int) := by omega
      have hln : l'.length = m' := HI.out.len
      have hxn : l' ≠ [] := fun e => by rw [e] at hln; simp at hln; omega
      obtain ⟨r, hr⟩ : ∃ r, eatGo least most bits 0 s.sum s.n l' = r := ⟨_, rfl⟩
      obtain ⟨_, e2, e3, _⟩ := eatGo_bd least most bits l' 0 s.sum s.n
      have e5 := eatGo_np least most bits l' 0 s.sum s.n
      have hcl := eatX_any s.lv least most bits s.sum s.n X A' m' c' l' wr H.out.sp.cutter HI.out (fun _ ad had => (HA.out ad had).2.1) Hok.out (by omega)
      rw [hr] at e2 e3 e5 hcl
      obtain ⟨p, ed, sm, kk⟩ := r
      simp only [] at e2 e3 e5 hcl
      have Hcl := Lib.hid hcl
      have Hst := Lib.hid (wrL_cons least most bits s.sum s.n s.left l' hxn hr)
      have hp : 0 < p ∧ p ≤ m' := ⟨e3 hxn, by omega⟩
      have hkk : kk + m' ≤ s.n + m' + p := by omega
      have Hln := Lib.hid hln
      clear hln hxn hr e2 e3 e5 hcl
      go_wp2_with fail
      refine Hcl.out.mono ?_
      rintro e w3 ⟨rfl, hB3, hF3⟩
      have HS3 := Lib.hid (H.out.sp.ate hB3 hF3)
      have HI3 : Hid (In w3 A' m' l') := HI.out.fr hF3 (fun _ ad had e => (HA.out ad had).2.1 e)
      have HFr3 : Hid (Fr (fun k => k = X ∨ some k = v0.ownBlock) w w3) := H.out.fr.trans (hF3.mono (fun _ _ e => .inl e))
      have Hws : Hid (w.heap.size ≤ w3.heap.size) := HFr3.out.size
      obtain ⟨LA, lc, lf, sm0, n0, O, oc, ps⟩ := s
      simp only [] at hb hn hpm hkk HS3 Hst
      have c5 : w3.cell? ⟨X, 5, none⟩ = some (.slice LA lf.length lc) := hB3.cell 5
      have f5 := hB3.frozen 5
      have hxl := hB3.lt
      have hpc : (p : Int) ≤ (c' : Int) ∧ p ≤ c' := by omega
      have hod : w3.drew.ownsRow B 5 1 (.slice LA lf.length lc) lf.length (bys lf) := HS3.out.left
      have hrd : Rd w3.drew 1 A' p (bys (l'.take p)) := by
        have := HI3.out.1.take hp.2
        rw [Nat.mul_one, bys_take] at this
        exact this
      have hBd : B ≤ w3.drew.heap.size := HS3.out.le
      have hsep : some X ≠ (Value.slice LA lf.length lc).ownBlock := fun e => HS3.out.sep .l .x (by simp) X e.symm rfl
      have HB3 := Lib.hid hB3
      clear hB3 hF3
      go_upto_region 4 with (fail)
      go_cut [5] (fun s5 wy => s5 = .slice O ps.length oc ∧ ∃ (LA' : Option Addr) (lc' : Nat), Hid (SP (famC B X least most bits ⟨LA', lc', lf ++ l'.take p, sm, kk, O, oc, ps⟩) B wy ∧ Fr (fun k => k = X ∨ some k = (Value.slice LA lf.length lc).ownBlock) w3 wy ∧ ((Value.slice LA' (lf.length + p) lc').ownBlock = (Value.slice LA lf.length lc).ownBlock ∨ ∀ g, (Value.slice LA' (lf.length + p) lc').ownBlock = some g → w3.heap.size ≤ g)))
      case first =>
        go_region_law (
          (refine step_append_rd (w := w3.drew) rfl (.tmp 23) (.tmp 26) 32 rfl B 5 i0 _ 1 1 Try.underlying32 hi0 hz0 hz1 hz2 rfl (by decide) (.slice LA lf.length lc) lf.length (bys lf) (by simp [Act.eval]) hod A' p c' (bys (l'.take p)) (by simp [Act.eval]) hrd (bys_one _) (by simp only [maxLen]; omega) (by omega) hBd ?_
           intro a1 c1 w4 hown4 hg4 hat4
           have hb4 : Blk w4 X 71 _ := HB3.out.drew.same (hg4.block X hxl hsep)
           have v5 : w4.cell? ⟨X, 5, none⟩ = some (.slice LA lf.length lc) := hb4.cell 5
           have g5 := hb4.frozen 5))
        all_goals go_wp2_with fail
        all_goals go_meet
        all_goals
          have hlq : (lf ++ l'.take p).length = lf.length + p := by rw [List.length_append, List.length_take]; have := Hln.out; omega
          have hFw : Fr (fun k => k = X ∨ some k = (Value.slice LA lf.length lc).ownBlock) w3 (w4.setCell ⟨X, 5, none⟩ (.slice a1 (lf.length + p) c1)) := (((Fr.refl _ w3).drew).grown hg4 (fun g hg => .inl (.inr hg.symm))).setCell (p := ⟨X, 5, none⟩) (.inl (.inl rfl)) _
          have hO5 := own_far hown4 (p := ⟨X, 5, none⟩) (own_ne hown4 hb4 (by decide)) (.slice a1 (lf.length + p) c1)
          rw [← bys_append] at hO5
          have hat5 : (Value.slice a1 (lf.length + p) c1).ownBlock = (Value.slice LA lf.length lc).ownBlock ∨ ∀ g, (Value.slice a1 (lf.length + p) c1).ownBlock = some g → w3.heap.size ≤ g := by
            rcases hat4 with h | h
            · exact .inl h
            · exact .inr (fun g hg => by rw [h] at hg; injection hg with hg; rw [← hg]; exact Nat.le_refl _)
          have hX5 : Blk (w4.setCell ⟨X, 5, none⟩ (.slice a1 (lf.length + p) c1)) X 71 (rollX (.slice a1 (lf ++ l'.take p).length c1) least most bits sm kk) := by rw [hlq]; exact hb4.set_ 5 _
          refine ⟨rfl, a1, c1, HS3.out.grew hX5 (by rw [hlq]; exact hO5) hFw (fun g hg => ?_), hFw, hat5⟩
          rw [hlq] at hg
          rcases hat5 with h | h
          · exact .inl (h.symm.trans hg)
          · exact .inr (h g hg)
      case rest =>
        obtain ⟨rfl, LA', lc', HC⟩ := hcut
        obtain ⟨wx, rfl⟩ : ∃ wx : World, wx = wc := ⟨_, rfl⟩
        obtain ⟨A2, hA2⟩ : ∃ A2, (if c' = p then A' else A'.map (·.add p)) = A2 := ⟨_, rfl⟩
        have hatL : ∀ g, (Value.slice LA lf.length lc).ownBlock = some g → g = X ∨ v0.ownBlock = some g ∨ w.heap.size ≤ g := fun g hg => H.out.at_ .l g hg
        have HI4 : Hid (In wx A2 (m' - p) (l'.drop p)) := by
          have h1 : In wx A' m' l' := HI3.out.fr HC.out.2.1 (fun _ ad had e => by
            obtain ⟨k1, k2, k3⟩ := HA.out ad had
            rcases e with e | e
            · exact k2 e
            · rcases hatL _ e.symm with e2 | e2 | e2
              · exact k2 e2
              · exact k3 e2
              · omega)
          have h2 := h1.cut hp.2 hmc
          rw [hA2] at h2
          exact h2
        have HA4 : Hid (∀ ad, A2 = some ad → ad.block < w.heap.size ∧ ad.block ≠ X ∧ v0.ownBlock ≠ some ad.block) := fun ad had => by
          rw [← hA2] at had
          split at had
          · exact HA.out ad had
          · cases A' with
            | none => cases had
            | some a0 =>
              simp only [Option.map_some, Option.some.injEq] at had
              subst had
              rw [block_add]
              exact HA.out a0 rfl
        have HFr4 : Hid (Fr (fun k => k = X ∨ some k = v0.ownBlock) w wx) := HFr3.out.trans' HC.out.2.1 (fun q hq e => by
          rcases e with e | e
          · exact .inl e
          · rcases hatL _ e.symm with e2 | e2 | e2
            · exact .inl e2
            · exact .inr e2.symm
            · omega)
        obtain ⟨lf2, hlf2⟩ : ∃ lf2, lf ++ l'.take p = lf2 := ⟨_, rfl⟩
        have hlq : lf2.length = lf.length + p := by rw [← hlf2, List.length_append, List.length_take]; have := Hln.out; omega
        have hlq2 : lf2.length ≤ lf.length + p ∧ lf.length + p ≤ lf2.length := by omega
        have HL4 : Hid (∀ g, (Value.slice LA' lf2.length lc').ownBlock = some g → g = X ∨ v0.ownBlock = some g ∨ w.heap.size ≤ g) := fun g hg => by
          rw [hlq] at hg
          rcases HC.out.2.2 with e | e
          · exact hatL g (e ▸ hg)
          · exact .inr (.inr (Nat.le_trans Hws.out (e g hg)))
        have HS4 : Hid (SP (famC B X least most bits ⟨LA', lc', lf2, sm, kk, O, oc, ps⟩) B wx) := by rw [← hlf2]; exact HC.out.1
        rw [hlf2] at Hst
        clear hlq hlf2 hatL c5 f5 hod hrd hBd hsep HC HFr3 HS3 HI3 HB3
        cases ed
        · have HR4 : Hid (WrRel B X least most bits w wx v0 res ⟨LA', lc', lf2, sm, kk, O, oc, ps⟩ (l'.drop p)) := ⟨HS4.out, HFr4.out, fun y g hg => by
            cases y with
            | x => exact .inl hg
            | l => exact HL4.out g hg
            | o => exact H.out.at_ .o g hg
            | e i => exact H.out.at_ (.e i) g hg, H.out.ato, by
            have h1 := H.out.rest
            have h2 := Hst.out
            simp only [Bool.false_eq_true, if_false] at h2
            simp only [] at h1
            rw [h2] at h1
            exact h1⟩
          go_wp2_with fail
          go_roundw
          case rel => exact ⟨A2, m' - p, c' - p, l'.drop p, ⟨LA', lc', lf2, sm, kk, O, oc, ps⟩, rfl, by omega, rfl, by omega, by show lf2.length + (m' - p) ≤ _; omega, by show kk + (m' - p) ≤ _; omega, by show ps.length + (m' - p) ≤ m; omega, HI4, HA4, HR4⟩
          case measure => simp [lenS]; omega
        · have hbx := HS4.out.cutter
          have v5 : wx.cell? ⟨X, 5, none⟩ = some (.slice LA' lf2.length lc') := hbx.cell 5
          have hxl2 := hbx.lt
          have Hbx := Lib.hid hbx
          have Hout : Hid (wx.ownsRow B 32 1 (.slice O ps.length oc) ps.length (svs ps)) := HS4.out.out
          have Hsep2 : Hid (some X ≠ (Value.slice O ps.length oc).ownBlock) := fun e => HS4.out.sep .o .x (by simp) X e.symm rfl
          have HBs : Hid (B ≤ wx.heap.size) := HS4.out.le
          clear hbx
          go_wp2_with (at_builtin; refine wpList_append_rd (w := wx.alloc (.cells #[.slice LA' lf2.length lc'] 32)) rfl (.tmp 34) (.tmp 39) 41 rfl B 32 j0 _ 1 24 Try.underlying41 hj0 jz0 jz1 jz2 rfl (by decide) (.slice O ps.length oc) ps.length (svs ps) rfl (Hout.out.alloc _) (some ⟨wx.heap.size, 0, none⟩) 1 1 (svs [(LA', lc', lf2)]) rfl ⟨rfl, fun _ => ⟨_, rfl, World.news_of_block (heap_alloc_new wx _)⟩⟩ (svs_one _) (by simp only [maxLen]; omega) (by omega) (by have := HBs.out; simp; omega) ?_; intro O2 oc2 w5 hown5 hg5 hat5; have hb5 : Blk w5 X 71 _ := (Hbx.out.alloc (.cells #[.slice LA' lf2.length lc'] 32)).same (hg5.block X (by simp; omega) Hsep2.out); have v6 : w5.cell? ⟨X, 5, none⟩ = some (.slice LA' lf2.length lc') := hb5.cell 5; have g6 := hb5.frozen 5)
          rw [← svs_append] at hown5
          obtain ⟨hSW, hFW⟩ := HS4.out.whole _ hown5 hg5 hat5
          have HR5 : Hid (WrRel B X least most bits w (w5.setCell ⟨X, 5, none⟩ (.slice none 0 0)) v0 res ⟨none, 0, [], sm, kk, O2, oc2, ps ++ [(LA', lc', lf2)]⟩ (l'.drop p)) := by
            have hlen : (ps ++ [(LA', lc', lf2)]).length = ps.length + 1 := by rw [List.length_append]; rfl
            have hoo : ∀ g, (Value.slice O2 (ps ++ [(LA', lc', lf2)]).length oc2).ownBlock = some g → w.heap.size ≤ g := fun g hg => by
              rw [hlen] at hg
              rcases hat5 with e | e
              · exact H.out.ato g (e.symm.trans hg)
              · rw [e] at hg
                injection hg with hg
                rw [← hg]
                have := HFr4.out.size
                simp; omega
            refine ⟨hSW, HFr4.out.trans' hFW (fun q hq e => ?_), fun y g hg => ?_, hoo, ?_⟩
            · rcases e with e | e
              · exact .inl e
              · have := H.out.ato q e; omega
            · cases y with
              | x => exact .inl hg
              | l => exact absurd hg (by simp [famC, ownC, CG.lv, Value.ownBlock])
              | o => exact .inr (.inr (hoo g hg))
              | e i =>
                by_cases hi : i = ps.length
                · subst hi
                  simp only [famC, snoc_at] at hg
                  exact HL4.out g hg
                · simp only [famC, snoc_get hi] at hg
                  exact H.out.at_ (.e i) g hg
            · have h1 := H.out.rest
              have h2 := Hst.out
              simp only [if_true] at h2
              simp only [] at h1
              rw [h2] at h1
              rw [h1]
              simp only [List.map_append, List.map_cons, List.map_nil, List.append_assoc, List.cons_append, List.nil_append]
          have HAl := Lib.hid (show (ps ++ [(LA', lc', lf2)]).length = ps.length + 1 by rw [List.length_append]; rfl)
          have HI5 : Hid (In (w5.setCell ⟨X, 5, none⟩ (.slice none 0 0)) A2 (m' - p) (l'.drop p)) := HI4.out.fr hFW (fun _ ad had e => by
            obtain ⟨k1, k2, k3⟩ := HA4.out ad had
            rcases e with e | e
            · exact k2 e
            · have := H.out.ato _ e; omega)
          clear hSW hFW hown5
          go_roundw
          case rel => exact ⟨A2, m' - p, c' - p, l'.drop p, ⟨none, 0, [], sm, kk, O2, oc2, ps ++ [(LA', lc', lf2)]⟩, rfl, by omega, by show Value.slice O2 (ps.length + 1) oc2 = .slice O2 (ps ++ [(LA', lc', lf2)]).length oc2; rw [HAl.out], by omega, by show 0 + (m' - p) ≤ _; omega, by show kk + (m' - p) ≤ _; omega, by show (ps ++ [(LA', lc', lf2)]).length + (m' - p) ≤ m; rw [HAl.out]; omega, HI5, HA4, HR5⟩
          case measure => simp [lenS]; omega
    · obtain rfl : m' = 0 := by omega
      have hl0 : l' = [] := List.length_eq_zero_iff.1 (by rw [HI.out.len])
      have Hfin : Hid (res = (s.ps.map (fun p => p.2.2), s.sum, s.n, s.left)) := by
        have := H.out.rest
        rw [hl0, wrL_nil] at this
        rw [this]
        show _ = _
        simp
      go_wp2_with fail
      go_ret
      exact ⟨s, rfl, H.out.sp, H.out.fr, H.out.at_, H.out.ato, Hfin.out⟩
end Go.Proofs.Ytglkahonejblpaa
