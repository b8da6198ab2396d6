
/-
  Walk: the law WindowPlays returns true; nothing that was there is written. Conditions: the steps lie in memory, with at most 1048576 bytes each, and are at most 1048576.
-/
import Derived.Test.YtcfaocbdhfmhbaaPlayC
import Derived.Test.YtcfaocbdhfmhbaaTwo
namespace Go.Proofs.Ytcfaocbdhfmhbaa
open Go.RowKit

theorem infoP : (Try.prog.info? 48).map (fun i => (i.zero, i.size, i.bytes)) = some (some (.agg #[.pointer none, .pointer none]), 2, 16) := by kernel_rfl
theorem PlPost.mono {B N N' : Nat} {s : GS} {w w' : World} {e : Ending} (h : PlPost B s N w e w') (hN : N ≤ N') : PlPost B s N' w e w' := by
  obtain ⟨s', h1, h2, h3, h4, h5⟩ := h
  exact ⟨s', h1, h2, h3, h4.mono hN, h5⟩
theorem plays_any (B i N b c size : Nat) (r1 r2 : Option Nat) (all : List UInt8) (s : GS) (k wn dd nn : Int) (A : Option Addr) (n cc : Nat) (lb : List UInt8) (w : World) (h : SP (fam B s) B w) (hJ : GJ s N)
    (h1 : s.ws[i]? = some ⟨b, r1, size, all⟩) (h2 : s.rs[i]? = some ⟨c, r2, size, all⟩) (h3 : s.ps[i]? = some (b, c)) (hlen : N + n + 10 < 140737488355000) (hall : all.length ≤ N) (hm8 : s.m ≤ 1048576)
    (hI : In w A n lb) (hIB : 0 < n → ∀ ad, A = some ad → ad.block < B) (hncc : n ≤ cc) :
    Calls Try.prog 20 #[.agg #[.pointer (some ⟨b, 0, none⟩), .pointer (some ⟨c, 0, none⟩)], .agg #[.int .i64 k, .int .i64 wn, .int .i64 dd, .int .i64 nn, .slice A n cc], .slice s.H s.m s.hc] w (PlPost B s (N + n + 273) w) := by
  by_cases k1 : k = 1
  · exact (plays_put B i N b c size r1 r2 all s k wn dd nn A n cc lb w h hJ h1 h2 h3 (by omega) k1 hall hI hIB hncc).mono fun e w' h => h.mono (by omega)
  · by_cases k2 : k = 2
    · exact (plays_copy B i N b c size r1 r2 all s k wn dd nn A n cc w h hJ h1 h2 h3 (by omega) k2 hm8 hall).mono fun e w' h => h.mono (by omega)
    · by_cases k3 : k = 3
      · exact (plays_last B i N b c size r1 r2 all s k wn dd nn A n cc w h hJ h1 h2 h3 (by omega) k3).mono fun e w' h => h.mono (by omega)
      · by_cases k4 : k = 4
        · exact (plays_ask B i N b c size r1 r2 all s k wn dd nn A n cc w h hJ h1 h2 h3 (by omega) k4).mono fun e w' h => h.mono (by omega)
        · by_cases k5 : k = 5
          · exact (plays_clear B i N b c size r1 r2 all s k wn dd nn A n cc w h hJ h1 h2 h3 (by omega) k5).mono fun e w' h => h.mono (by omega)
          · exact (plays_none B i N b c size r1 r2 all s k wn dd nn A n cc w h hJ h1 h2 h3 (by omega) ⟨k1, k2, k3, k4, k5⟩).mono fun e w' h => h.mono (by omega)
def InOpsB (w : World) (C : Option Addr) (m : Nat) : Prop :=
  ∀ i, i < m → ∃ b off kind wn dist n A len cap l, C = some ⟨b, off, none⟩ ∧ OpAt w b (off + i * 5) kind wn dist n A len cap l ∧ len ≤ 1048576
theorem InOpsB.below {w w' : World} {C : Option Addr} {m : Nat} (h : InOpsB w C m) (hb : Below w.heap.size w w') : InOpsB w' C m := fun i hi => by
  obtain ⟨b, off, kind, wn, dist, n, A, len, cap, l, e, ho, hl⟩ := h i hi
  exact ⟨b, off, kind, wn, dist, n, A, len, cap, l, e, ho.below hb, hl⟩
def GS.nil : GS := ⟨none, 0, 0, [], [], [], none, 0, 0, [], [], none⟩
theorem sp_nil (B : Nat) (w : World) (hB : B ≤ w.heap.size) : SP (fam B GS.nil) B w := by
  have hS : ∀ x g, ¬ (fam B GS.nil x).S g := fun x g hg => by cases x <;> exact absurd hg (by simp [fam, GS.nil, ownC, optC, trivC, Value.ownBlock])
  refine ⟨fun x => ?_, fun x => ?_, fun x g hg => absurd hg (hS x g), fun x y _ g hg => absurd hg (hS x g), hB⟩
  · cases x with
    | p => exact World.ownsRow_nil _ _ _ _
    | h => exact World.ownsRow_nil _ _ _ _
    | _ => trivial
  · cases x with
    | p => exact ownC_st _ _ _ _ _ _
    | h => exact ownC_st _ _ _ _ _ _
    | _ => exact trivC_st
theorem gj_nil (N : Nat) : GJ GS.nil N := ⟨rfl, rfl, rfl, fun i g hi => by simp [GS.nil] at hi, rfl, rfl, fun i e hi => by simp [GS.nil] at hi, rfl⟩
/-- a pair more -/
theorem GJ.pair {s : GS} {N k2 lc2 b c size : Nat} {L2 : Option Addr} {r1 r2 : Option Nat} {all : List UInt8} (h : GJ s N) (hk : k2 = s.k + 1) (hl : all.length ≤ N) :
    GJ { s with L := L2, k := k2, lc := lc2, ps := s.ps ++ [(b, c)], ws := s.ws ++ [⟨b, r1, size, all⟩], rs := s.rs ++ [⟨c, r2, size, all⟩] } N := by
  refine ⟨by simp [h.lw, hk], by simp [h.lr, hk], by simp [h.lp, hk], fun i g hi => ?_, h.ee, h.le, h.ok, h.t⟩
  simp only at hi ⊢
  by_cases hik : i = s.ws.length
  · subst hik
    rw [snoc_at] at hi
    cases hi
    have e1 : s.ws.length = s.rs.length := by rw [h.lw, h.lr]
    have e2 : s.ws.length = s.ps.length := by rw [h.lw, h.lp]
    refine ⟨⟨c, r2, size, all⟩, ?_, ?_, rfl, rfl, hl⟩
    · rw [e1, snoc_at]
    · rw [e2, snoc_at]
  · rw [snoc_get hik] at hi
    obtain ⟨q, h1, h2, h3⟩ := h.pr i g hi
    exact ⟨q, by rw [snoc_get (by rw [h.lr, ← h.lw]; exact hik)]; exact h1, by rw [snoc_get (by rw [h.lp, ← h.lw]; exact hik)]; exact h2, h3⟩
def Out (B : Nat) (s : GS) (q : Nat) : Prop := ∀ x, ¬ (fam B s x).S q
theorem SP.outOf {B : Nat} {s : GS} {w : World} (h : SP (fam B s) B w) {q : Nat} (hq : w.heap.size ≤ q) : Out B s q := fun x hx => by
  have := (h.inb x q hx).2; omega
theorem SP.outFr {B : Nat} {s : GS} {w w' : World} (h : SP (fam B s) B w) {q : Nat} (ho : Out B s q) (hF : Fr (fun k => k = q) w w') : SP (fam B s) B w' :=
  ⟨fun x => h.st x w w' (h.hold x) (fun g hg => hF.block g (h.inb x g hg).2 (fun e => ho x (e ▸ hg))), h.st, fun x g hg => ⟨(h.inb x g hg).1, Nat.lt_of_lt_of_le (h.inb x g hg).2 hF.size⟩, h.sep, Nat.le_trans h.le hF.size⟩
theorem Out.win {B : Nat} {s : GS} {q : Nat} {g : WG} (h : Out B s q) (h1 : g.b ≠ q) (h2 : g.r ≠ some q) : Out B { s with ws := s.ws ++ [g] } q := fun x hx => by
  cases x with
  | w j =>
    by_cases hj : j = s.ws.length
    · subst hj
      simp only [fam, snoc_at] at hx
      rcases hx with e | e
      · exact h1 e.symm
      · exact h2 e
    · simp only [fam, snoc_get hj] at hx
      exact h (.w j) hx
  | p => exact h .p hx
  | h => exact h .h hx
  | t => exact h .t hx
  | r j => exact h (.r j) hx
  | e j => exact h (.e j) hx
theorem Out.ref {B : Nat} {s : GS} {q : Nat} {g : WG} (h : Out B s q) (h1 : g.b ≠ q) (h2 : g.r ≠ some q) : Out B { s with rs := s.rs ++ [g] } q := fun x hx => by
  cases x with
  | r j =>
    by_cases hj : j = s.rs.length
    · subst hj
      simp only [fam, snoc_at] at hx
      rcases hx with e | e
      · exact h1 e.symm
      · exact h2 e
    · simp only [fam, snoc_get hj] at hx
      exact h (.r j) hx
  | p => exact h .p hx
  | h => exact h .h hx
  | t => exact h .t hx
  | w j => exact h (.w j) hx
  | e j => exact h (.e j) hx
def FkPost (B : Nat) (s : GS) (f : Nat → Option Nat → GS) (X : World) (e : Ending) (w' : World) : Prop :=
  ∃ b' r', e = .returned (.pointer (some ⟨b', 0, none⟩)) ∧ SP (fam B (f b' r')) B w' ∧ Below X.heap.size X w' ∧ (∀ q, q < X.heap.size → Out B s q → Out B (f b' r') q)
theorem fork_sp {B i b c size : Nat} {r1 : Option Nat} {all : List UInt8} {s : GS} {X : World} (h : SP (fam B s) B X) (h1 : s.ws[i]? = some ⟨b, r1, size, all⟩) :
    Calls Try.prog 10 #[.pointer (some ⟨b, 0, none⟩)] X (FkPost B s (fun b' r' => { s with ws := s.ws ++ [⟨b', r', size, all⟩] }) X) := by
  refine (Fork_any B b size r1 all X (h.win h1)).mono ?_
  rintro e w' ⟨r', rfl, hW, hb⟩
  exact ⟨_, r', rfl, h.winNew (g := ⟨_, r', size, all⟩) hb hW, hb, fun q hq ho => ho.win (by show X.heap.size ≠ q; omega) (fun e => by have := (hW.lt.2 q e).1; omega)⟩
theorem rfork_sp {B i c size : Nat} {r2 : Option Nat} {all : List UInt8} {s : GS} {X : World} (h : SP (fam B s) B X) (h1 : s.rs[i]? = some ⟨c, r2, size, all⟩) (hl : all.length + 1 < 140737488355328) :
    Calls Try.prog 19 #[.pointer (some ⟨c, 0, none⟩)] X (FkPost B s (fun b' r' => { s with rs := s.rs ++ [⟨b', r', size, all⟩] }) X) := by
  refine (RFork_any B c size r2 all X (h.ref h1) hl).mono ?_
  rintro e w' ⟨b', r', rfl, hW, hb⟩
  exact ⟨b', r', rfl, h.refNew (g := ⟨b', r', size, all⟩) hb hW, hb, fun q hq ho => ho.ref (by have h0 := hW.base; show b' ≠ q; omega) (fun e => by have := (hW.lt.2 q e).1; omega)⟩
theorem step_num (i n : Nat) (h : n ≤ 1048576) : i * 1048850 + n + 273 ≤ (i + 1) * 1048850 ∧ i * 1048850 ≤ (i + 1) * 1048850 := by
  rw [Nat.add_mul]; omega
theorem keep2 {w1 : World} {N g i : Nat} {v0 v1 : Value} (h : ¬ g = N) : ((w1.setCell ⟨N, 0, none⟩ v0).setCell ⟨N, 1, none⟩ v1).cell? ⟨g, i, none⟩ = w1.cell? ⟨g, i, none⟩ := by
  have e : ∀ (w : World) (j : Nat) (v : Value), (w.setCell ⟨N, j, none⟩ v).cell? ⟨g, i, none⟩ = w.cell? ⟨g, i, none⟩ := fun w j v => World.cell?_setCell_other w _ _ v (fun e => h (by first | exact (Addr.mk.inj e).1 | exact (Addr.mk.inj e).1.symm))
  rw [e, e]
theorem tmod_bd (a : Int) (k : Nat) (hk : 0 < k) : -(k : Int) < a.tmod (k : Int) ∧ a.tmod (k : Int) < (k : Int) := by
  have h1 : (a.tmod (k : Int)).natAbs = a.natAbs % (k : Int).natAbs := Int.natAbs_tmod a k
  have h2 : a.natAbs % (k : Int).natAbs < k := by
    have : (k : Int).natAbs = k := rfl
    rw [this]; exact Nat.mod_lt _ hk
  omega
set_option maxHeartbeats 8000000 in
set_option maxRecDepth 100000 in
theorem plays_law (fi se : Int) (C : Option Addr) (m mc : Nat) (w : World) (h : InOpsB w C m) (hm : m ≤ 1048576) :
    Calls Try.prog 7 #[.int .i64 fi, .int .i64 se, .slice C m mc] w fun e w' => e = .returned (.bool true) ∧ Below w.heap.size w w' := by
  obtain ⟨i0, hi0, hz0, hz1, hz2⟩ := info_parts infoP
  have HI := Lib.hid h
  clear h
  obtain ⟨w0, hw0⟩ : ∃ w0, w.alloc (.cells #[.int .i64 fi, .int .i64 se] 3) = w0 := ⟨_, rfl⟩
  have Hb0 : Hid (Below w.heap.size w w0) := by rw [← hw0]; exact (Below.refl _ _).alloc (Nat.le_refl _) _
  have HX : Hid (Blk w0 w.heap.size 3 #[.int .i64 fi, .int .i64 se]) := by rw [← hw0]; exact Blk.new _ _ _
  obtain ⟨B, hB⟩ : ∃ B, w0.heap.size = B := ⟨_, rfl⟩
  obtain ⟨Z, hZ⟩ : ∃ Z, w.heap.size = Z := ⟨_, rfl⟩
  have HX2 : Hid (∀ W, Below B w0 W → W.cell? ⟨Z, 0, none⟩ = some (.int .i64 fi) ∧ W.cell? ⟨Z, 1, none⟩ = some (.int .i64 se)) := fun W hW => by
    rw [← hZ]; rw [← hB] at hW; exact (HX.out.below hW).two
  have HBw : Hid (∀ W, Below B w0 W → Below w.heap.size w W) := fun W hW => by rw [← hB] at hW; exact bup Hb0.out hW
  have H0 : Hid (SP (fam B GS.nil) B w0 ∧ GJ GS.nil 0 ∧ Below B w0 w0) := ⟨sp_nil B w0 (by omega), gj_nil 0, Below.refl _ _⟩
  have HwB : Hid (w.heap.size ≤ B) := by rw [← hB]; exact Hb0.out.size
  clear hB
  go_enter Try.func7, Try.ntmps7
  go_wp2_with fail
  go_loopw [26, 7] (fun s26 s7 wr => ∃ (i : Nat) (s : GS), s26 = .int .i64 (i : Int) ∧ i ≤ 2 ∧ s7 = .slice s.L s.k s.lc ∧ s.k ≤ i ∧ s.H = none ∧ s.m = 0 ∧ s.hc = 0 ∧ Hid (SP (fam B s) B wr ∧ GJ s 0 ∧ Below B w0 wr)) (fun s26 _ _ => 2 - (intOf s26).toNat)
  case atStart => exact ⟨0, GS.nil, rfl, by omega, rfl, Nat.le_refl _, rfl, rfl, rfl, H0⟩
  case round =>
    clear H0
    obtain ⟨i, s, rfl, hi, rfl, hki, hsH, hsm, hshc, H⟩ := hrel
    by_cases hlt : i < 2
    · have hlt' : (i : Int) < 2 := by omega
      obtain ⟨sz, hsz⟩ : ∃ sz, wr.cell? ⟨Z, i, none⟩ = some (.int .i64 sz) := by
        obtain ⟨a0, a1⟩ := HX2.out wr H.out.2.2
        rcases (by omega : i = 0 ∨ i = 1) with rfl | rfl
        · exact ⟨_, a0⟩
        · exact ⟨_, a1⟩
      by_cases hd : 1 ≤ sz ∧ sz ≤ 4294967295
      · obtain ⟨size, rfl⟩ : ∃ size : Nat, sz = (size : Int) := ⟨sz.toNat, by omega⟩
        have Hd := Lib.hid hd
        clear hd
        go_wp2_with fail
        refine (New_yes size wr (by have := Hd.out; omega) (by have := Hd.out; omega)).mono ?_
        rintro e w1 ⟨rfl, hW1, hB1, hzz⟩
        clear hzz
        obtain ⟨b, hb⟩ : ∃ b, wr.heap.size = b := ⟨_, rfl⟩
        have HS1 := Lib.hid (H.out.1.winNew (g := ⟨wr.heap.size, none, size, []⟩) hB1 hW1)
        have HBe1 : Hid (Below B w0 w1) := H.out.2.2.trans (hB1.mono H.out.1.le)
        rw [hb] at HS1 ⊢
        have HJ := Lib.hid H.out.2.1
        clear hW1 hB1 H hb
        go_wp2_with fail
        refine (RNew_yes size w1 (by have := Hd.out; omega) (by have := Hd.out; omega)).mono ?_
        rintro e w2 ⟨rfl, hW2, hB2, hzz⟩
        clear hzz
        obtain ⟨c, hc⟩ : ∃ c, w1.heap.size = c := ⟨_, rfl⟩
        have HS2 := Lib.hid (HS1.out.refNew (g := ⟨w1.heap.size, none, size, []⟩) hB2 hW2)
        have HBe2 : Hid (Below B w0 w2) := HBe1.out.trans (hB2.mono HS1.out.le)
        rw [hc] at HS2 ⊢
        clear hW2 hB2 HS1 HBe1 hc
        have HBs : Hid (B ≤ w2.heap.size) := HS2.out.le
        have HRow : Hid (w2.ownsRow B 48 2 (.slice s.L s.k s.lc) s.k (pcs s.ps)) := HS2.out.pair
        go_wp2_with (at_builtin; refine wpList_append_rd (w := w2.alloc (.cells #[.pointer (some ⟨b, 0, none⟩), .pointer (some ⟨c, 0, none⟩)] 48)) rfl (.tmp 52) (.tmp 56) 41 rfl B 48 i0 _ 2 16 Try.underlying41 hi0 hz0 hz1 hz2 rfl (by decide) (.slice s.L s.k s.lc) s.k (pcs s.ps) rfl (HRow.out.alloc _) (some ⟨w2.heap.size, 0, none⟩) 1 1 (pcs [(b, c)]) rfl (Rd.of_blk' (Blk.new _ _ _) rfl rfl) (pcs_one _) (by simp only [maxLen]; omega) (by omega) (by have := HBs.out; simp; omega) ?_; intro L2 lc2 w3 hown3 hg3 hat3)
        go_roundw
        case rel =>
          rw [← pcs_append] at hown3
          exact ⟨i + 1, { s with L := L2, k := s.k + 1, lc := lc2, ps := s.ps ++ [(b, c)], ws := s.ws ++ [⟨b, none, size, []⟩], rs := s.rs ++ [⟨c, none, size, []⟩] }, by go_num, by omega, rfl, by show s.k + 1 ≤ _; omega, hsH, hsm, hshc, HS2.out.pairUpd _ hown3 hg3 hat3, HJ.out.pair rfl (Nat.le_refl _), HBe2.out.trans (((Below.refl _ w2).alloc HBs.out _).grown hg3 (by have := HBs.out; simp; omega) (fun g hg => (own_lt HRow.out hg).1))⟩
        case measure => simp [intOf]; omega
      · have Hd := Lib.hid hd
        clear hd
        go_wp2_with fail
        refine (New_no sz wr Hd.out).mono ?_
        rintro e w1 ⟨rfl, rfl⟩
        go_wp2_with fail
        refine (RNew_no sz wr Hd.out).mono ?_
        rintro e w1 ⟨rfl, rfl⟩
        go_wp2_with fail
        go_roundw
        case rel => exact ⟨i + 1, s, by go_num, by omega, rfl, by omega, hsH, hsm, hshc, H⟩
        case measure => simp [intOf]; omega
    · have hge : ¬ (i : Int) < 2 := by omega
      by_cases hk0 : s.k = 0
      · have hk1 : (s.k : Int) = 0 := by omega
        go_wp2_with fail
        go_ret
        exact ⟨rfl, by first | exact HBw.out _ H.out.2.2 | (rw [← hZ]; exact HBw.out _ H.out.2.2)⟩
      · have hk1 : ((s.k : Int) == 0) = false := beq_eq_false_iff_ne.2 (by omega)
        have hk2 : 0 < s.k ∧ s.k ≤ 5 := by omega
        have H0 : Hid (SP (fam B s) B wr ∧ GJ s (0 * 1048850) ∧ Below B w0 wr) := ⟨H.out.1, H.out.2.1.mono (by omega), H.out.2.2⟩
        have e14 : Value.slice none 0 0 = .slice s.H s.m s.hc := by rw [hsH, hsm, hshc]
        have He14 := Lib.hid e14
        clear H hk0 e14 hsH hshc
        go_wp2_with fail
        go_loopw [64, 14, 7] (fun s64 s14 s7 wr => ∃ (i : Nat) (s : GS), s64 = .int .i64 (i : Int) ∧ i ≤ m ∧ s14 = .slice s.H s.m s.hc ∧ s7 = .slice s.L s.k s.lc ∧ 0 < s.k ∧ s.k ≤ 5 ∧ s.m ≤ i ∧ Hid (SP (fam B s) B wr ∧ GJ s (i * 1048850) ∧ Below B w0 wr)) (fun s64 _ _ _ => m - (intOf s64).toNat)
        case atStart => exact ⟨0, s, rfl, Nat.zero_le _, He14.out, rfl, hk2.1, hk2.2, by omega, H0⟩
        case round =>
          clear H0 He14 hk1 hk2 hsm hki hlt hge hi
          obtain ⟨i, s, rfl, hi, rfl, rfl, hk1, hk5, hmi, H⟩ := hrel
          by_cases hlt : i < m
          · have hlt' : (i : Int) < (m : Int) := by omega
            obtain ⟨yb, yo, kd, wn, dd, nn, A, n, cc, lb, rfl, ho0, hn⟩ := HI.out i hlt
            have ho := ho0.below (HBw.out wr H.out.2.2)
            have HII : Hid (∀ W, Below B w0 W → In W A n lb) := fun W hW => In.below (w := w) ⟨ho0.rd, ho0.src, by omega⟩ (HBw.out W hW)
            have HIB : Hid (0 < n → ∀ ad, A = some ad → ad.block < B) := fun h0 ad had => Nat.lt_of_lt_of_le (ho0.src h0 ad had) HwB.out
            clear ho0
            obtain ⟨y0, y1, y2, y3, y4, hyb, hrd, hsrc, hncc, _⟩ := ho
            obtain ⟨L, k, lc, ps, ws, rs, H1, m1, hc1, eh, es, tt⟩ := s
            simp only [] at hk1 hk5 hmi
            have hk0 : ((k : Int) == 0) = false := beq_eq_false_iff_ne.2 (by omega)
            have hk0' : ¬ (k : Int) = 0 := by omega
            have hN := Blk.new wr 39 #[.int .i64 kd, .int .i64 wn, .int .i64 dd, .int .i64 nn, .slice A n cc]
            obtain ⟨wa, hwa⟩ : ∃ wa, wr.alloc (.cells #[.int .i64 kd, .int .i64 wn, .int .i64 dd, .int .i64 nn, .slice A n cc] 39) = wa := ⟨_, rfl⟩
            have HA : Hid (SP (fam B ⟨L, k, lc, ps, ws, rs, H1, m1, hc1, eh, es, tt⟩) B wa ∧ GJ ⟨L, k, lc, ps, ws, rs, H1, m1, hc1, eh, es, tt⟩ (i * 1048850) ∧ Below B w0 wa) := by
              rw [← hwa]
              exact ⟨H.out.1.keep ((Below.refl _ _).alloc (Nat.le_refl _) _), H.out.2.1, H.out.2.2.trans (((Below.refl _ _).alloc (Nat.le_refl _) _).mono H.out.1.le)⟩
            rw [hwa] at hN
            obtain ⟨N, hNe⟩ : ∃ N, wr.heap.size = N := ⟨_, rfl⟩
            rw [hNe] at hN
            obtain ⟨lg, cap, hv, _, _⟩ := HA.out.1.pair.form hk1
            injection hv with hA _ hcap
            subst hA
            subst hcap
            have hkl : k ≤ lc := own_le HA.out.1.pair
            go_upto_region 18 with (fail)
            clear y0 y1 y2 y3 y4 hyb hrd hsrc hwa hNe H
            obtain ⟨y0, y1, y2, y3, y4⟩ := hN.five
            have nlt := hN.lt
            have HN := Lib.hid hN
            clear hN
            go_upto_if 74 with (fail)
            obtain ⟨rr, hrr⟩ : ∃ rr, wn.tmod (k : Int) = rr := ⟨_, rfl⟩
            have hbd := tmod_bd wn k hk1
            rw [hrr] at hbd ⊢
            clear hrr
            go_cut [17] (fun s17 wy => ∃ j : Nat, s17 = .int .i64 (j : Int) ∧ j < k ∧ wa = wy)
            case first =>
              by_cases hneg : rr < 0
              · go_wp2_with fail
                go_meet
                exact ⟨(rr + k).toNat, by rw [show (((rr + (k : Int)).toNat : Nat) : Int) = rr + k by omega], by omega, rfl⟩
              · go_wp2_with fail
                go_meet
                exact ⟨rr.toNat, by rw [show ((rr.toNat : Nat) : Int) = rr by omega], by omega, rfl⟩
            case rest =>
              obtain ⟨j, rfl, hj, rfl⟩ := hcut
              have hji : (j : Int) < (k : Int) := by omega
              obtain ⟨b, c, r1, r2, size, all, g1, g2, g3, hall⟩ := HA.out.2.1.at hj
              simp only [] at g1 g2 g3
              obtain ⟨p0, p1⟩ := pcs_get g3
              have hrow := HA.out.1.pair
              have z0 := hrow.cellAt (j * 2) (by show j * 2 < k * 2; omega)
              have z1 := hrow.cellAt (j * 2 + 1) (by show j * 2 + 1 < k * 2; omega)
              have HG := Lib.hid (And.intro g1 (And.intro g2 (And.intro g3 hall)))
              simp only [] at z0 z1
              rw [p0] at z0
              rw [p1] at z1
              have hlg : lg < wa.heap.size := (own_lt hrow (by simp only [Value.ownBlock])).2
              clear p0 p1 g1 g2 g3 hall hrow hbd
              by_cases h6 : kd = 6
              · subst h6
                go_upto_region 22 with (fail)
                have hmul : i * 1048850 ≤ 1048576 * 1048850 := Nat.mul_le_mul_right _ (Nat.le_trans hi hm)
                have HLn : Hid (all.length + 1 < 140737488355328) := by have := HG.out.2.2.2; show _ < _; omega
                go_cut [18] (fun s18 wx => ∃ (Q b' c' : Nat) (q1 q2 : Option Nat), s18 = .pointer (some ⟨Q, 0, none⟩) ∧ Hid (Blk wx Q 48 #[.pointer (some ⟨b', 0, none⟩), .pointer (some ⟨c', 0, none⟩)] ∧ SP (fam B ⟨some ⟨lg, 0, none⟩, k, lc, ps, ws ++ [⟨b', q1, size, all⟩], rs ++ [⟨c', q2, size, all⟩], H1, m1, hc1, eh, es, tt⟩) B wx ∧ SP (fam B ⟨some ⟨lg, 0, none⟩, k, lc, ps, ws, rs, H1, m1, hc1, eh, es, tt⟩) B wx ∧ Below B w0 wx))
                case first =>
                  have Hq : Hid (∀ W : World, Below wa.heap.size wa W → W.cell? ⟨lg, j * 2, none⟩ = some (.pointer (some ⟨b, 0, none⟩)) ∧ W.cell? ⟨lg, j * 2 + 1, none⟩ = some (.pointer (some ⟨c, 0, none⟩))) := fun W hW => ⟨(hW.cell (p := ⟨lg, j * 2, none⟩) hlg).trans z0, (hW.cell (p := ⟨lg, j * 2 + 1, none⟩) hlg).trans z1⟩
                  have HF1 : Hid (∀ X, Below wa.heap.size wa X → Calls Try.prog 10 #[.pointer (some ⟨b, 0, none⟩)] X (FkPost B ⟨some ⟨lg, 0, none⟩, k, lc, ps, ws, rs, H1, m1, hc1, eh, es, tt⟩ (fun b' r' => ⟨some ⟨lg, 0, none⟩, k, lc, ps, ws ++ [⟨b', r', size, all⟩], rs, H1, m1, hc1, eh, es, tt⟩) X)) := fun X hX => fork_sp (i := j) (c := c) (HA.out.1.keep hX) HG.out.1
                  have HR1 : Hid (∀ X, Below wa.heap.size wa X → Calls Try.prog 19 #[.pointer (some ⟨c, 0, none⟩)] X (FkPost B ⟨some ⟨lg, 0, none⟩, k, lc, ps, ws, rs, H1, m1, hc1, eh, es, tt⟩ (fun b' r' => ⟨some ⟨lg, 0, none⟩, k, lc, ps, ws, rs ++ [⟨b', r', size, all⟩], H1, m1, hc1, eh, es, tt⟩) X)) := fun X hX => rfork_sp (i := j) (HA.out.1.keep hX) HG.out.2.1 HLn.out
                  have HF2 : Hid (∀ X c' q2, SP (fam B ⟨some ⟨lg, 0, none⟩, k, lc, ps, ws, rs ++ [⟨c', q2, size, all⟩], H1, m1, hc1, eh, es, tt⟩) B X → Calls Try.prog 10 #[.pointer (some ⟨b, 0, none⟩)] X (FkPost B ⟨some ⟨lg, 0, none⟩, k, lc, ps, ws, rs ++ [⟨c', q2, size, all⟩], H1, m1, hc1, eh, es, tt⟩ (fun b' r' => ⟨some ⟨lg, 0, none⟩, k, lc, ps, ws ++ [⟨b', r', size, all⟩], rs ++ [⟨c', q2, size, all⟩], H1, m1, hc1, eh, es, tt⟩) X)) := fun X c' q2 hX => fork_sp (i := j) (c := c) hX HG.out.1
                  have HR2 : Hid (∀ X b' q1, SP (fam B ⟨some ⟨lg, 0, none⟩, k, lc, ps, ws ++ [⟨b', q1, size, all⟩], rs, H1, m1, hc1, eh, es, tt⟩) B X → Calls Try.prog 19 #[.pointer (some ⟨c, 0, none⟩)] X (FkPost B ⟨some ⟨lg, 0, none⟩, k, lc, ps, ws ++ [⟨b', q1, size, all⟩], rs, H1, m1, hc1, eh, es, tt⟩ (fun c' r' => ⟨some ⟨lg, 0, none⟩, k, lc, ps, ws ++ [⟨b', q1, size, all⟩], rs ++ [⟨c', r', size, all⟩], H1, m1, hc1, eh, es, tt⟩) X)) := fun X b' q1 hX => rfork_sp (i := j) hX HG.out.2.1 HLn.out
                  go_region_held3 (fun w' => w'.cell? ⟨lg, j * 2, none⟩ = some (.pointer (some ⟨b, 0, none⟩)) ∧ w'.cell? ⟨lg, j * 2 + 1, none⟩ = some (.pointer (some ⟨c, 0, none⟩)))
                    (first | (with_reducible exact ⟨z0, z1⟩) | (with_reducible exact ⟨p0, p1⟩) | (with_reducible exact ⟨q0, q1'⟩) | go_keep | (with_reducible exact ⟨(keep2 ns).trans q0, (keep2 ns).trans q1'⟩) | (with_reducible exact ⟨(keep2 ms).trans q0, (keep2 ms).trans q1'⟩))
                    (first | (go_at_call 10; refine (HF1.out _ (by first | (with_reducible exact (Below.refl _ _)) | (with_reducible exact (Below.refl _ _).drew) | (with_reducible exact (bmk_ (Below.refl _ _) _).drew) | (with_reducible exact bmk_ (Below.refl _ _) _))).mono ?_; rintro en wf ⟨b', q1, rfl, hSf, hbf, hof⟩; have hbF : Below wa.heap.size wa wf := (by first | (with_reducible exact bup (Below.refl _ wa) hbf) | (with_reducible exact bup ((Below.refl _ wa)).drew hbf) | (with_reducible exact bup (bmk_ (Below.refl _ wa) _).drew hbf) | (with_reducible exact bup (bmk_ (Below.refl _ wa) _) hbf)); obtain ⟨p0, p1⟩ := Hq.out wf hbF; have hs1 := hbf.size; (try simp only [World.size_drew, World.size_alloc] at hs1); (try (have of1 := hof wa.heap.size (by first | (simp only [World.size_drew, World.size_alloc]; omega) | (simp only [World.size_alloc]; omega) | omega | (show _ < World.size _; omega)) (HA.out.1.outOf (Nat.le_refl _)))); (try (have hzf : Blk wf wa.heap.size 48 #[.pointer none, .pointer none] := (by first | (with_reducible exact (Blk.new wa 48 #[.pointer none, .pointer none]).drew.below hbf) | (with_reducible exact (Blk.new wa 48 #[.pointer none, .pointer none]).below hbf))))) | (go_at_call 19; refine (HR2.out _ b' q1 (by first | (with_reducible exact hSf) | (with_reducible exact hSf.keep (Below.refl _ _).drew) | (with_reducible exact hSf.keep (bmk_ (Below.refl _ _) _).drew) | (with_reducible exact hSf.keep (bmk_ (Below.refl _ _) _)))).mono ?_; rintro en w2 ⟨c', q2, rfl, hS2, hb2, ho2⟩; have ms : ¬ lg = wf.heap.size := (by have := hbF.size; omega); have hbF2 : Below wa.heap.size wa w2 := (by first | (with_reducible exact bup hbF hb2) | (with_reducible exact bup (hbF).drew hb2) | (with_reducible exact bup (bmk_ hbF _).drew hb2) | (with_reducible exact bup (bmk_ hbF _) hb2)); obtain ⟨q0, q1'⟩ := Hq.out w2 hbF2; have hs2 := hb2.size; have ns : ¬ lg = wa.heap.size := (by omega); (try simp only [World.size_drew, World.size_alloc] at hs2); (try (have o2 := ho2 wa.heap.size (by first | (simp only [World.size_drew, World.size_alloc]; omega) | (simp only [World.size_alloc]; omega) | omega | (show _ < World.size _; omega)) of1)); (try (have o3 := ho2 wf.heap.size (by first | (simp only [World.size_drew, World.size_alloc]; omega) | (simp only [World.size_alloc]; omega) | omega | (show _ < World.size _; omega)) (hSf.outOf (Nat.le_refl _)))); (try (have hz2 : Blk w2 wa.heap.size 48 #[.pointer none, .pointer none] := (by first | (with_reducible exact hzf.drew.below hb2) | (with_reducible exact hzf.below hb2)); obtain ⟨u0, u1⟩ := hz2.two; have v0 := hz2.frozen 0; have v1 := hz2.frozen 1)); (try (have hz3 : Blk w2 wf.heap.size 48 #[.pointer none, .pointer none] := (by first | (with_reducible exact (Blk.new wf 48 #[.pointer none, .pointer none]).drew.below hb2) | (with_reducible exact (Blk.new wf 48 #[.pointer none, .pointer none]).below hb2)); obtain ⟨u0, u1⟩ := hz3.two; have v0 := hz3.frozen 0; have v1 := hz3.frozen 1))))
                  all_goals go_wp2_with fail
                  all_goals go_meet
                  · have hnb : Below w2.heap.size w2 (w2.alloc (.cells #[.pointer (some ⟨b', 0, none⟩), .pointer (some ⟨c', 0, none⟩)] 48)) := (Below.refl _ _).alloc (Nat.le_refl _) _
                    exact ⟨w2.heap.size, b', c', q1, q2, rfl, Blk.new _ _ _, hS2.keep hnb, HA.out.1.keep (bup hbF2 hnb), HA.out.2.2.trans ((bup hbF2 hnb).mono HA.out.1.le)⟩
                  · have hfr : Fr (fun g => g = wf.heap.size) w2 ((w2.setCell ⟨wf.heap.size, 0, none⟩ (.pointer (some ⟨b', 0, none⟩))).setCell ⟨wf.heap.size, 1, none⟩ (.pointer (some ⟨c', 0, none⟩))) := ((Fr.refl _ w2).set1 0 _).set1 1 _
                    have h1 := hbF.size
                    have h2 := HA.out.1.le
                    exact ⟨wf.heap.size, b', c', q1, q2, rfl, (hz3.set_ 0 _).set_ 1 _, hS2.outFr o3 hfr, (HA.out.1.keep hbF2).outFr (HA.out.1.outOf h1) hfr, (HA.out.2.2.trans (hbF2.mono h2)).trans (hfr.below (Nat.le_trans h2 hbF2.size) (fun k e => by omega))⟩
                  · have hfr : Fr (fun g => g = wa.heap.size) w2 ((w2.setCell ⟨wa.heap.size, 0, none⟩ (.pointer (some ⟨b', 0, none⟩))).setCell ⟨wa.heap.size, 1, none⟩ (.pointer (some ⟨c', 0, none⟩))) := ((Fr.refl _ w2).set1 0 _).set1 1 _
                    have h2 := HA.out.1.le
                    exact ⟨wa.heap.size, b', c', q1, q2, rfl, (hz2.set_ 0 _).set_ 1 _, hS2.outFr o2 hfr, (HA.out.1.keep hbF2).outFr (HA.out.1.outOf (Nat.le_refl _)) hfr, (HA.out.2.2.trans (hbF2.mono h2)).trans (hfr.below (Nat.le_trans h2 hbF2.size) (fun k e => by omega))⟩
                case rest =>
                  obtain ⟨Q, b', c', q1, q2, rfl, HC⟩ := hcut
                  obtain ⟨wx, rfl⟩ : ∃ wx : World, wx = wc := ⟨_, rfl⟩
                  obtain ⟨p0, p1⟩ := HC.out.1.two
                  have hql := HC.out.1.lt
                  have HJ4 : Hid (GJ ⟨some ⟨lg, 0, none⟩, k, lc, ps, ws, rs, H1, m1, hc1, eh, es, tt⟩ ((i + 1) * 1048850)) := HA.out.2.1.mono (step_num i 0 (Nat.zero_le _)).2
                  by_cases hk4 : k < 5
                  · have hk4' : (k : Int) < 5 := by omega
                    have HRow : Hid (wx.ownsRow B 48 2 (.slice (some ⟨lg, 0, none⟩) k lc) k (pcs ps)) := HC.out.2.1.pair
                    have HBs : Hid (B ≤ wx.heap.size) := HC.out.2.1.le
                    go_wp2_with (at_builtin; refine wpList_append_rd (w := wx.alloc (.cells #[.pointer (some ⟨b', 0, none⟩), .pointer (some ⟨c', 0, none⟩)] 48)) rfl (.tmp 101) (.tmp 103) 41 rfl B 48 i0 _ 2 16 Try.underlying41 hi0 hz0 hz1 hz2 rfl (by decide) (.slice (some ⟨lg, 0, none⟩) k lc) k (pcs ps) rfl (HRow.out.alloc _) (some ⟨wx.heap.size, 0, none⟩) 1 1 (pcs [(b', c')]) rfl (Rd.of_blk' (Blk.new _ _ _) rfl rfl) (pcs_one _) (by simp only [maxLen]; omega) (by omega) (by have := HBs.out; simp; omega) ?_; intro L2 lc2 w3 hown3 hg3 hat3)
                    go_roundw
                    case rel =>
                      rw [← pcs_append] at hown3
                      exact ⟨i + 1, ⟨L2, k + 1, lc2, ps ++ [(b', c')], ws ++ [⟨b', q1, size, all⟩], rs ++ [⟨c', q2, size, all⟩], H1, m1, hc1, eh, es, tt⟩, by go_num, by omega, rfl, rfl, by show 0 < k + 1; omega, by show k + 1 ≤ 5; omega, by show m1 ≤ i + 1; omega, HC.out.2.1.pairUpd _ hown3 hg3 hat3, HJ4.out.pair rfl (Nat.le_trans HG.out.2.2.2 (step_num i 0 (Nat.zero_le _)).2), HC.out.2.2.2.trans (((Below.refl _ wx).alloc HBs.out _).grown hg3 (by have := HBs.out; simp; omega) (fun g hg => (own_lt HRow.out hg).1))⟩
                    case measure => simp [intOf]; omega
                  · have hk4' : ¬ (k : Int) < 5 := by omega
                    go_wp2_with fail
                    go_roundw
                    case rel => exact ⟨i + 1, ⟨some ⟨lg, 0, none⟩, k, lc, ps, ws, rs, H1, m1, hc1, eh, es, tt⟩, by go_num, by omega, rfl, rfl, hk1, hk5, by show m1 ≤ i + 1; omega, HC.out.2.2.1, HJ4.out, HC.out.2.2.2⟩
                    case measure => simp [intOf]; omega
              · have h6' : (kd == 6) = false := beq_eq_false_iff_ne.2 h6
                go_upto_region 28 with (fail)
                have hmul : i * 1048850 ≤ 1048576 * 1048850 := Nat.mul_le_mul_right _ (Nat.le_trans hi hm)
                have HPl : Hid (∀ W, Below wa.heap.size wa W → Calls Try.prog 20 #[.agg #[.pointer (some ⟨b, 0, none⟩), .pointer (some ⟨c, 0, none⟩)], .agg #[.int .i64 kd, .int .i64 wn, .int .i64 dd, .int .i64 nn, .slice A n cc], .slice H1 m1 hc1] W (PlPost B ⟨some ⟨lg, 0, none⟩, k, lc, ps, ws, rs, H1, m1, hc1, eh, es, tt⟩ (i * 1048850 + n + 273) W)) := fun W hW =>
                  plays_any B j (i * 1048850) b c size r1 r2 all ⟨some ⟨lg, 0, none⟩, k, lc, ps, ws, rs, H1, m1, hc1, eh, es, tt⟩ kd wn dd nn A n cc lb W (HA.out.1.keep hW) HA.out.2.1 HG.out.1 HG.out.2.1 HG.out.2.2.1 (by omega) HG.out.2.2.2 (by show m1 ≤ 1048576; omega) (HII.out W (HA.out.2.2.trans (hW.mono HA.out.1.le))) HIB.out hncc
                obtain ⟨t0, t1, t2, t3, t4⟩ := HN.out.five
                have hsa : B ≤ wa.heap.size := HA.out.1.le
                go_region_with (first | (go_at_call 20; refine (HPl.out _ (by first | (with_reducible exact (Below.refl _ _)) | (with_reducible exact (Below.refl _ _).drew))).mono ?_; rintro en w3 ⟨s', rfl, hS3, hb3, hJ3, hk3, hL3, hlc3, hm3⟩))
                all_goals
                  have HB3 : Hid (Below B w0 w3) := by first | exact HA.out.2.2.trans hb3 | exact HA.out.2.2.drew.trans hb3
                  have HS3 := Lib.hid hS3
                  have HJ3 : Hid (GJ s' ((i + 1) * 1048850)) := hJ3.mono (step_num i n hn).1
                  have H37 := Lib.hid (And.intro hk3 (And.intro hL3 (And.intro hlc3 hm3)))
                  clear hS3 hb3 hJ3 hk3 hL3 hlc3 hm3
                  go_wp2_with fail
                  go_roundw
                  case rel =>
                    exact ⟨i + 1, s', by go_num, by omega, rfl, by rw [H37.out.1, H37.out.2.1, H37.out.2.2.1], by rw [H37.out.1]; exact hk1, by rw [H37.out.1]; exact hk5, by have : s'.m ≤ m1 + 1 := H37.out.2.2.2; omega, HS3.out, HJ3.out, HB3.out⟩
                  case measure => simp [intOf]; omega
          · obtain rfl : m = i := by omega
            obtain ⟨wl, rfl⟩ : ∃ wl : World, wl = wr := ⟨_, rfl⟩
            obtain ⟨L, k, lc, ps, ws, rs, H1, m1, hc1, eh, es, tt⟩ := s
            simp only [] at hk1 hk5 hmi
            obtain ⟨lg, cap, hv, _, _⟩ := H.out.1.pair.form hk1
            injection hv with hA _ hcap
            subst hA
            subst hcap
            have hkl : k ≤ lc := own_le H.out.1.pair
            have HX0 : Hid (Below wl.heap.size wl wl) := Below.refl _ _
            go_wp2_with fail
            go_loopw [120] (fun s120 wr => ∃ (i : Nat), s120 = .int .i64 (i : Int) ∧ i ≤ k ∧ Hid (Below wl.heap.size wl wr)) (fun s120 _ => k - (intOf s120).toNat)
            case atStart => exact ⟨0, rfl, Nat.zero_le _, HX0⟩
            case round =>
              clear HX0
              obtain ⟨j, rfl, hj, Hb⟩ := hrel
              have HR := Lib.hid (H.out.1.keep Hb.out)
              by_cases hjk : j < k
              · have hji : (j : Int) < (k : Int) := by omega
                obtain ⟨b, c, r1, r2, size, all, g1, g2, g3, hall⟩ := H.out.2.1.at hjk
                simp only [] at g1 g2 g3
                obtain ⟨p0, p1⟩ := pcs_get g3
                have hrow := HR.out.pair
                have z0 := hrow.cellAt (j * 2) (by show j * 2 < k * 2; omega)
                have z1 := hrow.cellAt (j * 2 + 1) (by show j * 2 + 1 < k * 2; omega)
                simp only [] at z0 z1
                rw [p0] at z0
                rw [p1] at z1
                have HT := Lib.hid (told_any B b c size r1 r2 all (wr.alloc (.cells #[.pointer (some ⟨b, 0, none⟩), .pointer (some ⟨c, 0, none⟩)] 48)) ((HR.out.keep ((Below.refl _ _).alloc (Nat.le_refl _) _)).win g1) ((HR.out.keep ((Below.refl _ _).alloc (Nat.le_refl _) _)).ref g2) (by have : m * 1048850 ≤ 1048576 * 1048850 := Nat.mul_le_mul_right _ hm; omega))
                clear p0 p1 g1 g2 g3 hall hrow
                go_wp2_with fail
                refine HT.out.mono ?_
                rintro e w1 ⟨rfl, hb1⟩
                have Hb1 : Hid (Below wl.heap.size wl w1) := bup (bmk_ Hb.out _) hb1
                clear hb1 z0 z1 HT
                go_wp2_with fail
                go_roundw
                case rel => exact ⟨j + 1, by go_num, by omega, Hb1⟩
                case measure => simp [intOf]; omega
              · obtain rfl : k = j := by omega
                have HJ := Lib.hid H.out.2.1
                have hbk := HR.out.book
                rw [HJ.out.ee] at hbk
                have Hbk := Lib.hid (InH.of_own hbk)
                clear hbk
                go_wp2_with fail
                refine (held_any H1 m1 hc1 B es wr Hbk.out HR.out.bookOwn HR.out.bookSep HJ.out.ok HR.out.le (by omega)).mono ?_
                rintro e wz ⟨rfl, hbz⟩
                have HBz : Hid (Below w.heap.size w wz) := HBw.out wz ((H.out.2.2.trans (Hb.out.mono H.out.1.le)).trans hbz)
                go_wp2_with fail
                go_ret
                exact ⟨rfl, by first | exact HBz.out | (rw [← hZ]; exact HBz.out)⟩
end Go.Proofs.Ytcfaocbdhfmhbaa
