/-
  The iterator of the pieces. Conditions: legal cuts; the data lie in memory, and no round changes them.
-/
import Derived.Test.YtglkahonejblpaaPcs
import Derived.Test.YtglkahonejblpaaRef3
import Derived.Maps.OwnIn
namespace Go.Proofs.Ytglkahonejblpaa
open Go.RowKit Go.Shelf
attribute [local go_sem] Oper.semAt_some

theorem yield_any {P : Program} {a b l : Nat} {args : Array Value} {W : World} {R : Ending → World → Prop} (h : YieldAt Fence.wide a P l args W R) : YieldAt Fence.wide b P l args W R := by
  obtain ⟨fn, tmps, assign, body, h1, h2⟩ := h
  refine ⟨fn, tmps, assign, body, h1, h2.1, fun c cs hr => ?_⟩
  exact h2.2 c cs (by simp [Fence.room, Fence.inRound, Fence.wide])
theorem yield_round {P : Program} {a l l' : Nat} {args : Array Value} {W : World} {R : Ending → World → Prop} (h : YieldAt Fence.wide a P l args W R) : YieldAt (Fence.wide.inRound l') a P l args W R := h
/-- between two rounds of the inner loop -/
structure PcRel (S cb ob : Nat) (least most bits : Int) (A : Option Addr) (m c : Nat) (l : List UInt8) (lp : Nat) (J : Nat → World → Prop) (k : Nat) (W : World) : Prop where
  j : J k W
  bc : Blk W cb 23 #[.int .i64 least, .int .i64 most, .int .i64 bits]
  bo : Blk W ob 32 #[.slice A m c]
  ins : In W A m l
  by_ : Blk W S 80 #[.func (.yield lp) #[] #[]]
  bf : Blk W (S + 2) 3 #[.int .i64 (prv 0 (cutsL least most bits l) k : Int)]
/-- behind a round that goes on -/
theorem pc_next {S cb ob : Nat} {least most bits : Int} {A : Option Addr} {m c k e : Nat} {l : List UInt8} {lp : Nat} {J : Nat → World → Prop} {W W4 W5 : World} (h : PcRel S cb ob least most bits A m c l lp J k W) (hb : Below W.heap.size W W4)
    (hk : KeepAt (fun g => (S ≤ g ∧ g < S + 8) ∨ g = cb ∨ g = ob ∨ (0 < m ∧ ∃ ad, A = some ad ∧ g = ad.block)) W4 W5) (hJ : J (k + 1) W5) (hJf : ∀ k W W', J k W → Fr (fun g => S ≤ g ∧ g < S + 8) W W' → J k W')
    (hcS : cb < S) (hoS : ob < S) (hAS : 0 < m → ∀ ad, A = some ad → ad.block < S) (hsW : S + 7 < W.heap.size) (hnx : prv 0 (cutsL least most bits l) (k + 1) = e) :
    (W5.setCell ⟨S + 2, 0, none⟩ (.int .i64 (e : Int))).heap[S + 5]? = W.heap[S + 5]? ∧ (W5.setCell ⟨S + 2, 0, none⟩ (.int .i64 (e : Int))).heap[S + 6]? = W.heap[S + 6]? ∧
      PcRel S cb ob least most bits A m c l lp J (k + 1) (W5.setCell ⟨S + 2, 0, none⟩ (.int .i64 (e : Int))) ∧ KeepAt (fun g => g = S + 7 ∨ g = S + 4 ∨ g = S + 3 ∨ (0 < m ∧ ∃ ad, A = some ad ∧ g = ad.block)) W (W5.setCell ⟨S + 2, 0, none⟩ (.int .i64 (e : Int))) := by
  have hin : ∀ g, (S ≤ g ∧ g < S + 8) ∨ g = cb ∨ g = ob ∨ (0 < m ∧ ∃ ad, A = some ad ∧ g = ad.block) → g < W.heap.size := by
    rintro g (e1 | e1 | e1 | ⟨h0, ad, had, e1⟩)
    · omega
    · omega
    · omega
    · have := hAS h0 ad had; omega
  have same : ∀ g, (S ≤ g ∧ g < S + 8) ∨ g = cb ∨ g = ob ∨ (0 < m ∧ ∃ ad, A = some ad ∧ g = ad.block) → W5.heap[g]? = W.heap[g]? := fun g hg => (hk.2 g hg).trans (hb.block g (hin g hg))
  have far : ∀ g, g ≠ S + 2 → (W5.setCell ⟨S + 2, 0, none⟩ (.int .i64 (e : Int))).heap[g]? = W5.heap[g]? := fun g hg => Below.heap_setCell _ _ _ _ hg
  have hsz : W.heap.size ≤ W5.heap.size := Nat.le_trans hb.size hk.1
  refine ⟨(far _ (by omega)).trans (same _ (.inl (by omega))), (far _ (by omega)).trans (same _ (.inl (by omega))), ⟨?_, ?_, ?_, ?_, ?_, ?_⟩, ?_, ?_⟩
  · exact hJf _ _ _ hJ ((Fr.refl _ _).setCell (p := ⟨S + 2, 0, none⟩) (.inl (by simp)) _)
  · exact h.bc.same ((far _ (by omega)).trans (same _ (.inr (.inl rfl))))
  · exact h.bo.same ((far _ (by omega)).trans (same _ (.inr (.inr (.inl rfl)))))
  · refine ⟨h.ins.1.keep0 fun h0 ad had => ?_, fun h0 ad had => ?_, h.ins.2.2⟩
    · have := hAS h0 ad had
      exact (far _ (by omega)).trans (same _ (.inr (.inr (.inr ⟨h0, ad, had, rfl⟩))))
    · have := hAS h0 ad had
      simp only [World.setCell, Array.size_modify]
      omega
  · exact h.by_.same ((far _ (by omega)).trans (same _ (.inl (by omega))))
  · rw [hnx]
    exact (h.bf.same (same _ (.inl (by omega)))).set_ 0 _
  · simp only [World.setCell, Array.size_modify]
    exact hsz
  · rintro g (e1 | e1 | e1 | ⟨h0, ad, had, e1⟩)
    · exact (far _ (by omega)).trans (same _ (.inl (by omega)))
    · exact (far _ (by omega)).trans (same _ (.inl (by omega)))
    · exact (far _ (by omega)).trans (same _ (.inl (by omega)))
    · have := hAS h0 ad had
      exact (far _ (by omega)).trans (same _ (.inr (.inr (.inr ⟨h0, ad, had, e1⟩))))
theorem pc_leave {S cb ob : Nat} {A : Option Addr} {m : Nat} {W W4 W5 : World} (hb : Below W.heap.size W W4)
    (hk : KeepAt (fun g => (S ≤ g ∧ g < S + 8) ∨ g = cb ∨ g = ob ∨ (0 < m ∧ ∃ ad, A = some ad ∧ g = ad.block)) W4 W5)
    (hAS : 0 < m → ∀ ad, A = some ad → ad.block < S) (hsW : S + 7 < W.heap.size) :
    W5.heap[S + 5]? = W.heap[S + 5]? ∧ W5.heap[S + 6]? = W.heap[S + 6]? ∧ KeepAt (fun g => g = S + 7 ∨ g = S + 4 ∨ g = S + 3 ∨ (0 < m ∧ ∃ ad, A = some ad ∧ g = ad.block)) W W5 := by
  have same : ∀ g, (S ≤ g ∧ g < S + 8) ∨ (0 < m ∧ ∃ ad, A = some ad ∧ g = ad.block) → W5.heap[g]? = W.heap[g]? := fun g hg => by
    rcases hg with hg | hg
    · exact (hk.2 g (.inl hg)).trans (hb.block g (by omega))
    · obtain ⟨h0, ad, had, e1⟩ := hg
      have := hAS h0 ad had
      exact (hk.2 g (.inr (.inr (.inr ⟨h0, ad, had, e1⟩)))).trans (hb.block g (by omega))
  refine ⟨same _ (.inl (by omega)), same _ (.inl (by omega)), Nat.le_trans hb.size hk.1, ?_⟩
  rintro g (e1 | e1 | e1 | e1)
  · exact same _ (.inl (by omega))
  · exact same _ (.inl (by omega))
  · exact same _ (.inl (by omega))
  · exact same _ (.inr e1)
set_option maxRecDepth 100000 in
set_option maxHeartbeats 4000000 in
theorem pieces1_lv (n : Nat) (hn : 3 ≤ n) (lp cb ob : Nat) (least most bits : Int) (hok : CutsOk least most bits) (A : Option Addr) (m c : Nat) (l : List UInt8) (J : Nat → World → Prop) (Jx : World → Prop) (W0 : World)
    (hC : Blk W0 cb 23 #[.int .i64 least, .int .i64 most, .int .i64 bits]) (hD : Blk W0 ob 32 #[.slice A m c]) (hI : In W0 A m l) (hmc : m ≤ c) (hm : m ≤ 17179869184) (h0 : J 0 W0)
    (hJf : ∀ k W W', J k W → Fr (fun g => W0.heap.size ≤ g ∧ g < W0.heap.size + 8) W W' → J k W') (hXf : ∀ W W', Jx W → Fr (fun g => W0.heap.size ≤ g ∧ g < W0.heap.size + 8) W W' → Jx W')
    (hY : ∀ k (x : List UInt8) (O : Option Addr) (oc : Nat) Wp W, J k Wp → (piecesL least most bits l)[k]? = some x → W0.heap.size + 8 ≤ Wp.heap.size → Below Wp.heap.size Wp W → W.ownsRow Wp.heap.size 5 1 (.slice O x.length oc) x.length (bys x) →
      YieldAt Fence.wide (n - 1) Try.prog lp #[.slice O x.length oc] W fun e W' => (e = .returned (.bool true) ∧ J (k + 1) W' ∧ KeepAt (fun g => (W0.heap.size ≤ g ∧ g < W0.heap.size + 8) ∨ g = cb ∨ g = ob ∨ (0 < m ∧ ∃ ad, A = some ad ∧ g = ad.block)) W W') ∨ (e = .returned (.bool false) ∧ Jx W' ∧ KeepAt (fun g => (W0.heap.size ≤ g ∧ g < W0.heap.size + 8) ∨ g = cb ∨ g = ob ∨ (0 < m ∧ ∃ ad, A = some ad ∧ g = ad.block)) W W')) :
    CallsIn Fence.wide n Try.prog 34 #[.func (.yield lp) #[] #[], .pointer (some ⟨cb, 0, none⟩), .pointer (some ⟨ob, 0, none⟩)] W0 fun e W' => (∃ v, e = .returned v) ∧ (J (piecesL least most bits l).length W' ∨ Jx W') := by
  obtain ⟨S, hS⟩ : ∃ S, W0.heap.size = S := ⟨_, rfl⟩
  rw [hS] at hJf hXf hY
  have hcS : cb < S := by rw [← hS]; exact hC.lt
  have hoS : ob < S := by rw [← hS]; exact hD.lt
  have hAS : Hid (0 < m → ∀ ad, A = some ad → ad.block < S) := fun h0 ad had => by rw [← hS]; exact hI.2.1 h0 ad had
  have HJf := Lib.hid hJf
  have HXf := Lib.hid hXf
  have HY := Lib.hid hY
  have Hok := Lib.hid hok
  obtain ⟨W1, hW1⟩ : ∃ W1, W0.alloc (.cells #[.func (.yield lp) #[] #[]] 80) = W1 := ⟨_, rfl⟩
  have hb1 : Below W0.heap.size W0 W1 := by rw [← hW1]; exact (Below.refl _ _).alloc (Nat.le_refl _) _
  have hC1 := hC.below hb1
  have hD1 := hD.below hb1
  have hY1 : Blk W1 S 80 #[.func (.yield lp) #[] #[]] := by rw [← hW1]; exact Blk.new_at hS.symm
  have hz1 : W1.heap.size = S + 1 := by rw [← hW1, World.size_alloc, hS]
  obtain ⟨c0, c1, c2⟩ := hC1.three
  have d0 : W1.cell? ⟨ob, 0, none⟩ = some (.slice A m c) := hD1.cell 0
  have HL := Lib.hid (Legal_ok least most bits W1 hok)
  have Hb1 : Hid (Below S W0 W1) := by rw [← hS]; exact hb1
  have HI := Lib.hid hI
  have H0 := Lib.hid h0
  have HY1 := Lib.hid hY1
  have HC1 := Lib.hid hC1
  have HD1 := Lib.hid hD1
  have hz1' : S < W1.heap.size := by omega
  have h1n : 1 ≤ n := by omega
  have h2n : 1 ≤ n - 1 := by omega
  have h3n : 1 ≤ n - 1 - 1 := by omega
  have hcW : cb < W1.heap.size := by omega
  have hoW : ob < W1.heap.size := by omega
  have Hz1 := Lib.hid hz1
  have HS := Lib.hid hS
  clear hJf hXf hY hC hD hI h0 hok hb1 hC1 hD1 hY1 hz1 hS
  refine callsIn_of_wp_marks Try.func34 rfl trivial ?_ rfl
  simp only [Try.ntmps34, List.size_toArray, List.length_cons, List.length_nil, Nat.reduceAdd, Nat.reduceSub, Array.replicate_succ, Array.replicate_zero, List.push_toArray, List.append_toArray, List.nil_append, List.cons_append]
  gi_wp2
  refine ⟨trivial, ?_⟩
  refine (callsIn_wide.2 HL.out).mono ?_
  rintro e w2 ⟨rfl, rfl⟩
  gi_wp2
  refine ⟨trivial, ?_⟩
  refine (callsIn_wide.2 (ends_any A m c least most bits _)).mono ?_
  rintro e w3 ⟨rfl, rfl⟩
  gi_wp2
  obtain ⟨N, hN⟩ : ∃ N, W1.heap.size = N := ⟨_, rfl⟩
  have hNS : N = S + 1 := by rw [← hN]; exact Hz1.out
  have HP := Lib.hid (piecesL_at least most bits l)
  have HPR := Lib.hid (piecesL_runs least most bits l)
  obtain ⟨P, hP⟩ : ∃ P, piecesL least most bits l = P := ⟨_, rfl⟩
  obtain ⟨cl, hcl⟩ : ∃ cl, cutsL least most bits l = cl := ⟨_, rfl⟩
  have hPc : P.length = cl.length := by
    have := congrArg List.length HPR.out.1
    rw [runs_length, hP, hcl] at this
    exact this
  obtain ⟨wS, hwS⟩ : ∃ wS, (((W1.alloc (.cells #[.int .i64 least, .int .i64 most, .int .i64 bits] 23)).alloc (.cells #[.int .i64 0] 3)).alloc (.cells #[.slice A m c] 32)).alloc (.cells #[.int .i64 least, .int .i64 most, .int .i64 bits] 23) = wS := ⟨_, rfl⟩
  have hsz : wS.heap.size = N + 4 := by rw [← hwS, ← hN]; simp
  have hbS : Below S W0 wS := by
    have : Below W0.heap.size W0 wS := by rw [← hwS]; exact bmk_ (bmk_ (bmk_ (bmk_ (by rw [HS.out]; exact Hb1.out) _) _) _) _
    rw [HS.out] at this
    exact this
  have hb1S : Below W1.heap.size W1 wS := by rw [← hwS]; exact bmk_ (bmk_ (bmk_ (bmk_ (Below.refl _ _) _) _) _) _
  have hf2 : Blk wS (N + 1) 3 #[.int .i64 0] := by rw [← hwS, ← hN]; exact ((Blk.new_at (by simp)).alloc _).alloc _
  have hx1 : Blk wS (N + 2) 32 #[.slice A m c] := by rw [← hwS, ← hN]; exact (Blk.new_at (by simp)).alloc _
  have hx2 : Blk wS (N + 3) 23 #[.int .i64 least, .int .i64 most, .int .i64 bits] := by rw [← hwS, ← hN]; exact Blk.new_at (by simp)
  have hIS : In wS A m l := HI.out.below (by rw [HS.out]; exact hbS)
  have hR0 : PcRel S cb ob least most bits A m c l lp J 0 wS := ⟨HJf.out 0 _ _ H0.out ⟨hbS.os, hbS.tape, hbS.output, hbS.size, fun g hg hn => hbS.block g (by rw [← HS.out]; exact hg)⟩, HC1.out.below hb1S, HD1.out.below hb1S, hIS, HY1.out.below hb1S, by rw [show S + 2 = N + 1 by omega]; exact hf2⟩
  rw [hwS, hN]
  have HX := Lib.hid (And.intro hx1 (And.intro hx2 (And.intro hIS hR0)))
  have Hcl := Lib.hid hcl
  have HP2 := Lib.hid hP
  have HPc := Lib.hid hPc
  have Hlen := Lib.hid HI.out.len
  clear hwS hbS hb1S hf2 hx1 hx2 hIS hR0 hcl hP hPc c0 c1 c2 d0
  refine range_lv (n := n) h1n (gf := 37) (lb := #[.pointer (some ⟨N + 3, 0, none⟩), .pointer (some ⟨N + 2, 0, none⟩)]) rfl (enters_of Try.func37 (by kernel_rfl) rfl) rfl .ret
    (PcRel S cb ob least most bits A m c l lp J) Jx (fun k v W => (∃ e : Nat, v = .int .i64 (e : Int) ∧ cl[k]? = some e) ∧ N + 6 < W.heap.size) (fun g => g = N + 6) (fun g => g = N + 6 ∨ g = N + 3 ∨ g = N + 2 ∨ (0 < m ∧ ∃ ad, A = some ad ∧ g = ad.block)) P.length (N + 4) hsz ?kk ?oo ?i1 ?i2 ?x1 ?x2 ?v1 HX.out.2.2.2 ?iter
    (fun v => { tmps := #[.func (.yield lp) #[] #[], .pointer (some ⟨cb, 0, none⟩), .pointer (some ⟨ob, 0, none⟩), .pointer (some ⟨W0.heap.size, 0, none⟩), .pointer (some ⟨N + 1, 0, none⟩), v, .agg #[.int .i64 least, .int .i64 most, .int .i64 bits], .int .i64 0, .bool false, .slice A m c, .agg #[.int .i64 least, .int .i64 most, .int .i64 bits], .func (.func 37) #[] #[.pointer (some ⟨N + 1 + 1 + 1, 0, none⟩), .pointer (some ⟨N + 1 + 1, 0, none⟩)], v, undef, undef, undef, undef, undef, undef, undef, undef, undef], defers := [] }) ?assign ?body ?done ?stop
  case kk =>
    rintro g (h | h | h | ⟨h0, ad, had, h⟩)
    · omega
    · omega
    · omega
    · have := hAS.out h0 ad had; omega
  case oo => intro g h; omega
  case i1 =>
    intro k W W' h hF
    exact ⟨HJf.out k _ _ h.j (hF.mono (fun g _ e => by omega)), h.bc.fr hF (by omega), h.bo.fr hF (by omega), h.ins.fr hF (fun h0 ad had => by have := hAS.out h0 ad had; omega), h.by_.fr hF (by omega), h.bf.fr hF (by omega)⟩
  case i2 =>
    intro k W W' h hF
    exact ⟨HJf.out k _ _ h.j (hF.mono (fun g _ e => by omega)), h.bc.fr hF (by omega), h.bo.fr hF (by omega), h.ins.fr hF (fun h0 ad had => by have := hAS.out h0 ad had; omega), h.by_.fr hF (by omega), h.bf.fr hF (by omega)⟩
  case x1 => intro W W' h hF; exact HXf.out _ _ h (hF.mono (fun g _ e => by omega))
  case x2 => intro W W' h hF; exact HXf.out _ _ h (hF.mono (fun g _ e => by omega))
  case v1 => intro k v W W' h hF; exact ⟨h.1, Nat.lt_of_lt_of_le h.2 hF.size⟩
  case iter =>
    intro J' Jx' r hJ0 hJf' hXf' hJI hY'
    have hsz2 : ((wS.alloc (.deferred (some []))).alloc (.loop r)).heap.size = N + 6 := by simp [hsz]
    have hbl : Below wS.heap.size wS ((wS.alloc (.deferred (some []))).alloc (.loop r)) := ((Below.refl _ _).alloc (Nat.le_refl _) _).alloc (by simp) _
    have := ends1_lv (n - 1) h2n (N + 4 + 1) (N + 3) (N + 2) least most bits Hok.out A m c l (fun pre W => J' pre.length W) Jx' _ (HX.out.2.1.below hbl) (HX.out.1.below hbl) (HX.out.2.2.1.below hbl) hmc hJ0 (by rw [hsz2]; exact fun pre W W' h hF => hJf' _ _ _ h hF) (by
      rw [hsz2]
      rintro pre x W hJ ⟨rest, hr⟩ hsW
      have hkl : pre.length < P.length := by rw [HPc.out, ← Hcl.out, hr]; simp
      refine (hY' pre.length (.int .i64 (x : Int)) W hJ ⟨⟨x, rfl, by rw [← Hcl.out, hr]; simp⟩, hsW⟩ hkl).mono ?_
      rintro e W' (⟨h1, h2, h3⟩ | ⟨h1, h2, _⟩)
      · exact .inl ⟨h1, by rw [List.length_append]; exact h2, h3⟩
      · exact .inr ⟨h1, h2⟩)
    refine this.mono ?_
    rintro e W' ⟨h1, h2⟩
    refine ⟨h1, ?_⟩
    rw [HPc.out, ← Hcl.out]
    exact h2
  case assign =>
    intro v W R hR
    clear hNS
    gi_wp2
    exact hR
  case body =>
    rintro k v W h ⟨⟨e, rfl, he⟩, hsW⟩ hk hlt
    have HNS := Lib.hid hNS
    obtain ⟨x, hx⟩ : ∃ x, P[k]? = some x := ⟨_, List.getElem?_eq_getElem hk⟩
    obtain ⟨h1, h2, h3⟩ := HP.out k x (by rw [HP2.out]; exact hx)
    rw [Hcl.out] at h1 h2 h3
    have hbf := h.bf
    rw [Hcl.out] at hbf
    have hnx := prv_next (s := 0) he
    obtain ⟨f, hf⟩ : ∃ f, prv 0 cl k = f := ⟨_, rfl⟩
    rw [hf] at h1 h2 h3 hbf
    have hef : e = f + x.length := by rw [h1] at he; exact (Option.some.inj he).symm
    have hlm := Hlen.out
    have hxl : e - f = x.length := by omega
    obtain ⟨A2, hA2⟩ : ∃ A2, (if c = f then A else A.map (·.add f)) = A2 := ⟨_, rfl⟩
    have HPc2 : Hid (PcIn A m l (A2, c - f, x)) := by rw [← hA2]; exact PcIn.mk hmc hlm h2 (by omega)
    have HPI : Hid (∀ Wz, Below W.heap.size W Wz → Calls Try.prog 35 #[.slice A2 (e - f) (c - f)] Wz fun e' w' => ∃ O oc, e' = .returned (.slice O (e - f) oc) ∧ w'.ownsRow Wz.heap.size 5 1 (.slice O x.length oc) x.length (bys x) ∧ Below Wz.heap.size Wz w') := fun Wz hW => by
      rw [hxl]
      exact piece_any A2 x.length (c - f) x Wz (HPc2.out.1 Wz (h.ins.below hW)) (by omega)
    have hfe : f ≤ e ∧ e ≤ c ∧ f ≤ c ∧ e ≤ m := by omega
    have hfe' : (f : Int) ≤ (e : Int) ∧ (e : Int) ≤ (c : Int) := by omega
    have hy0 := h.by_
    rw [← HS.out] at hy0
    have y0 := hy0.one
    have d0 : W.cell? ⟨ob, 0, none⟩ = some (.slice A m c) := h.bo.cell 0
    have f0 : W.cell? ⟨N + 1, 0, none⟩ = some (.int .i64 (f : Int)) := by rw [show N + 1 = S + 2 by omega]; exact hbf.one
    have hyl := hy0.lt
    have hol := h.bo.lt
    have hfl : N + 1 < W.heap.size := by omega
    have HH := Lib.hid h
    have Hx := Lib.hid hx
    have Hxl := Lib.hid hxl
    have Hnx := Lib.hid hnx
    have HYY : Hid (∀ (O : Option Addr) (oc : Nat) Wz W4, Below W.heap.size W Wz → Below Wz.heap.size Wz W4 → W4.ownsRow Wz.heap.size 5 1 (.slice O x.length oc) x.length (bys x) → YieldAt (Fence.wide.inRound (N + 4 + 1)) (n - 1 - 1 - 1) Try.prog lp #[.slice O (e - f) oc] W4 fun e' W' => ∃ b : Bool, e' = .returned (.bool b) ∧
        Hid ((b = true → J (k + 1) W') ∧ (b = false → Jx W') ∧ KeepAt (fun g => (S ≤ g ∧ g < S + 8) ∨ g = cb ∨ g = ob ∨ (0 < m ∧ ∃ ad, A = some ad ∧ g = ad.block)) W4 W')) := fun O oc Wz W4 hz h4 hO => by
      rw [Hxl.out]
      refine yield_round (yield_any ((HY.out k x O oc Wz W4 (HJf.out k _ _ HH.out.j (Fr.of_below hz)) (by rw [HP2.out]; exact Hx.out) (by have := hz.size; omega) h4 hO).mono ?_))
      rintro e' W' (⟨q1, q2, q3⟩ | ⟨q1, q2, q3⟩)
      · exact ⟨true, q1, fun _ => q2, (fun h => by cases h), q3⟩
      · exact ⟨false, q1, (fun h => by cases h), fun _ => q2, q3⟩
    have HB5 : Hid (∀ W4 W5, Below W.heap.size W W4 → KeepAt (fun g => (S ≤ g ∧ g < S + 8) ∨ g = cb ∨ g = ob ∨ (0 < m ∧ ∃ ad, A = some ad ∧ g = ad.block)) W4 W5 → Blk W5 (N + 1) 3 #[.int .i64 (f : Int)]) := fun W4 W5 hb hk => by
      rw [show N + 1 = S + 2 by omega]
      exact hbf.same ((hk.2 _ (.inl (by omega))).trans (hb.block _ (by omega)))
    have HF5 : Hid (∀ W4 W5, Below W.heap.size W W4 → KeepAt (fun g => (S ≤ g ∧ g < S + 8) ∨ g = cb ∨ g = ob ∨ (0 < m ∧ ∃ ad, A = some ad ∧ g = ad.block)) W4 W5 → W5.cell? ⟨N + 1, 0, none⟩ = some (.int .i64 (f : Int))) := fun W4 W5 hb hk => (HB5.out W4 W5 hb hk).one
    have HG5 : Hid (∀ W4 W5, Below W.heap.size W W4 → KeepAt (fun g => (S ≤ g ∧ g < S + 8) ∨ g = cb ∨ g = ob ∨ (0 < m ∧ ∃ ad, A = some ad ∧ g = ad.block)) W4 W5 → W5.frozen? ⟨N + 1, 0, none⟩ = false) := fun W4 W5 hb hk => (HB5.out W4 W5 hb hk).frozen 0
    have HT : Hid (∀ W4 W5 act, Below W.heap.size W W4 → J (k + 1) W5 → KeepAt (fun g => (S ≤ g ∧ g < S + 8) ∨ g = cb ∨ g = ob ∨ (0 < m ∧ ∃ ad, A = some ad ∧ g = ad.block)) W4 W5 →
        RoundPostL (N + 4) .ret (fun W' => PcRel S cb ob least most bits A m c l lp J (k + 1) W' ∧ KeepAt (fun g => g = N + 6 ∨ g = N + 3 ∨ g = N + 2 ∨ (0 < m ∧ ∃ ad, A = some ad ∧ g = ad.block)) W W') (fun W' => Jx W' ∧ KeepAt (fun g => g = N + 6 ∨ g = N + 3 ∨ g = N + 2 ∨ (0 < m ∧ ∃ ad, A = some ad ∧ g = ad.block)) W W') W .normal act (W5.setCell ⟨N + 1, 0, none⟩ (.int .i64 (e : Int)))) := fun W4 W5 _ hb hJ hk => by
      have := pc_next (e := e) HH.out hb hk hJ HJf.out hcS hoS hAS.out (by omega) (by rw [Hcl.out]; exact Hnx.out)
      rw [hNS]
      exact this
    have HFl : Hid (∀ W4 W5 act, Below W.heap.size W W4 → Jx W5 → KeepAt (fun g => (S ≤ g ∧ g < S + 8) ∨ g = cb ∨ g = ob ∨ (0 < m ∧ ∃ ad, A = some ad ∧ g = ad.block)) W4 W5 →
        RoundPostL (N + 4) .ret (fun W' => PcRel S cb ob least most bits A m c l lp J (k + 1) W' ∧ KeepAt (fun g => g = N + 6 ∨ g = N + 3 ∨ g = N + 2 ∨ (0 < m ∧ ∃ ad, A = some ad ∧ g = ad.block)) W W') (fun W' => Jx W' ∧ KeepAt (fun g => g = N + 6 ∨ g = N + 3 ∨ g = N + 2 ∨ (0 < m ∧ ∃ ad, A = some ad ∧ g = ad.block)) W W') W .ret act W5) := fun W4 W5 _ hb hJ hk => by
      have := pc_leave hb hk hAS.out (by omega)
      rw [hNS]
      exact ⟨rfl, this.1, this.2.1, hJ, this.2.2⟩
    clear h he h1 h2 h3 hbf hf hef hlm hxl hx hnx hy0 hNS
    have hmix : Try.prog.follows Departure.mixedOrders = true := by kernel_rfl
    clear HH Hx Hxl Hnx HB5 HPc2 HX H0 HI HY1 HC1 HD1 Hb1 HP HPR HL HPc Hlen Hcl HP2 HJf HXf HY Hok Hz1 HS hAS HNS hcS hoS hz1' hcW hoW hm
    gi_wp2
    --<R1
    gi_region_with_o (first | (refine ⟨trivial, ?_⟩; gi_at_call 35; refine (CallsIn.inRound _ (callsIn_wide.2 (HPI.out _ (by first | (with_reducible exact (Below.refl _ _)) | (with_reducible exact (Below.refl _ _).drew))))).mono ?_; rintro e' W4 ⟨O, oc, rfl, hO, hb4⟩; have HO := Lib.hid hO; have y4 : W4.cell? ⟨W0.heap.size, 0, none⟩ = some (.func (.yield lp) #[] #[]) := ((bup (by first | (with_reducible exact (Below.refl _ _)) | (with_reducible exact (Below.refl _ _).drew)) hb4 : Below W.heap.size W W4).cell (p := ⟨W0.heap.size, 0, none⟩) hyl).trans y0; have Hb4 : Hid (Below W.heap.size W W4) := bup (by first | (with_reducible exact (Below.refl _ _)) | (with_reducible exact (Below.refl _ _).drew)) hb4; obtain ⟨fn, tmps, assign, body, hy, hR⟩ := HYY.out O oc _ W4 (by first | (with_reducible exact (Below.refl _ _)) | (with_reducible exact (Below.refl _ _).drew)) hb4 hO; clear hO hb4) | (refine hR.mono ?_; rintro e' W5 ⟨b, rfl, hp⟩))
    all_goals have hfl5 : N + 1 < W5.heap.size := by have := Hb4.out.size; have := hp.out.2.2.1; omega
    all_goals have f5 : W5.cell? ⟨N + 1, 0, none⟩ = some (.int .i64 (f : Int)) := HF5.out W4 W5 Hb4.out hp.out.2.2
    all_goals have g5 : W5.frozen? ⟨N + 1, 0, none⟩ = false := HG5.out W4 W5 Hb4.out hp.out.2.2
    all_goals cases b with
      | false =>
        have q1 := Lib.hid (hp.out.2.1 rfl)
        have q2 := Lib.hid hp.out.2.2
        clear hp
        gi_wp2
        exact HFl.out W4 W5 _ Hb4.out q1.out q2.out
      | true =>
        have q1 := Lib.hid (hp.out.1 rfl)
        have q2 := Lib.hid hp.out.2.2
        clear hp
        gi_wp2
        exact HT.out W4 W5 _ Hb4.out q1.out q2.out
    --R1>
  case done =>
    rintro W h hM
    have HNS := Lib.hid hNS
    clear hNS
    gi_wp2
    refine ⟨by simp, .inl ⟨_, _, rfl, run_takeDeferred hM, ?_⟩⟩
    refine ⟨.tuple #[], by simp [results, Try.results34, go_sem], ⟨_, rfl⟩, .inl ?_⟩
    rw [HP2.out]
    exact HJf.out _ _ _ h.j (((Fr.refl (fun k => k = N + 4) W).put_ rfl _).mono (fun g _ e => by have := HNS.out; omega))
  case stop =>
    rintro W h hM
    have HNS := Lib.hid hNS
    clear hNS
    gi_wp2
    refine ⟨by simp, .inl ⟨_, _, rfl, run_takeDeferred hM, ?_⟩⟩
    refine ⟨.tuple #[], by simp [results, Try.results34, go_sem], ⟨_, rfl⟩, .inr ?_⟩
    exact HXf.out _ _ h (((Fr.refl (fun k => k = N + 4) W).put_ rfl _).mono (fun g _ e => by have := HNS.out; omega))
end Go.Proofs.Ytglkahonejblpaa
