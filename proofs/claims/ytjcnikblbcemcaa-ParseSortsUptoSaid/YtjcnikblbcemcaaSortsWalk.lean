/-
  Walk: the law ParseSorts returns true for all prices and places that lie in memory, at most 2^20 of either; nothing that was there is written.
-/
import Derived.Test.YtjcnikblbcemcaaHeap
import Derived.Test.YtjcnikblbcemcaaSorts
import Derived.OwnWalk
namespace Go.Proofs.Ytjcnikblbcemcaa
open Go.RowKit

/-- integers that come in -/
def InI (w : World) (A : Option Addr) (n : Nat) (l : List Int) : Prop :=
  l.length = n ∧ ∀ i, i < n → ∃ b off k, A = some ⟨b, off, none⟩ ∧ l[i]? = some k ∧ b < w.heap.size ∧ w.cell? ⟨b, off + i, none⟩ = some (.int .i64 k)
theorem InI.below {w w' : World} {A : Option Addr} {n : Nat} {l : List Int} (h : InI w A n l) (hb : Below w.heap.size w w') : InI w' A n l :=
  ⟨h.1, fun i hi => by
    obtain ⟨b, off, k, e1, e2, e3, e4⟩ := h.2 i hi
    exact ⟨b, off, k, e1, e2, Nat.lt_of_lt_of_le e3 hb.size, (hb.cell (p := ⟨b, off + i, none⟩) e3).trans e4⟩⟩
theorem info4 : (Try.prog.info? 4).map (fun i => (i.zero, i.size, i.bytes)) = some (some (.bool false), 1, 1) := by kernel_rfl
def marks (u : List Bool) : List Value := u.map Value.bool
theorem marks_get {u : List Bool} {i : Nat} {b : Bool} (h : u[i]? = some b) : (marks u)[i]? = some (.bool b) := by simp [marks, h]
theorem marks_set (u : List Bool) (i : Nat) : (marks u).set i (.bool true) = marks (u.set i true) := by simp [marks, List.map_set]
/-- the marks lie at block g -/
def Marks (w : World) (B g n : Nat) (u : List Bool) : Prop := u.length = n ∧ w.ownsRow B 4 1 (.slice (some ⟨g, 0, none⟩) n n) n (marks u)
theorem own_own {w : World} {B B' : Nat} {e e' : TypeId} {size size' n n' : Nat} {v v' : Value} {xs xs' : List Value} (h : w.ownsRow B e size v n xs) (h' : w.ownsRow B' e' size' v' n' xs') (hne : e ≠ e') {g : Nat} (hg : v.ownBlock = some g) : v'.ownBlock ≠ some g := by
  intro hg'
  rcases h'.2 with ⟨rfl, _⟩ | ⟨g', cap, cur, rfl, _, hh, _⟩
  · simp [Value.ownBlock] at hg'
  · have : g' = g := by simpa [Value.ownBlock] using hg'
    subst this
    exact hne (own_type h hg (show Blk w g' e' cur from hh))
theorem Marks.past {w w' : World} {B P g n : Nat} {r : Option Nat} {l : List P2} {u : List Bool} (h : Marks w B g n u) (hh : Heap w P P r l) (hf : Fr (fun k => k = P ∨ some k = r) w w') : Marks w' B g n u := by
  obtain ⟨v, f, h1, h2, h3, _⟩ := hh
  refine ⟨h.1, own_fr h.2 hf fun k hk => ?_⟩
  rintro (e | e)
  · subst e
    exact absurd (own_type h.2 hk h1) (by decide)
  · exact own_own h.2 h2 (by decide) hk (h3.trans e.symm)
theorem Heap.past {w : World} {B P g n : Nat} {r : Option Nat} {l : List P2} {u : List Bool} (hh : Heap w P P r l) (h : Marks w B g n u) (i : Nat) (x : Value) : Heap (w.setCell ⟨g, i, none⟩ x) P P r l := by
  have hP : P ≠ g := fun e => by
    obtain ⟨v, f, h1, _⟩ := hh
    subst e
    exact absurd (own_type h.2 rfl h1) (by decide)
  refine hh.keep (Below.heap_setCell _ _ _ _ hP) fun k hk => Below.heap_setCell _ _ _ _ ?_
  intro e
  have hk' : r = some g := by rw [hk, e]
  obtain ⟨v, f, h1, h2, h3, _⟩ := hh
  exact own_own h.2 h2 (by decide) (g := g) rfl (h3.trans hk')

set_option maxHeartbeats 4000000 in
set_option maxRecDepth 100000 in
theorem sorts_law (A : Option Addr) (n c : Nat) (pr : List Int) (C : Option Addr) (m mc : Nat) (pl : List Int) (w : World) (hp : InI w A n pr) (hq : InI w C m pl) (hn : n ≤ 1048576) (hm : m ≤ 1048576) :
    Calls Try.prog 4 #[.slice A n c, .slice C m mc] w fun e w' => e = .returned (.bool true) ∧ Below w.heap.size w w' := by
  obtain ⟨i0, hi0, hz0, hz1, hz2⟩ := info_parts info4
  obtain ⟨PL, hPL⟩ : ∃ PL, pairs pr pl = PL := ⟨_, rfl⟩
  have hPLl : PL.length = n := by rw [← hPL, pairs_length]; exact hp.1
  have Hget : Hid (∀ i p, pr[i]? = some p → PL[i]? = some (p, pl.getD i 0)) := fun i p h => by rw [← hPL]; exact pairs_get pr pl i p h
  have HPLl := Lib.hid hPLl
  clear hPL hPLl
  go_enter Try.func4, Try.ntmps4
  go_wp2_with (refine wpList_make_full _ rfl (.tmp 24) (.tmp 24) 40 rfl w.heap.size 4 i0 _ 1 Try.underlying40 hi0 hz0 hz1 .i64 .i64 (n : Int) (n : Int) n rfl rfl rfl rfl (by rw [hz2]; omega) (by unfold maxLen; omega) (by simp) ?_; intro w1 hown1 hg1)
  obtain ⟨P, hP⟩ : ∃ P, w.heap.size = P := ⟨_, rfl⟩
  have hH1 : Heap w1 P P none [] := by
    refine ⟨.slice none 0 0, .nilFunc, ?_, World.ownsRow_nil _ _ _ _, rfl, fun h => absurd h (by simp), fun j _ h => absurd h (by simp), Nat.le_refl _⟩
    have := Blk.new w 29 #[.slice none 0 0, .nilFunc]
    rw [hP] at this
    exact this.same (hg1.block P (by simp; omega) (by simp))
  have hb1 : Below w.heap.size w w1 := Below.grown ((Below.refl _ w).alloc (Nat.le_refl _) _) hg1 (by simp) (fun k hk => by cases hk)
  simp only [World.size_alloc] at hown1
  have hM1 : Marks w1 w.heap.size (w.heap.size + 1) n (List.replicate n false) := by
    refine ⟨by simp, ?_⟩
    have e : (madeCells (Value.bool false).cells (n * 1)).toList = marks (List.replicate n false) := by
      rw [show (Value.bool false).cells = #[Value.bool false] from rfl, toList_madeCells_one, Nat.mul_one]
      simp [marks]
    rw [← e]
    exact hown1
  obtain ⟨G, hG⟩ : ∃ G, w.heap.size + 1 = G := ⟨_, rfl⟩
  rw [hG] at hM1
  have HH1 := Lib.hid hH1
  have Hb1 := Lib.hid hb1
  have HM1 := Lib.hid hM1
  clear hH1 hb1 hM1 hown1 hg1
  rw [hG, hP]
  have HP := Lib.hid hP
  clear hG hP
  go_loopw [28] (fun s28 wr => ∃ (i : Nat) (r : Option Nat) (l : List P2), s28 = .int .i64 (i : Int) ∧ i ≤ n ∧ Hid (Heap wr P P r l) ∧ Hid (l.Perm (PL.take i)) ∧ Hid (Marks wr w.heap.size G n (List.replicate n false)) ∧ Hid (Below w.heap.size w wr)) (fun s28 _ => n - (intOf s28).toNat)
  case atStart => exact ⟨0, none, [], rfl, Nat.zero_le _, HH1, List.Perm.refl _, HM1, Hb1⟩
  case round =>
    clear HH1 HM1 Hb1
    obtain ⟨i, r, l, rfl, hi, HH, Hl, HM, Hb⟩ := hrel
    by_cases hin : i < n
    · have hin' : (i : Int) < (n : Int) := by omega
      obtain ⟨pb, po, p, rfl, hpi, -, q0⟩ := (hp.below Hb.out).2 i hin
      have Hpi := Lib.hid hpi
      clear hpi
      obtain ⟨pv, hpv⟩ : ∃ pv, pl.getD i 0 = pv := ⟨_, rfl⟩
      have Hpv := Lib.hid hpv
      clear hpv
      go_upto_if 36 with (fail)
      go_cut [9] (fun s9 wx => s9 = .int .i64 pv ∧ wr = wx)
      case first =>
        by_cases him : i < m
        · have him' : (i : Int) < (m : Int) := by omega
          obtain ⟨qb, qo, qk, rfl, hqi, -, q1⟩ := (hq.below Hb.out).2 i him
          have e : pv = qk := by rw [← Hpv.out, List.getD_eq_getElem?_getD, hqi]; rfl
          have He := Lib.hid e
          clear hqi e
          go_wp2_with fail
          go_meet
          exact ⟨by rw [He.out], rfl⟩
        · have e : pv = 0 := by rw [← Hpv.out, List.getD_eq_getElem?_getD, List.getElem?_eq_none (by have := hq.1; omega)]; rfl
          have He := Lib.hid e
          clear e
          go_wp2_with fail
          go_meet
          exact ⟨by rw [He.out], rfl⟩
      case rest =>
        obtain ⟨rfl, rfl⟩ := hcut
        have hll : l.length = i := by have := Hl.out.length_eq; rw [List.length_take, HPLl.out] at this; omega
        have Hll := Lib.hid hll
        clear hll q0
        go_wp2_with fail
        refine (Push_any P P r l p pv wr HH.out (by have := Hll.out; omega)).mono ?_
        rintro e w2 ⟨rfl, r2, l2, hH2, hl2, hF2, hA2⟩
        have HH2 := Lib.hid hH2
        have HM2 : Hid (Marks w2 w.heap.size G n (List.replicate n false)) := HM.out.past HH.out hF2
        have Hb2 : Hid (Below w.heap.size w w2) := Hb.out.trans (hF2.below Hb.out.size (fun k hk => by
          have := HP.out
          rcases hk with rfl | hk
          · omega
          · have := (HH.out.lt.2 k hk.symm).1; omega))
        have Hl2 : Hid (l2.Perm (PL.take (i + 1))) := by
          refine hl2.trans ?_
          rw [List.take_add_one, Hget.out i p Hpi.out, Hpv.out]
          exact Hl.out.append_right _
        clear hH2 hl2 hF2 hA2
        go_wp2_with fail
        go_roundw
        case rel => exact ⟨i + 1, r2, l2, by go_num, by omega, HH2, Hl2, HM2, Hb2⟩
        case measure => simp [intOf]; omega
    · obtain rfl : i = n := by omega
      obtain ⟨la, lc, hlen⟩ := HH.out.len
      have hll : l.length = i := by have := Hl.out.length_eq; rw [List.length_take, HPLl.out] at this; omega
      rw [hll] at hlen
      have Hll := Lib.hid hll
      have Hlen := Lib.hid hlen
      have HU : Hid (l.Perm (unused PL (List.replicate i false))) := by
        rw [unused_none PL i HPLl.out]
        have := Hl.out
        rwa [List.take_of_length_le (by rw [HPLl.out]; exact Nat.le_refl _)] at this
      clear hll hlen Hl
      go_wp2_with fail
      refine (len_any P i lc la wr Hlen.out).mono ?_
      rintro e w2 ⟨rfl, rfl⟩
      go_wp2_with fail
      clear Hlen
      go_loopw [53] (fun s53 wx => ∃ (k : Nat) (r : Option Nat) (l : List P2) (U : List Bool), s53 = .int .i64 (k : Int) ∧ k ≤ i ∧ Hid (Heap wx P P r l) ∧ Hid (l.length = i - k) ∧ Hid (l.Perm (unused PL U)) ∧ Hid (Marks wx w.heap.size G i U) ∧ Hid (Below w.heap.size w wx)) (fun s53 _ => i - (intOf s53).toNat)
      case atStart => exact ⟨0, r, l, List.replicate i false, rfl, Nat.zero_le _, HH, Hll, HU, HM, Hb⟩
      case round =>
        clear HH Hll HU HM Hb
        obtain ⟨wo, hwo⟩ : ∃ wo : World, wo = wr := ⟨_, rfl⟩
        clear hwo
        obtain ⟨k, r, l, U, rfl, hk, HH, Hll, HU, HM, Hb⟩ := hrel
        by_cases hki : k < i
        · have hki' : (k : Int) < (i : Int) := by omega
          go_wp2_with fail
          refine (Pop_any P P r l _ HH.out (by have := Hll.out; omega)).mono ?_
          rintro e w3 ⟨x, y, t, r3, l3, rfl, hH3, hF3, hA3, hT⟩
          rcases hT with ⟨h0, _⟩ | ⟨rfl, hleast, hperm⟩
          · exact absurd Hll.out (by rw [h0]; simp; omega)
          obtain ⟨K, hK⟩ : ∃ K, l3.length = K := ⟨_, rfl⟩
          have hKi : (i : Int) - 1 - (k : Int) = (K : Int) := by
            have h1 := hperm.length_eq
            have h2 := Hll.out
            simp at h1
            omega
          obtain ⟨la3, lc3, hlen3⟩ := hH3.len
          rw [hK] at hlen3
          have Hlen3 := Lib.hid hlen3
          have HM3 : Hid (Marks w3 w.heap.size G i U) := HM.out.past HH.out hF3
          have Hb3 : Hid (Below w.heap.size w w3) := Hb.out.trans (hF3.below Hb.out.size (fun q hq => by
            have := HP.out
            rcases hq with rfl | hq
            · omega
            · have := (HH.out.lt.2 q hq.symm).1; omega))
          have HH3 := Lib.hid hH3
          have HK := Lib.hid hK
          have Hle : Hid (∀ p ∈ unused PL U, Le (x, y) p) := fun p hp => hleast.2 p (HU.out.mem_iff.2 hp)
          have Hmem : Hid ((x, y) ∈ unused PL U) := HU.out.mem_iff.1 hleast.1
          have Hperm := Lib.hid hperm
          clear hlen3 hF3 hA3 hleast hperm hH3 hK
          go_wp2_with fail
          refine (len_any P K lc3 la3 w3 Hlen3.out).mono ?_
          rintro e w4 ⟨rfl, rfl⟩
          clear Hlen3
          go_wp2_with fail
          obtain ⟨wp, hwp⟩ : ∃ wp : World, wp = w3 := ⟨_, rfl⟩
          go_loopw [14, 76] (fun s14 s76 wx => ∃ (f : Bool) (j : Nat) (U' : List Bool), s14 = .bool f ∧ s76 = .int .i64 (j : Int) ∧ j ≤ i ∧ Hid (Seek PL U U' (x, y) j f) ∧ Hid (Heap wx P P r3 l3) ∧ Hid (Marks wx w.heap.size G i U') ∧ Hid (Below w.heap.size w wx)) (fun _ s76 _ => i - (intOf s76).toNat)
          case atStart => exact ⟨false, 0, U, rfl, rfl, Nat.zero_le _, Seek.start _ _ _, HH3, HM3, Hb3⟩
          case round =>
            clear HH3 HM3 Hb3 HH HM Hb hwp
            obtain ⟨f, j, U', rfl, rfl, hj, HS, HH, HM, Hb⟩ := hrel
            by_cases hji : j < i
            · have hji' : (j : Int) < (i : Int) := by omega
              obtain ⟨pb, po, p, rfl, hpi, -, q0⟩ := (hp.below Hb.out).2 j hji
              have Hpi := Lib.hid hpi
              clear hpi
              obtain ⟨pv, hpv⟩ : ∃ pv, pl.getD j 0 = pv := ⟨_, rfl⟩
              have HPj : Hid (PL[j]? = some (p, pv)) := by have := Hget.out j p Hpi.out; rw [hpv] at this; exact this
              have Hpv := Lib.hid hpv
              clear hpv
              have hUl : j < U'.length := by rw [HM.out.1]; exact hji
              obtain ⟨b, hb⟩ : ∃ b, U'[j]? = some b := ⟨_, List.getElem?_eq_getElem hUl⟩
              have q2 := HM.out.2.cellAt j (by omega)
              rw [marks_get hb] at q2
              have qf := HM.out.2.frozenAt j
              have HbU : Hid (U[j]? = some b) := HS.out.used ▸ hb
              clear hb hUl
              go_upto_if 84 with (fail)
              go_cut [17] (fun s17 wx => s17 = .int .i64 pv ∧ wr = wx)
              case first =>
                by_cases him : j < m
                · have him' : (j : Int) < (m : Int) := by omega
                  obtain ⟨qb, qo, qk, rfl, hqi, -, q1⟩ := (hq.below Hb.out).2 j him
                  have e : pv = qk := by rw [← Hpv.out, List.getD_eq_getElem?_getD, hqi]; rfl
                  have He := Lib.hid e
                  clear hqi e
                  go_wp2_with fail
                  go_meet
                  exact ⟨by rw [He.out], rfl⟩
                · have e : pv = 0 := by rw [← Hpv.out, List.getD_eq_getElem?_getD, List.getElem?_eq_none (by have := hq.1; omega)]; rfl
                  have He := Lib.hid e
                  clear e
                  go_wp2_with fail
                  go_meet
                  exact ⟨by rw [He.out], rfl⟩
              case rest =>
                obtain ⟨rfl, rfl⟩ := hcut
                clear q0
                cases b
                · have hle := Hle.out _ (mem_unused PL U j _ HPj.out HbU.out)
                  unfold Le Lt at hle
                  have hle1 : ¬ p < x := fun h => hle (.inl h)
                  have hle2 : p = x → ¬ pv < y := fun e h => hle (.inr ⟨e, h⟩)
                  clear hle
                  by_cases hpx : p = x
                  · have hpv' := hle2 hpx
                    have hpxb : (p == x) = true := beq_iff_eq.2 hpx
                    have Hpx := Lib.hid hpx
                    clear hle2 hpx
                    cases f
                    · by_cases hvy : pv = y
                      · have hvyb : (pv == y) = true := beq_iff_eq.2 hvy
                        have Hvy := Lib.hid hvy
                        clear hvy
                        go_wp2_with fail
                        go_roundw
                        case rel =>
                          refine ⟨true, j + 1, U'.set j true, rfl, by go_num, by omega, HS.out.take ?_ HbU.out, HH.out.past HM.out j _, ⟨by simp [HM.out.1], ?_⟩, ?_⟩
                          · rw [HPj.out, Hpx.out, Hvy.out]
                          · rw [← marks_set]; exact own_set HM.out.2 j _
                          · exact Hb.out.setCell (p := ⟨G, j, none⟩) (own_lt HM.out.2 rfl).1 _
                        case measure => simp [intOf]; omega
                      · have hvyb : (pv == y) = false := beq_eq_false_iff_ne.2 hvy
                        have Hvy := Lib.hid hvy
                        clear hvy
                        go_wp2_with fail
                        go_roundw
                        case rel => exact ⟨false, j + 1, U', rfl, by go_num, by omega, HS.out.skip (.inr (.inr (by rw [HPj.out]; intro e; cases e; exact Hvy.out rfl))), HH, HM, Hb⟩
                        case measure => simp [intOf]; omega
                    · go_wp2_with fail
                      go_roundw
                      case rel => exact ⟨true, j + 1, U', rfl, by go_num, by omega, HS.out.skip (.inr (.inl rfl)), HH, HM, Hb⟩
                      case measure => simp [intOf]; omega
                  · have hpxb : (p == x) = false := beq_eq_false_iff_ne.2 hpx
                    have Hpx := Lib.hid hpx
                    clear hle2 hpx
                    have Hsk : Hid (Seek PL U U' (x, y) (j + 1) f) := HS.out.skip (.inr (.inr (by rw [HPj.out]; intro e; cases e; exact Hpx.out rfl)))
                    cases f
                    all_goals
                      go_wp2_with fail
                      go_roundw
                      case rel => exact ⟨_, j + 1, U', rfl, by go_num, by omega, Hsk, HH, HM, Hb⟩
                      case measure => simp [intOf]; omega
                · go_wp2_with fail
                  go_roundw
                  case rel => exact ⟨f, j + 1, U', rfl, by go_num, by omega, HS.out.skip (.inl HbU.out), HH, HM, Hb⟩
                  case measure => simp [intOf]; omega
            · obtain rfl : j = i := by omega
              obtain ⟨rfl, hpu⟩ := HS.out.found HPLl.out Hmem.out
              have HU3 : Hid (l3.Perm (unused PL U')) := List.Perm.cons_inv (Hperm.out.trans (HU.out.trans hpu))
              clear hpu
              have Hll3 : Hid (l3.length = j - (k + 1)) := by show l3.length = _; have := HK.out; omega
              go_wp2_with fail
              go_roundw
              case rel => exact ⟨k + 1, r3, l3, U', by go_num, by omega, HH, Hll3, HU3, HM, Hb⟩
              case measure => simp [intOf]; omega
        · obtain rfl : k = i := by omega
          go_wp2_with fail
          refine (Pop_any P P r l _ HH.out (by have := Hll.out; omega)).mono ?_
          rintro e w3 ⟨x, y, t, r3, l3, rfl, hH3, hF3, hA3, hT⟩
          rcases hT with ⟨h0, h1, h2, h3, h4⟩ | ⟨_, hleast, _⟩
          · subst h2 h3 h4
            obtain ⟨la3, lc3, hlen3⟩ := hH3.len
            have hK : l3.length = 0 := by rw [h1]; rfl
            rw [hK] at hlen3
            have Hlen3 := Lib.hid hlen3
            have Hb3 : Hid (Below w.heap.size w w3) := Hb.out.trans (hF3.below Hb.out.size (fun q hq => by
              have := HP.out
              rcases hq with rfl | hq
              · omega
              · have := (HH.out.lt.2 q hq.symm).1; omega))
            clear hlen3 hF3 hA3 hH3 hK h0 h1
            go_wp2_with fail
            refine (len_any P 0 lc3 la3 w3 Hlen3.out).mono ?_
            rintro e w4 ⟨rfl, rfl⟩
            go_wp2_with fail
            go_ret
            exact ⟨rfl, Hb3.out⟩
          · exact absurd (List.length_pos_of_mem hleast.1) (by have := Hll.out; omega)
theorem sorts_law_ (A : Option Addr) (n c : Nat) (pr : List Int) (C : Option Addr) (m mc : Nat) (pl : List Int) (w : World) (hp : n ≤ 1048576 ∧ InI w A n pr) (hq : m ≤ 1048576 ∧ InI w C m pl) :
    Calls Try.prog 4 #[.slice A n c, .slice C m mc] w fun e w' => e = .returned (.bool true) ∧ Below w.heap.size w w' := sorts_law A n c pr C m mc pl w hp.2 hq.2 hp.1 hq.1
end Go.Proofs.Ytjcnikblbcemcaa
