/-
  Walks: cheaper compares two pairs; push of the binary heap lays one pair more and keeps the heap's order. Conditions: the heap's block and row as HP says, fewer than 2^42 pairs.
-/
import Derived.Test.YtjcnikblbcemcaaChecked
import Derived.Test.YtjcnikblbcemcaaLaw
import Derived.WalkKit
import Derived.WalkSpells
import Derived.WalkLawsBesides
import Derived.Deep.QuietTactic
import Derived.BigQuiet
import Derived.BigRegion
import Derived.StillTailTactics
import Derived.Deep.LoopGhost
import Derived.Deep.RegionLaw
import Derived.Deep.DeepCutAuto
import Derived.Deep.RegionHeld3
namespace Go.Proofs.Ytjcnikblbcemcaa
open Go.RowKit

def ltB (a b : P2) : Bool := decide (Lt a b)
theorem cheaper_any (x y u v : Int) (w : World) :
    Calls Try.prog 11 #[.agg #[.int .i64 x, .int .i64 y], .agg #[.int .i64 u, .int .i64 v]] w fun e w' => e = .returned (.bool (ltB (x, y) (u, v))) ∧ Below w.heap.size w w' := by
  go_enter Try.func11, Try.ntmps11
  go_wp2
  all_goals
    go_ret
    refine ⟨congrArg (fun b => Ending.returned (Value.bool b)) ?_, ((Below.refl _ _).alloc (Nat.le_refl _) _).alloc (by simp) _⟩
  all_goals
    rw [Bool.eq_iff_iff]
    simp only [ltB, decide_eq_true_eq]
    unfold Lt
    simp only [Bool.false_eq_true, false_iff, true_iff, decide_eq_true_eq]
    omega
theorem cheaper_is (x y u v : Int) (w : World) (t : Bool) (h : ltB (x, y) (u, v) = t) :
    Calls Try.prog 11 #[.agg #[.int .i64 x, .int .i64 y], .agg #[.int .i64 u, .int .i64 v]] w fun e w' => e = .returned (.bool t) ∧ Below w.heap.size w w' := h ▸ cheaper_any x y u v w
theorem info47 : (Try.prog.info? 47).map (fun i => (i.zero, i.size, i.bytes)) = some (some (.agg #[.int .i64 0, .int .i64 0]), 2, 16) := by kernel_rfl
abbrev F11 : Value := .func (.func 11) #[] #[]


/-- the heap's struct at block b, its row at block g: the pairs l -/
def HP (w : World) (B b g n cap : Nat) (l : List P2) : Prop :=
  l.length = n ∧ Blk w b 29 #[.slice (some ⟨g, 0, none⟩) n cap, F11] ∧ w.ownsRow B 47 2 (.slice (some ⟨g, 0, none⟩) n cap) n (flat l)
def PushAt (b n B : Nat) (v : Value) (l0 : List P2) (w wx : World) : Prop :=
  ∃ g cap, HP wx B b g (n + 1) cap l0 ∧ Fr (fun k => k = b ∨ some k = v.ownBlock) w wx ∧ (v.ownBlock = some g ∨ w.heap.size ≤ g)

def PushPost (b n B : Nat) (v : Value) (l0 : List P2) (w : World) (e : Ending) (w' : World) : Prop :=
  e = .returned (.tuple #[]) ∧ ∃ g cap l', HP w' B b g (n + 1) cap l' ∧ Fr (fun k => k = b ∨ some k = v.ownBlock) w w' ∧ (v.ownBlock = some g ∨ w.heap.size ≤ g) ∧ l'.Perm l0 ∧ Ord l'

set_option maxHeartbeats 1000000 in
theorem hpush_any (b n B : Nat) (v : Value) (l : List P2) (p : P2) (w : World) (hl : l.length = n) (ho : Ord l) (hb : Blk w b 29 #[v, F11]) (hown : w.ownsRow B 47 2 v n (flat l)) (hn : n < 4398046511104) (hB : B ≤ w.heap.size) :
    Calls Try.prog 12 #[.pointer (some ⟨b, 0, none⟩), .agg #[.int .i64 p.1, .int .i64 p.2]] w (PushPost b n B v (l ++ [p]) w) := by
  have c0 := hb.cell_ 0 rfl
  have c1 := hb.cell_ 1 rfl
  have hlt := hb.lt
  have hne := own_ne hown hb (by decide)
  obtain ⟨i0, hi0, hz0, hz1, hz2⟩ := info_parts info47
  go_enter Try.func12, Try.ntmps12
  go_upto_region 1 with (fail)
  go_cut [] (fun wx => PushAt b n B v (l ++ [p]) w wx)
  case first =>
    go_region_law (
      (refine step_append_lies (w := ((w.alloc (.cells #[.int .i64 p.1, .int .i64 p.2] 47)).alloc (.cells #[.int .i64 p.1, .int .i64 p.2] 47)).drew) rfl (.tmp 9) (.tmp 11) 24 rfl B 47 i0 _ 2 16 Try.underlying24 hi0 hz0 hz1 hz2 rfl (by decide) v n (flat l) (by simp [Act.eval]) ((hown.alloc _).alloc _) ⟨w.heap.size + 1, 0, none⟩ 1 1 (flat [p]) (by simp [Act.eval]) rfl (news_at (by simp)) (flat_one _) (by decide) (by simp only [maxLen]; omega) (by omega) (by simp; omega) (w.heap.size + 2) (by simp) ?_
       intro g cap w1 hown1 hg1 hat1 hlt1
       have hb1 : Blk w1 b 29 #[v, F11] := (((hb.alloc _).alloc _).drew).same (hg1.block b (by simp; omega) hne)
       have d0 := hb1.cell_ 0 rfl
       have d1 := hb1.cell_ 1 rfl
       have f0 := hb1.frozen 0
       ))
    all_goals
      go_wp2_with fail
      go_meet
      refine ⟨g, cap, ⟨by simp [hl], hb1.set_ 0 _, ?_⟩, ?_, ?_⟩
      · rw [flat_append]
        exact own_same hown1 fun k hk => Below.heap_setCell _ _ _ _ fun e => by
          have := own_type hown1 hk (by rw [e]; exact hb1)
          exact absurd this (by decide)
      · refine Fr.setCell ?_ (Or.inl (Or.inl rfl)) _
        exact ((((Fr.refl _ w).alloc _).alloc _).drew).grown hg1 (fun k hk => Or.inl (Or.inr hk.symm))
      · rcases hat1 with h | h
        · exact .inl h
        · exact .inr (by omega)
  case rest =>
    obtain ⟨g, cap, ⟨hl1, hb1, hown1⟩, hfr, hg⟩ := hcut
    have d0 := hb1.cell_ 0 rfl
    go_wp2_with fail
    clear d0 c0 c1
    go_loopw [4] (fun s wr => ∃ (i : Nat) (l' : List P2), s = .int .i64 i ∧ i < n + 1 ∧ HP wr B b g (n + 1) cap l' ∧ Fr (fun k => k = b ∨ some k = v.ownBlock) w wr ∧ Hid (l'.Perm (l ++ [p])) ∧ Hid (Up l' i)) (fun s _ => (intOf s).toNat)
    case atStart => exact ⟨n, l ++ [p], rfl, by omega, ⟨hl1, hb1, hown1⟩, hfr, List.Perm.refl _, hl ▸ up_start ho⟩
    case round =>
      obtain ⟨i, l', rfl, hi, ⟨hl2, hb2, hown2⟩, hfr2, hp2, hup⟩ := hrel
      obtain ⟨d0, d1⟩ := hb2.two
      have dlt := hb2.lt
      have glt := (own_lt hown2 rfl).2
      have hgb : b ≠ g := fun e => own_ne hown2 hb2 (by decide) (by rw [e]; rfl)
      go_wp2_with fail
      by_cases h0 : i = 0
      · have hg0 : decide ((0 : Int) < (i : Int)) = false := decide_eq_false (by omega)
        go_quiet (fail)
        go_wp2_with fail
        go_end0
        exact ⟨rfl, g, cap, l', ⟨hl2, hb2.drewN _, hown2⟩, hfr2.drewN _, hg, hp2, up_done hup (.inl h0)⟩
      · have hg0 : 0 < i := by omega
        obtain ⟨m, hm⟩ : ∃ m, m = i - 1 := ⟨_, rfl⟩
        obtain ⟨q, hq⟩ : ∃ q, q = (i - 1) / 2 := ⟨_, rfl⟩
        have e0 := hown2.cellAt (i * 2) (by omega)
        rw [flat_fst _ i _ (at_lt (by omega))] at e0
        have e1 := hown2.cellAt (i * 2 + 1) (by omega)
        rw [flat_snd _ i _ (at_lt (by omega))] at e1
        have e2 := hown2.cellAt (q * 2) (by omega)
        rw [flat_fst _ q _ (at_lt (by omega))] at e2
        have e3 := hown2.cellAt (q * 2 + 1) (by omega)
        rw [flat_snd _ q _ (at_lt (by omega))] at e3
        have x1 : IntKind.i64.wrap ((i : Int) - 1) = (m : Int) := by rw [IntWalk.i64_in _ (by omega)]; omega
        have x2 : IntKind.i64.wrap ((m : Int).tdiv 2) = (q : Int) := by rw [IntWalk.i64_quo _ _ (by omega)]; omega
        have x2' : IntKind.i64.wrap ((m : Int) / 2) = (q : Int) := by rw [IntWalk.i64_in _ (by omega)]; omega
        have x3 : (i : Int) < (n : Int) + 1 := by omega
        have x4 : (q : Int) < (n : Int) + 1 := by omega
        have x5 : q < n + 1 := by omega
        have x6 : q < i := by omega
        have Hm := Lib.hid hm
        have Hq := Lib.hid hq
        clear hm hq
        by_cases hlt : Lt (at_ l' i) (at_ l' q)
        · have hltb : ltB (at_ l' i) (at_ l' q) = true := decide_eq_true hlt
          have Hlt := Lib.hid hlt
          have Hltb := Lib.hid hltb
          clear hlt hltb
          go_region_held3 (fun w' => w'.cell? ⟨b, 0, none⟩ = some (.slice (some ⟨g, 0, none⟩) (n + 1) cap) ∧ w'.cell? ⟨b, 1, none⟩ = some F11 ∧ w'.cell? ⟨g, i * 2, none⟩ = some (.int .i64 (at_ l' i).1) ∧ w'.cell? ⟨g, i * 2 + 1, none⟩ = some (.int .i64 (at_ l' i).2) ∧ w'.cell? ⟨g, q * 2, none⟩ = some (.int .i64 (at_ l' q).1) ∧ w'.cell? ⟨g, q * 2 + 1, none⟩ = some (.int .i64 (at_ l' q).2))
            (first | exact ⟨d0, d1, e0, e1, e2, e3⟩ | exact ⟨q0, q1, q2, q3, q4, q5⟩ | go_keep)
            (first | (go_at_call 11; refine (cheaper_is _ _ _ _ _ true Hltb.out).mono ?_; rintro e w1 ⟨rfl, hbel⟩; obtain ⟨q0, q1, q2, q3, q4, q5⟩ : w1.cell? ⟨b, 0, none⟩ = some (.slice (some ⟨g, 0, none⟩) (n + 1) cap) ∧ w1.cell? ⟨b, 1, none⟩ = some F11 ∧ w1.cell? ⟨g, i * 2, none⟩ = some (.int .i64 (at_ l' i).1) ∧ w1.cell? ⟨g, i * 2 + 1, none⟩ = some (.int .i64 (at_ l' i).2) ∧ w1.cell? ⟨g, q * 2, none⟩ = some (.int .i64 (at_ l' q).1) ∧ w1.cell? ⟨g, q * 2 + 1, none⟩ = some (.int .i64 (at_ l' q).2) := ⟨(hbel.cell dlt).trans d0, (hbel.cell dlt).trans d1, (hbel.cell glt).trans e0, (hbel.cell glt).trans e1, (hbel.cell glt).trans e2, (hbel.cell glt).trans e3⟩))
          have z0 := (hbel.frozen (p := ⟨g, i * 2, none⟩) glt).trans (hown2.frozenAt (i * 2))
          have z1 := (hbel.frozen (p := ⟨g, i * 2 + 1, none⟩) glt).trans (hown2.frozenAt (i * 2 + 1))
          have z2 := (hbel.frozen (p := ⟨g, q * 2, none⟩) glt).trans (hown2.frozenAt (q * 2))
          have z3 := (hbel.frozen (p := ⟨g, q * 2 + 1, none⟩) glt).trans (hown2.frozenAt (q * 2 + 1))
          clear d0 d1 e0 e1 e2 e3
          go_wp2_with fail
          go_region
          go_wp2_with fail
          go_roundw
          case rel =>
            have hq := Hq.out
            have hbel : Below wr.heap.size wr w1 := ((Below.refl wr.heap.size wr).drew).trans hbel
            refine ⟨q, swp l' i q, rfl, x5, ⟨by simp [hl2], ?_, ?_⟩, ?_, ?_, ?_⟩
            · exact (((((hb2.below hbel).far hgb _).far hgb _).far hgb _).far hgb _).drew
            · have := own_set (own_set (own_set (own_set (own_below hown2 hbel) (i * 2) (.int .i64 (at_ l' q).1)) (i * 2 + 1) (.int .i64 (at_ l' q).2)) (q * 2) (.int .i64 (at_ l' i).1)) (q * 2 + 1) (.int .i64 (at_ l' i).2)
              rw [flat_set, flat_set] at this
              exact this
            · refine Fr.drew (Fr.setCell (Fr.setCell (Fr.setCell (Fr.setCell (hfr2.of_below' hbel) ?_ _) ?_ _) ?_ _) ?_ _) <;> exact hg.elim (fun h => Or.inl (Or.inr h.symm)) Or.inr
            · exact (swp_perm (by omega) (by omega)).trans hp2
            · subst hq; exact up_step hup (by omega) (by omega) Hlt.out
          case measure => simp [intOf]; omega
        · have hltb : ltB (at_ l' i) (at_ l' q) = false := decide_eq_false hlt
          have Hlt := Lib.hid hlt
          have Hltb := Lib.hid hltb
          clear hlt hltb
          go_region_held3 (fun w' => w'.cell? ⟨b, 0, none⟩ = some (.slice (some ⟨g, 0, none⟩) (n + 1) cap) ∧ w'.cell? ⟨b, 1, none⟩ = some F11 ∧ w'.cell? ⟨g, i * 2, none⟩ = some (.int .i64 (at_ l' i).1) ∧ w'.cell? ⟨g, i * 2 + 1, none⟩ = some (.int .i64 (at_ l' i).2) ∧ w'.cell? ⟨g, q * 2, none⟩ = some (.int .i64 (at_ l' q).1) ∧ w'.cell? ⟨g, q * 2 + 1, none⟩ = some (.int .i64 (at_ l' q).2))
            (first | exact ⟨d0, d1, e0, e1, e2, e3⟩ | exact ⟨q0, q1, q2, q3, q4, q5⟩ | go_keep)
            (first | (go_at_call 11; refine (cheaper_is _ _ _ _ _ false Hltb.out).mono ?_; rintro e w1 ⟨rfl, hbel⟩; obtain ⟨q0, q1, q2, q3, q4, q5⟩ : w1.cell? ⟨b, 0, none⟩ = some (.slice (some ⟨g, 0, none⟩) (n + 1) cap) ∧ w1.cell? ⟨b, 1, none⟩ = some F11 ∧ w1.cell? ⟨g, i * 2, none⟩ = some (.int .i64 (at_ l' i).1) ∧ w1.cell? ⟨g, i * 2 + 1, none⟩ = some (.int .i64 (at_ l' i).2) ∧ w1.cell? ⟨g, q * 2, none⟩ = some (.int .i64 (at_ l' q).1) ∧ w1.cell? ⟨g, q * 2 + 1, none⟩ = some (.int .i64 (at_ l' q).2) := ⟨(hbel.cell dlt).trans d0, (hbel.cell dlt).trans d1, (hbel.cell glt).trans e0, (hbel.cell glt).trans e1, (hbel.cell glt).trans e2, (hbel.cell glt).trans e3⟩))
          have hbel : Below wr.heap.size wr w1 := ((Below.refl wr.heap.size wr).drew).trans hbel
          clear q0 q1 q2 q3 q4 q5 d0 d1 e0 e1 e2 e3
          go_wp2_with fail
          go_end0
          have hq := Hq.out
          exact ⟨rfl, g, cap, l', ⟨hl2, hb2.below hbel, own_below hown2 hbel⟩, hfr2.of_below' hbel, hg, hp2, up_done hup (.inr (hq ▸ Hlt.out))⟩
end Go.Proofs.Ytjcnikblbcemcaa
