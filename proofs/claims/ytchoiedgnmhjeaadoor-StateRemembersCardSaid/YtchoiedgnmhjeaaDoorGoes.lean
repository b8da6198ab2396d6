/-
  Walk: the law StateGoes returns true for every list of symbols that lies in memory; nothing that was there is written. Conditions: the tables as Laid says.
-/
import Derived.Test.YtchoiedgnmhjeaaDoorBoth
import Derived.Test.YtchoiedgnmhjeaaDoorOpen
import Derived.Outline
import Derived.Deep.LoopGhost
namespace Go.Proofs.YtchoiedgnmhjeaaDoor
open Go.RowKit

/-- symbols that come in -/
def InY (w : World) (A : Option Addr) (n : Nat) : Prop :=
  ∀ i, i < n → ∃ (b off : Nat) (k y l x : Int), A = some ⟨b, off, none⟩ ∧ b < w.heap.size ∧ w.cell? ⟨b, off + i * 4, none⟩ = some (.int .i64 k) ∧ w.cell? ⟨b, off + i * 4 + 1, none⟩ = some (.int .u8 y) ∧ w.cell? ⟨b, off + i * 4 + 2, none⟩ = some (.int .i64 l) ∧ w.cell? ⟨b, off + i * 4 + 3, none⟩ = some (.int .i64 x)
theorem InY.below {w w' : World} {A : Option Addr} {n : Nat} (h : InY w A n) (hb : Below w.heap.size w w') : InY w' A n := fun i hi => by
  obtain ⟨b, off, k, y, l, x, e, hlt, c0, c1, c2, c3⟩ := h i hi
  exact ⟨b, off, k, y, l, x, e, Nat.lt_of_lt_of_le hlt hb.size, (hb.cell (p := ⟨b, off + i * 4, none⟩) hlt).trans c0, (hb.cell (p := ⟨b, off + i * 4 + 1, none⟩) hlt).trans c1, (hb.cell (p := ⟨b, off + i * 4 + 2, none⟩) hlt).trans c2, (hb.cell (p := ⟨b, off + i * 4 + 3, none⟩) hlt).trans c3⟩
/-- both states, at S and T -/
structure Two (w0 w : World) (S T : Nat) (n a b c d : Int) : Prop where
  s : Blk w S 26 (stC n a b c d)
  t : Blk w T 30 (stC n a b c d)
  below : Below w0.heap.size w0 w
theorem Two.later {w0 w w' : World} {S T : Nat} {n a b c d : Int} (h : Two w0 w S T n a b c d) (hb : Below w.heap.size w w') : Two w0 w' S T n a b c d :=
  ⟨h.s.below hb, h.t.below hb, h.below.trans (hb.mono h.below.size)⟩
theorem stC_five {w : World} {g t : Nat} {n a b c d : Int} (h : Blk w g t (stC n a b c d)) : w.cell? ⟨g, 0, none⟩ = some (.int .i64 n) ∧ w.cell? ⟨g, 1, none⟩ = some (.int .i64 a) ∧ w.cell? ⟨g, 2, none⟩ = some (.int .i64 b) ∧ w.cell? ⟨g, 3, none⟩ = some (.int .i64 c) ∧ w.cell? ⟨g, 4, none⟩ = some (.int .i64 d) := ⟨h.cell 0, h.cell 1, h.cell 2, h.cell 3, h.cell 4⟩

theorem keep5 {w1 : World} {N g i : Nat} {v0 v1 v2 v3 v4 : Value} (h : ¬ g = N) : (((((w1.setCell ⟨N, 0, none⟩ v0).setCell ⟨N, 1, none⟩ v1).setCell ⟨N, 2, none⟩ v2).setCell ⟨N, 3, none⟩ v3).setCell ⟨N, 4, none⟩ v4).cell? ⟨g, i, none⟩ = w1.cell? ⟨g, i, none⟩ := by
  have e : ∀ (w : World) (j : Nat) (v : Value), (w.setCell ⟨N, j, none⟩ v).cell? ⟨g, i, none⟩ = w.cell? ⟨g, i, none⟩ := fun w j v => World.cell?_setCell_other w _ _ v (fun e => h (by first | exact (Addr.mk.inj e).1 | exact (Addr.mk.inj e).1.symm))
  rw [e, e, e, e, e]
theorem bd1 {w w1 : World} (h : Below w.drew.heap.size w.drew w1) : Below w.heap.size w w1 := ((Below.refl _ w).drew).trans h
theorem bd2 {w w1 : World} {o : Obj} (h : Below (w.alloc o).drew.heap.size (w.alloc o).drew w1) : Below w.heap.size w w1 := (((Below.refl _ w).alloc (Nat.le_refl _) o).drew).trans (h.mono (by show w.heap.size ≤ (w.alloc o).heap.size; simp))
set_option maxHeartbeats 4000000 in
set_option maxRecDepth 100000 in
theorem goes_law (A : Option Addr) (m mc : Nat) (w : World) (hI : InY w A m) (hl : Laid w) (hm : m ≤ 9223372036854775807) :
    Calls Tryd.prog 4 #[.slice A m mc] w fun e w' => e = .returned (.bool true) ∧ Below w.heap.size w w' := by
  have he := eq22
  have he' : ∀ (a b c d : Int) (w : World), (Op.equalIn 10000 22 (.agg #[.int .i64 a, .int .i64 b, .int .i64 c, .int .i64 d]) (.agg #[.int .i64 a, .int .i64 b, .int .i64 c, .int .i64 d])).run Tryd.prog w = .ok true w := eq22'
  go_enter Tryd.func4, Tryd.ntmps4
  go_wp2_with (first | (go_at_call 14; refine (New_any _).mono ?_; rintro e w1 ⟨rfl, hb1⟩; unfold stV stC) | (go_at_call 15; refine (NewR_any _).mono ?_; rintro e w2 ⟨rfl, hb2⟩; unfold stV stC))
  have hT0 : Two w (w2.alloc (.cells (stC 0 1 1 1 1) 30)) w1.heap.size w2.heap.size 0 1 1 1 1 := by
    have hs := (Blk.new w1 26 (stC 0 1 1 1 1)).below hb2
    refine ⟨hs.alloc _, Blk.new _ _ _, ?_⟩
    have h1 := bmk hb1 (.cells (stC 0 1 1 1 1) 26)
    exact bmk (bup h1 hb2) _
  have HT0 := Lib.hid hT0
  unfold stC at HT0
  obtain ⟨S, hS⟩ : ∃ S, w1.heap.size = S := ⟨_, rfl⟩
  obtain ⟨T, hTT⟩ : ∃ T, w2.heap.size = T := ⟨_, rfl⟩
  rw [hS, hTT] at HT0
  rw [hS, hTT]
  have hwS : w.heap.size ≤ S := by rw [← hS]; exact hb1.size
  have hwT : w.heap.size ≤ T := by rw [← hTT]; exact (bup (bmk hb1 (.cells (stC 0 1 1 1 1) 26)) hb2).size
  clear hT0 hb1 hb2 hS hTT
  go_loopw [5] (fun s5 wr => ∃ (i : Nat) (n a b c d : Int), s5 = .int .i64 (i : Int) ∧ i ≤ m ∧ 0 ≤ n ∧ n < 12 ∧ Hid (Two w wr S T n a b c d)) (fun s5 _ => m - (intOf s5).toNat)
  case atStart => exact ⟨0, 0, 1, 1, 1, 1, rfl, Nat.zero_le _, by omega, by omega, HT0⟩
  case round =>
    clear HT0
    obtain ⟨i, n, a, b, c, d, rfl, hi, hn0, hn1, HT⟩ := hrel
    by_cases him : i < m
    · have him' : (i : Int) < (m : Int) := by omega
      obtain ⟨yb, yo, k, y, l, x, rfl, hyb, y0, y1, y2, y3⟩ := (hI.below HT.out.below) i him
      obtain ⟨m', a', b', c', d', e, hboth, hway⟩ := Next_both n a b c d k y l x
      have Hboth := Lib.hid hboth
      have Hway := Lib.hid hway
      have Hlit := Lib.hid (Literal_any n a b c d)
      obtain ⟨s0, s1, s2, s3, s4⟩ := stC_five HT.out.s
      obtain ⟨t0, t1, t2, t3, t4⟩ := stC_five HT.out.t
      have slt := HT.out.s.lt
      have tlt := HT.out.t.lt
      clear hboth hway
      go_upto_region 6 with (fail)
      have hn7 : (0 ≤ n ∧ n < 7) ∨ ¬ (0 ≤ n ∧ n < 7) := Decidable.em _
      go_cut [37] (fun s37 wx => s37 = .bool false ∧ Hid (Below wr.heap.size wr wx))
      case first =>
        rcases hn7 with h7 | h7
        · have h7' : n < 7 := h7.2
          have Hd : Hid (decide (0 ≤ n ∧ n < 7) = true) := decide_eq_true h7
          clear h7
          go_region_held3 (fun w' => w'.cell? ⟨S, 0, none⟩ = some (.int .i64 n) ∧ w'.cell? ⟨S, 1, none⟩ = some (.int .i64 a) ∧ w'.cell? ⟨S, 2, none⟩ = some (.int .i64 b) ∧ w'.cell? ⟨S, 3, none⟩ = some (.int .i64 c) ∧ w'.cell? ⟨S, 4, none⟩ = some (.int .i64 d) ∧ w'.cell? ⟨T, 0, none⟩ = some (.int .i64 n) ∧ w'.cell? ⟨T, 1, none⟩ = some (.int .i64 a) ∧ w'.cell? ⟨T, 2, none⟩ = some (.int .i64 b) ∧ w'.cell? ⟨T, 3, none⟩ = some (.int .i64 c) ∧ w'.cell? ⟨T, 4, none⟩ = some (.int .i64 d))
            (first | exact ⟨s0, s1, s2, s3, s4, t0, t1, t2, t3, t4⟩ | exact ⟨q0, q1, q2, q3, q4, q5, q6, q7, q8, q9⟩ | go_keep)
            (first | (go_at_call 12; refine (Hlit.out _).mono ?_; rintro en w1 ⟨rfl, hbel⟩; rw [Hd.out]; obtain ⟨q0, q1, q2, q3, q4, q5, q6, q7, q8, q9⟩ : w1.cell? ⟨S, 0, none⟩ = some (.int .i64 n) ∧ w1.cell? ⟨S, 1, none⟩ = some (.int .i64 a) ∧ w1.cell? ⟨S, 2, none⟩ = some (.int .i64 b) ∧ w1.cell? ⟨S, 3, none⟩ = some (.int .i64 c) ∧ w1.cell? ⟨S, 4, none⟩ = some (.int .i64 d) ∧ w1.cell? ⟨T, 0, none⟩ = some (.int .i64 n) ∧ w1.cell? ⟨T, 1, none⟩ = some (.int .i64 a) ∧ w1.cell? ⟨T, 2, none⟩ = some (.int .i64 b) ∧ w1.cell? ⟨T, 3, none⟩ = some (.int .i64 c) ∧ w1.cell? ⟨T, 4, none⟩ = some (.int .i64 d) := ⟨(hbel.cell slt).trans s0, (hbel.cell slt).trans s1, (hbel.cell slt).trans s2, (hbel.cell slt).trans s3, (hbel.cell slt).trans s4, (hbel.cell tlt).trans t0, (hbel.cell tlt).trans t1, (hbel.cell tlt).trans t2, (hbel.cell tlt).trans t3, (hbel.cell tlt).trans t4⟩))
          go_wp2_with fail
          go_meet
          exact ⟨rfl, ((Below.refl wr.heap.size wr).drew).trans hbel⟩
        · have h7' : ¬ n < 7 := fun h => h7 ⟨hn0, h⟩
          have Hd : Hid (decide (0 ≤ n ∧ n < 7) = false) := decide_eq_false h7
          clear h7
          go_region_held3 (fun w' => w'.cell? ⟨S, 0, none⟩ = some (.int .i64 n) ∧ w'.cell? ⟨S, 1, none⟩ = some (.int .i64 a) ∧ w'.cell? ⟨S, 2, none⟩ = some (.int .i64 b) ∧ w'.cell? ⟨S, 3, none⟩ = some (.int .i64 c) ∧ w'.cell? ⟨S, 4, none⟩ = some (.int .i64 d) ∧ w'.cell? ⟨T, 0, none⟩ = some (.int .i64 n) ∧ w'.cell? ⟨T, 1, none⟩ = some (.int .i64 a) ∧ w'.cell? ⟨T, 2, none⟩ = some (.int .i64 b) ∧ w'.cell? ⟨T, 3, none⟩ = some (.int .i64 c) ∧ w'.cell? ⟨T, 4, none⟩ = some (.int .i64 d))
            (first | exact ⟨s0, s1, s2, s3, s4, t0, t1, t2, t3, t4⟩ | exact ⟨q0, q1, q2, q3, q4, q5, q6, q7, q8, q9⟩ | go_keep)
            (first | (go_at_call 12; refine (Hlit.out _).mono ?_; rintro en w1 ⟨rfl, hbel⟩; rw [Hd.out]; obtain ⟨q0, q1, q2, q3, q4, q5, q6, q7, q8, q9⟩ : w1.cell? ⟨S, 0, none⟩ = some (.int .i64 n) ∧ w1.cell? ⟨S, 1, none⟩ = some (.int .i64 a) ∧ w1.cell? ⟨S, 2, none⟩ = some (.int .i64 b) ∧ w1.cell? ⟨S, 3, none⟩ = some (.int .i64 c) ∧ w1.cell? ⟨S, 4, none⟩ = some (.int .i64 d) ∧ w1.cell? ⟨T, 0, none⟩ = some (.int .i64 n) ∧ w1.cell? ⟨T, 1, none⟩ = some (.int .i64 a) ∧ w1.cell? ⟨T, 2, none⟩ = some (.int .i64 b) ∧ w1.cell? ⟨T, 3, none⟩ = some (.int .i64 c) ∧ w1.cell? ⟨T, 4, none⟩ = some (.int .i64 d) := ⟨(hbel.cell slt).trans s0, (hbel.cell slt).trans s1, (hbel.cell slt).trans s2, (hbel.cell slt).trans s3, (hbel.cell slt).trans s4, (hbel.cell tlt).trans t0, (hbel.cell tlt).trans t1, (hbel.cell tlt).trans t2, (hbel.cell tlt).trans t3, (hbel.cell tlt).trans t4⟩))
          go_wp2_with fail
          go_meet
          exact ⟨rfl, ((Below.refl wr.heap.size wr).drew).trans hbel⟩
      case rest =>
        obtain ⟨rfl, hb⟩ := hcut
        obtain ⟨wa, rfl⟩ : ∃ wa : World, wa = wc := ⟨_, rfl⟩
        have HT1 : Hid (Two w wa S T n a b c d) := HT.out.later hb.out
        have y0 := (hb.out.cell (p := ⟨yb, yo + i * 4, none⟩) hyb).trans y0
        have y1 := (hb.out.cell (p := ⟨yb, yo + i * 4 + 1, none⟩) hyb).trans y1
        have y2 := (hb.out.cell (p := ⟨yb, yo + i * 4 + 2, none⟩) hyb).trans y2
        have y3 := (hb.out.cell (p := ⟨yb, yo + i * 4 + 3, none⟩) hyb).trans y3
        have hyb := Nat.lt_of_lt_of_le hyb hb.out.size
        clear s0 s1 s2 s3 s4 t0 t1 t2 t3 t4 slt tlt hb HT hn7 Hlit
        obtain ⟨s0, s1, s2, s3, s4⟩ := stC_five HT1.out.s
        have slt := HT1.out.s.lt
        have tlt := HT1.out.t.lt
        have Hc := Lib.hid (Hboth.out.1)
        have hlw : Laid wa := hl.below HT1.out.below
        have Hlw := Lib.hid hlw
        clear hlw
        go_upto_region 8 with (fail)
        go_cut [6, 7] (fun s6 s7 wx => ∃ N : Nat, s6 = .pointer (some ⟨N, 0, none⟩) ∧ s7 = .int .i64 e ∧ wa.heap.size ≤ N ∧ Hid (Blk wx N 26 (stC m' a' b' c' d')) ∧ Hid (Below wa.heap.size wa wx))
        case first =>
          have ns : ¬ S = wa.heap.size := by omega
          have ny : ¬ yb = wa.heap.size := by omega
          have nt : ¬ T = wa.heap.size := by omega
          have Hq : Hid (∀ w' : World, Below wa.heap.size wa w' → w'.cell? ⟨S, 0, none⟩ = some (.int .i64 n) ∧ w'.cell? ⟨S, 1, none⟩ = some (.int .i64 a) ∧ w'.cell? ⟨S, 2, none⟩ = some (.int .i64 b) ∧ w'.cell? ⟨S, 3, none⟩ = some (.int .i64 c) ∧ w'.cell? ⟨S, 4, none⟩ = some (.int .i64 d) ∧ w'.cell? ⟨yb, yo + i * 4, none⟩ = some (.int .i64 k) ∧ w'.cell? ⟨yb, yo + i * 4 + 1, none⟩ = some (.int .u8 y) ∧ w'.cell? ⟨yb, yo + i * 4 + 2, none⟩ = some (.int .i64 l) ∧ w'.cell? ⟨yb, yo + i * 4 + 3, none⟩ = some (.int .i64 x)) := fun w' hb => ⟨(hb.cell (p := ⟨S, 0, none⟩) slt).trans s0, (hb.cell (p := ⟨S, 1, none⟩) slt).trans s1, (hb.cell (p := ⟨S, 2, none⟩) slt).trans s2, (hb.cell (p := ⟨S, 3, none⟩) slt).trans s3, (hb.cell (p := ⟨S, 4, none⟩) slt).trans s4, (hb.cell (p := ⟨yb, yo + i * 4, none⟩) hyb).trans y0, (hb.cell (p := ⟨yb, yo + i * 4 + 1, none⟩) hyb).trans y1, (hb.cell (p := ⟨yb, yo + i * 4 + 2, none⟩) hyb).trans y2, (hb.cell (p := ⟨yb, yo + i * 4 + 3, none⟩) hyb).trans y3⟩
          go_region_held3 (fun w' => w'.cell? ⟨S, 0, none⟩ = some (.int .i64 n) ∧ w'.cell? ⟨S, 1, none⟩ = some (.int .i64 a) ∧ w'.cell? ⟨S, 2, none⟩ = some (.int .i64 b) ∧ w'.cell? ⟨S, 3, none⟩ = some (.int .i64 c) ∧ w'.cell? ⟨S, 4, none⟩ = some (.int .i64 d) ∧ w'.cell? ⟨yb, yo + i * 4, none⟩ = some (.int .i64 k) ∧ w'.cell? ⟨yb, yo + i * 4 + 1, none⟩ = some (.int .u8 y) ∧ w'.cell? ⟨yb, yo + i * 4 + 2, none⟩ = some (.int .i64 l) ∧ w'.cell? ⟨yb, yo + i * 4 + 3, none⟩ = some (.int .i64 x))
            (first | (with_reducible exact ⟨s0, s1, s2, s3, s4, y0, y1, y2, y3⟩) | (with_reducible exact ⟨q0, q1, q2, q3, q4, q5, q6, q7, q8⟩) | go_keep | exact ⟨(keep5 ns).trans q0, (keep5 ns).trans q1, (keep5 ns).trans q2, (keep5 ns).trans q3, (keep5 ns).trans q4, (keep5 ny).trans q5, (keep5 ny).trans q6, (keep5 ny).trans q7, (keep5 ny).trans q8⟩)
            (first | (go_at_call 10; refine (Hc.out _ (Hlw.out.below (by first | (with_reducible exact (Below.refl _ wa).drew) | (with_reducible exact ((Below.refl _ wa).alloc (Nat.le_refl _) _).drew)))).mono ?_; rintro en w1 ⟨rfl, hbel⟩; have hbw : Below wa.heap.size wa w1 := (by first | (with_reducible exact bd1 hbel) | (with_reducible exact bd2 hbel)); obtain ⟨q0, q1, q2, q3, q4, q5, q6, q7, q8⟩ := Hq.out w1 hbw; (try (have hz := ((Blk.new wa 26 #[.int .i64 0, .int .i64 0, .int .i64 0, .int .i64 0, .int .i64 0]).drew.below hbel); have z0 := hz.cell_ 0 rfl; have z1 := hz.cell_ 1 rfl; have z2 := hz.cell_ 2 rfl; have z3 := hz.cell_ 3 rfl; have z4 := hz.cell_ 4 rfl; have f0 := hz.frozen 0; have f1 := hz.frozen 1; have f2 := hz.frozen 2; have f3 := hz.frozen 3; have f4 := hz.frozen 4; have hzs := Lib.hid hz; clear hz)); have Hbw := Lib.hid hbw; clear hbw hbel))
          all_goals go_wp2_with fail
          all_goals go_meet
          · exact ⟨w1.heap.size, rfl, rfl, Hbw.out.size, Blk.new _ _ _, bmk Hbw.out _⟩
          · exact ⟨wa.heap.size, rfl, rfl, Nat.le_refl _, ((((hzs.out.set_ 0 _).set_ 1 _).set_ 2 _).set_ 3 _).set_ 4 _, below5 Hbw.out (Nat.le_refl _) _ _ _ _ _⟩
        case rest =>
          obtain ⟨N, rfl, rfl, hN, HN, hb⟩ := hcut
          obtain ⟨wb, rfl⟩ : ∃ wb : World, wb = wc := ⟨_, rfl⟩
          have HT2 : Hid (Two w wb S T n a b c d) := HT1.out.later hb.out
          have y0 := (hb.out.cell (p := ⟨yb, yo + i * 4, none⟩) hyb).trans y0
          have y1 := (hb.out.cell (p := ⟨yb, yo + i * 4 + 1, none⟩) hyb).trans y1
          have y2 := (hb.out.cell (p := ⟨yb, yo + i * 4 + 2, none⟩) hyb).trans y2
          have y3 := (hb.out.cell (p := ⟨yb, yo + i * 4 + 3, none⟩) hyb).trans y3
          have hyb := Nat.lt_of_lt_of_le hyb hb.out.size
          have hSN : S < N := by omega
          have hTN : T < N := by omega
          clear s0 s1 s2 s3 s4 slt tlt hb HT1 Hc Hlw
          obtain ⟨t0, t1, t2, t3, t4⟩ := stC_five HT2.out.t
          have slt := HT2.out.s.lt
          have tlt := HT2.out.t.lt
          have nlt := HN.out.lt
          have Hc := Lib.hid (Hboth.out.2)
          go_wp2_with fail
          go_cut [8, 9] (fun s8 s9 wx => ∃ M : Nat, s8 = .pointer (some ⟨M, 0, none⟩) ∧ s9 = .int .i64 e ∧ wb.heap.size ≤ M ∧ Hid (Blk wx M 30 (stC m' a' b' c' d')) ∧ Hid (Below wb.heap.size wb wx))
          case first =>
            have ns : ¬ S = wb.heap.size := by omega
            have ny : ¬ yb = wb.heap.size := by omega
            have nt : ¬ T = wb.heap.size := by omega
            have Hq : Hid (∀ w' : World, Below wb.heap.size wb w' → w'.cell? ⟨T, 0, none⟩ = some (.int .i64 n) ∧ w'.cell? ⟨T, 1, none⟩ = some (.int .i64 a) ∧ w'.cell? ⟨T, 2, none⟩ = some (.int .i64 b) ∧ w'.cell? ⟨T, 3, none⟩ = some (.int .i64 c) ∧ w'.cell? ⟨T, 4, none⟩ = some (.int .i64 d) ∧ w'.cell? ⟨yb, yo + i * 4, none⟩ = some (.int .i64 k) ∧ w'.cell? ⟨yb, yo + i * 4 + 1, none⟩ = some (.int .u8 y) ∧ w'.cell? ⟨yb, yo + i * 4 + 2, none⟩ = some (.int .i64 l) ∧ w'.cell? ⟨yb, yo + i * 4 + 3, none⟩ = some (.int .i64 x)) := fun w' hb => ⟨(hb.cell (p := ⟨T, 0, none⟩) tlt).trans t0, (hb.cell (p := ⟨T, 1, none⟩) tlt).trans t1, (hb.cell (p := ⟨T, 2, none⟩) tlt).trans t2, (hb.cell (p := ⟨T, 3, none⟩) tlt).trans t3, (hb.cell (p := ⟨T, 4, none⟩) tlt).trans t4, (hb.cell (p := ⟨yb, yo + i * 4, none⟩) hyb).trans y0, (hb.cell (p := ⟨yb, yo + i * 4 + 1, none⟩) hyb).trans y1, (hb.cell (p := ⟨yb, yo + i * 4 + 2, none⟩) hyb).trans y2, (hb.cell (p := ⟨yb, yo + i * 4 + 3, none⟩) hyb).trans y3⟩
            go_region_held3 (fun w' => w'.cell? ⟨T, 0, none⟩ = some (.int .i64 n) ∧ w'.cell? ⟨T, 1, none⟩ = some (.int .i64 a) ∧ w'.cell? ⟨T, 2, none⟩ = some (.int .i64 b) ∧ w'.cell? ⟨T, 3, none⟩ = some (.int .i64 c) ∧ w'.cell? ⟨T, 4, none⟩ = some (.int .i64 d) ∧ w'.cell? ⟨yb, yo + i * 4, none⟩ = some (.int .i64 k) ∧ w'.cell? ⟨yb, yo + i * 4 + 1, none⟩ = some (.int .u8 y) ∧ w'.cell? ⟨yb, yo + i * 4 + 2, none⟩ = some (.int .i64 l) ∧ w'.cell? ⟨yb, yo + i * 4 + 3, none⟩ = some (.int .i64 x))
              (first | (with_reducible exact ⟨t0, t1, t2, t3, t4, y0, y1, y2, y3⟩) | (with_reducible exact ⟨q0, q1, q2, q3, q4, q5, q6, q7, q8⟩) | go_keep | exact ⟨(keep5 nt).trans q0, (keep5 nt).trans q1, (keep5 nt).trans q2, (keep5 nt).trans q3, (keep5 nt).trans q4, (keep5 ny).trans q5, (keep5 ny).trans q6, (keep5 ny).trans q7, (keep5 ny).trans q8⟩)
              (first | (go_at_call 11; refine (Hc.out _).mono ?_; rintro en w1 ⟨rfl, hbel⟩; have hbw : Below wb.heap.size wb w1 := (by first | (with_reducible exact bd1 hbel) | (with_reducible exact bd2 hbel)); obtain ⟨q0, q1, q2, q3, q4, q5, q6, q7, q8⟩ := Hq.out w1 hbw; (try (have hz := ((Blk.new wb 30 #[.int .i64 0, .int .i64 0, .int .i64 0, .int .i64 0, .int .i64 0]).drew.below hbel); have z0 := hz.cell_ 0 rfl; have z1 := hz.cell_ 1 rfl; have z2 := hz.cell_ 2 rfl; have z3 := hz.cell_ 3 rfl; have z4 := hz.cell_ 4 rfl; have f0 := hz.frozen 0; have f1 := hz.frozen 1; have f2 := hz.frozen 2; have f3 := hz.frozen 3; have f4 := hz.frozen 4; have hzs := Lib.hid hz; clear hz)); have Hbw := Lib.hid hbw; clear hbw hbel))
            all_goals go_wp2_with fail
            all_goals go_meet
            · exact ⟨w1.heap.size, rfl, rfl, Hbw.out.size, Blk.new _ _ _, bmk Hbw.out _⟩
            · exact ⟨wb.heap.size, rfl, rfl, Nat.le_refl _, ((((hzs.out.set_ 0 _).set_ 1 _).set_ 2 _).set_ 3 _).set_ 4 _, below5 Hbw.out (Nat.le_refl _) _ _ _ _ _⟩
          case rest =>
            obtain ⟨M, rfl, rfl, hM, HM, hb⟩ := hcut
            obtain ⟨wd, rfl⟩ : ∃ wd : World, wd = wc := ⟨_, rfl⟩
            have HT3 : Hid (Two w wd S T n a b c d) := HT2.out.later hb.out
            have HN3 : Hid (Blk wd N 26 (stC m' a' b' c' d')) := HN.out.below hb.out
            have hNM : N < M := by omega
            clear t0 t1 t2 t3 t4 y0 y1 y2 y3 hb HT2 Hc HN nlt slt tlt
            obtain ⟨n0, n1, n2, n3, n4⟩ := stC_five HN3.out
            obtain ⟨m0, m1, m2, m3, m4⟩ := stC_five HM.out
            by_cases he0 : e = 0
            · have he1 : (e == 0) = true := beq_iff_eq.2 he0
              obtain ⟨s0, s1, s2, s3, s4⟩ := stC_five HT3.out.s
              have f0 := HT3.out.s.frozen 0
              have f1 := HT3.out.s.frozen 1
              have f2 := HT3.out.s.frozen 2
              have f3 := HT3.out.s.frozen 3
              have f4 := HT3.out.s.frozen 4
              have He0 := Lib.hid he0
              clear he0
              have hST : S ≠ T := (show BT wd S 26 from ⟨_, HT3.out.s⟩).ne (show BT wd T 30 from ⟨_, HT3.out.t⟩) (by decide)
              have hMS : M ≠ S := (show BT wd M 30 from ⟨_, HM.out⟩).ne (show BT wd S 26 from ⟨_, HT3.out.s⟩) (by decide)
              have hMT : M ≠ T := by omega
              have hbS : w.heap.size ≤ S := hwS
              go_upto_region 14 with (fail)
              have bS : Blk (((((wd.setCell ⟨S, 0, none⟩ (.int .i64 m')).setCell ⟨S, 1, none⟩ (.int .i64 a')).setCell ⟨S, 2, none⟩ (.int .i64 b')).setCell ⟨S, 3, none⟩ (.int .i64 c')).setCell ⟨S, 4, none⟩ (.int .i64 d')) S 26 (stC m' a' b' c' d') := ((((HT3.out.s.set_ 0 _).set_ 1 _).set_ 2 _).set_ 3 _).set_ 4 _
              have bT := ((((HT3.out.t.far (p := ⟨S, 0, none⟩) hST.symm (.int .i64 m')).far (p := ⟨S, 1, none⟩) hST.symm (.int .i64 a')).far (p := ⟨S, 2, none⟩) hST.symm (.int .i64 b')).far (p := ⟨S, 3, none⟩) hST.symm (.int .i64 c')).far (p := ⟨S, 4, none⟩) hST.symm (.int .i64 d')
              have bM := ((((HM.out.far (p := ⟨S, 0, none⟩) hMS (.int .i64 m')).far (p := ⟨S, 1, none⟩) hMS (.int .i64 a')).far (p := ⟨S, 2, none⟩) hMS (.int .i64 b')).far (p := ⟨S, 3, none⟩) hMS (.int .i64 c')).far (p := ⟨S, 4, none⟩) hMS (.int .i64 d')
              have hbf := below5 HT3.out.below hwS (.int .i64 m') (.int .i64 a') (.int .i64 b') (.int .i64 c') (.int .i64 d')
              obtain ⟨wf, hwf⟩ : ∃ wf, (((((wd.setCell ⟨S, 0, none⟩ (.int .i64 m')).setCell ⟨S, 1, none⟩ (.int .i64 a')).setCell ⟨S, 2, none⟩ (.int .i64 b')).setCell ⟨S, 3, none⟩ (.int .i64 c')).setCell ⟨S, 4, none⟩ (.int .i64 d')) = wf := ⟨_, rfl⟩
              rw [hwf] at bS bT bM hbf ⊢
              clear hwf s0 s1 s2 s3 s4 f0 f1 f2 f3 f4 n0 n1 n2 n3 n4 m0 m1 m2 m3 m4 HT3 HM HN3
              obtain ⟨t0, t1, t2, t3, t4⟩ := stC_five bT
              obtain ⟨m0, m1, m2, m3, m4⟩ := stC_five bM
              have f0 := bT.frozen 0
              have f1 := bT.frozen 1
              have f2 := bT.frozen 2
              have f3 := bT.frozen 3
              have f4 := bT.frozen 4
              have BS := Lib.hid bS
              have BT' := Lib.hid bT
              have Hbf := Lib.hid hbf
              have hm01 : 0 ≤ m' ∧ m' < 12 := by
                have h0 := He0.out
                rcases Hway.out with ⟨_, h⟩ | _ | _ | _ | _ | _ | _
                · exact absurd h0 h
                all_goals exact movedN_ok hn0 hn1
              obtain ⟨hm0, hm1⟩ := hm01
              clear bS bT bM hbf
              go_wp2_with fail
              go_roundw
              case rel => exact ⟨i + 1, m', a', b', c', d', by go_num, by omega, hm0, hm1, ⟨((((BS.out.far (p := ⟨T, 0, none⟩) hST _).far (p := ⟨T, 1, none⟩) hST _).far (p := ⟨T, 2, none⟩) hST _).far (p := ⟨T, 3, none⟩) hST _).far (p := ⟨T, 4, none⟩) hST _, ((((BT'.out.set_ 0 _).set_ 1 _).set_ 2 _).set_ 3 _).set_ 4 _, below5 Hbf.out hwT _ _ _ _ _⟩⟩
              case measure => simp [intOf]; omega
            · have he1 : (e == 0) = false := beq_eq_false_iff_ne.2 he0
              have He0 := Lib.hid he0
              clear he0
              go_wp2_with fail
              go_roundw
              case rel => exact ⟨i + 1, n, a, b, c, d, by go_num, by omega, hn0, hn1, HT3⟩
              case measure => simp [intOf]; omega
    · obtain rfl : i = m := by omega
      obtain ⟨s0, s1, s2, s3, s4⟩ := stC_five HT.out.s
      obtain ⟨t0, t1, t2, t3, t4⟩ := stC_five HT.out.t
      go_wp2_with fail
      refine (fixed_any _ (hl.below HT.out.below)).mono ?_
      rintro en w1 ⟨rfl, hb1⟩
      go_wp2_with fail
      go_ret
      exact ⟨rfl, bup HT.out.below hb1⟩
end Go.Proofs.YtchoiedgnmhjeaaDoor
