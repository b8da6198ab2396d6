/-
  Walk: the law StateRemembers returns true for every list of symbols that lies in memory; nothing that was there is written. Conditions: the tables as Laid says; at most 2^43 symbols.
-/
import Derived.Test.YtchoiedgnmhjeaaDoorGoes
import Derived.Deep.CutBlock
namespace Go.Proofs.YtchoiedgnmhjeaaDoor
open Go.RowKit

/-- what the number tells of how many literals came last -/
def J (n lits : Int) : Prop := (lits = 0 ∧ 7 ≤ n ∧ n ≤ 11) ∨ (lits = 1 ∧ 0 ≤ n ∧ n ≤ 6) ∨ (lits = 2 ∧ 0 ≤ n ∧ n ≤ 3) ∨ (3 ≤ lits ∧ n = 0)
theorem J.lit {n lits : Int} (h : J n lits) : J (movedN n 1) (lits + 1) := by
  unfold J at *
  unfold movedN
  rw [if_pos rfl]
  split
  · omega
  · split <;> omega
theorem J.other {n lits k : Int} (_h : J n lits) (hk : k = 2 ∨ k = 3 ∨ k = 4) : J (movedN n k) 0 := by
  unfold J
  unfold movedN
  rw [if_neg (by omega)]
  rcases hk with rfl | rfl | rfl <;> simp <;> (repeat' split) <;> omega
theorem J.bd {n lits : Int} (h : J n lits) : 0 ≤ n ∧ n < 12 ∧ 0 ≤ lits := by unfold J at h; omega
def intV (l : List Int) : List Value := l.map (Value.int .i64)
theorem intV_append (l r : List Int) : intV (l ++ r) = intV l ++ intV r := by simp [intV]
theorem intV_one (l : List Int) : ∀ u ∈ intV l, u.oneCell' = true := by
  intro u hu
  simp only [intV, List.mem_map] at hu
  obtain ⟨_, _, rfl⟩ := hu
  rfl
theorem info3 : (Tryd.prog.info? 3).map (fun i => (i.zero, i.size, i.bytes)) = some (some (.int .i64 0), 1, 8) := by kernel_rfl
theorem Way.ok {n a b c d k l x m' a' b' c' d' e : Int} (h : Way n a b c d k l x m' a' b' c' d' e) (he : e = 0) :
    (k = 1 ∧ m' = movedN n 1 ∧ a' = a ∧ b' = b ∧ c' = c ∧ d' = d) ∨ (k = 4 ∧ m' = movedN n 4 ∧ a' = a ∧ b' = b ∧ c' = c ∧ d' = d) ∨ (k = 2 ∧ m' = movedN n 2 ∧ a' = x ∧ b' = a ∧ c' = b ∧ d' = c) ∨
    (k = 3 ∧ x = 0 ∧ m' = movedN n 3 ∧ a' = a ∧ b' = b ∧ c' = c ∧ d' = d) ∨ (k = 3 ∧ x = 1 ∧ m' = movedN n 3 ∧ a' = b ∧ b' = a ∧ c' = c ∧ d' = d) ∨ (k = 3 ∧ x = 2 ∧ m' = movedN n 3 ∧ a' = c ∧ b' = a ∧ c' = b ∧ d' = d) ∨ (k = 3 ∧ x = 3 ∧ m' = movedN n 3 ∧ a' = d ∧ b' = a ∧ c' = b ∧ d' = c) := by
  cases h with
  | bad e h => exact absurd he h
  | plain h hk =>
    rcases hk with rfl | rfl
    · exact .inl ⟨rfl, rfl, rfl, rfl, rfl, rfl⟩
    · exact .inr (.inl ⟨rfl, rfl, rfl, rfl, rfl, rfl⟩)
  | mat h hk hd => subst hk; exact .inr (.inr (.inl ⟨rfl, rfl, rfl, rfl, rfl, rfl⟩))
  | rep0 h hk hx => subst hk hx; exact .inr (.inr (.inr (.inl ⟨rfl, rfl, rfl, rfl, rfl, rfl, rfl⟩)))
  | rep1 h hk hx => subst hk hx; exact .inr (.inr (.inr (.inr (.inl ⟨rfl, rfl, rfl, rfl, rfl, rfl, rfl⟩))))
  | rep2 h hk hx => subst hk hx; exact .inr (.inr (.inr (.inr (.inr (.inl ⟨rfl, rfl, rfl, rfl, rfl, rfl, rfl⟩)))))
  | rep3 h hk hx => subst hk hx; exact .inr (.inr (.inr (.inr (.inr (.inr ⟨rfl, rfl, rfl, rfl, rfl, rfl, rfl⟩)))))
theorem kind_any (k y l x : Int) (w : World) : Calls Tryd.prog 16 #[.agg #[.int .i64 k, .int .u8 y, .int .i64 l, .int .i64 x]] w fun e w' => e = .returned (.int .i64 k) ∧ Below w.heap.size w w' := by
  go_enter Tryd.func16, Tryd.ntmps16
  go_wp2
  go_ret
  exact ⟨rfl, (Below.refl _ _).alloc (Nat.le_refl _) _⟩
/-- the list of what was seen -/
def Seen (w : World) (B : Nat) (A : Option Addr) (len cap : Nat) (l : List Int) : Prop := l.length = len ∧ w.ownsRow B 3 1 (.slice A len cap) len (intV l)
set_option maxHeartbeats 400000 in
theorem among_yes (B : Nat) (A : Option Addr) (len cap : Nat) (l : List Int) (x : Int) (w : World) (h : Seen w B A len cap l) (hx : x ∈ l) (hlen : len ≤ 9223372036854775806) :
    Calls Tryd.prog 17 #[.slice A len cap, .int .i64 x] w fun e w' => e = .returned (.bool true) ∧ w = w' := by
  obtain ⟨hl, hown⟩ := h
  obtain ⟨p, hp, hpx⟩ := List.mem_iff_getElem.1 hx
  obtain ⟨g, cap', hv, _, _⟩ := hown.form (by omega)
  injection hv with e1 _ e3
  subst e1
  have hcell : ∀ i : Nat, i < len → ∃ y, l[i]? = some y ∧ w.cell? ⟨g, i, none⟩ = some (.int .i64 y) := fun i hi => by
    have e : l[i]? = some (l[i]'(by omega)) := List.getElem?_eq_getElem (by omega)
    subst e3
    exact ⟨_, e, by rw [hown.cellAt i (by omega)]; simp [intV, e]⟩
  have Hcell := Lib.hid hcell
  have Hp : Hid (l[p]? = some x) := by show _ = _; rw [List.getElem?_eq_getElem hp, hpx]
  have hpl : p < len := by omega
  have hl' := Lib.hid hl
  clear hcell hpx hl hown
  go_enter Tryd.func17, Tryd.ntmps17
  go_wp2_with fail
  go_loop [5] (fun s5 => ∃ i : Nat, s5 = .int .i64 (i : Int) ∧ i ≤ p) (fun s5 => p + 1 - (intOf s5).toNat)
  case atStart => exact ⟨0, rfl, Nat.zero_le _⟩
  case round =>
    obtain ⟨i, rfl, hi⟩ := hrel
    have hil : (i : Int) < (len : Int) := by omega
    obtain ⟨y, hy, q0⟩ := Hcell.out i (by omega)
    by_cases hyx : y = x
    · have hyb : (y == x) = true := beq_iff_eq.2 hyx
      clear hyx hy
      go_wp2_with fail
      go_ret
      exact ⟨rfl, rfl⟩
    · have hyb : (y == x) = false := beq_eq_false_iff_ne.2 hyx
      have hip : i ≠ p := fun e => hyx (by subst e; have := Hp.out; rw [hy] at this; exact Option.some.inj this)
      have hip' : i + 1 ≤ p := by omega
      clear hyx hy hip
      go_wp2_with fail
      go_round
      case rel => exact ⟨i + 1, by go_num, hip'⟩
      case measure => simp [intOf]; omega

set_option maxHeartbeats 4000000 in
set_option maxRecDepth 100000 in
theorem remembers_law (A : Option Addr) (m mc : Nat) (w : World) (hI : InY w A m) (hl : Laid w) (hm : m ≤ 8796093022208) :
    Calls Tryd.prog 5 #[.slice A m mc] w fun e w' => e = .returned (.bool true) ∧ Below w.heap.size w w' := by
  obtain ⟨i0, hi0, hz0, hz1, hz2⟩ := info_parts info3
  have he := eq22
  have he' : ∀ (a b c d : Int) (w : World), (Op.equalIn 10000 22 (.agg #[.int .i64 a, .int .i64 b, .int .i64 c, .int .i64 d]) (.agg #[.int .i64 a, .int .i64 b, .int .i64 c, .int .i64 d])).run Tryd.prog w = .ok true w := eq22'
  go_enter Tryd.func5, Tryd.ntmps5
  go_wp2_with (first | (go_at_call 14; refine (New_any _).mono ?_; rintro e w1 ⟨rfl, hb1⟩; unfold stV stC))
  have hS0 : Blk ((w1.alloc (.cells (stC 0 1 1 1 1) 26)).alloc (.cells #[.int .i64 1] 3)) w1.heap.size 26 (stC 0 1 1 1 1) := (Blk.new w1 26 (stC 0 1 1 1 1)).alloc _
  have hSeen0 : Seen ((w1.alloc (.cells (stC 0 1 1 1 1) 26)).alloc (.cells #[.int .i64 1] 3)) w.heap.size (some ⟨w1.heap.size + 1, 0, none⟩) 1 1 [1] := by
    refine ⟨rfl, rfl, .inr ⟨w1.heap.size + 1, 1, #[.int .i64 1], rfl, by have := hb1.size; omega, ?_, Nat.le_refl _, by unfold maxLen; omega, rfl, rfl⟩⟩
    have := Blk.new (w1.alloc (.cells (stC 0 1 1 1 1) 26)) 3 #[.int .i64 1]
    simp only [World.size_alloc] at this
    exact this
  have hB0 : Below w.heap.size w ((w1.alloc (.cells (stC 0 1 1 1 1) 26)).alloc (.cells #[.int .i64 1] 3)) := bmk (bmk hb1 _) _
  have HS0 := Lib.hid hS0
  have HSeen0 := Lib.hid hSeen0
  have HB0 := Lib.hid hB0
  have hwS : w.heap.size ≤ w1.heap.size := hb1.size
  unfold stC at HS0 HSeen0 HB0
  obtain ⟨S, hS⟩ : ∃ S, w1.heap.size = S := ⟨_, rfl⟩
  rw [hS] at HS0 HSeen0 hwS
  rw [hS]
  clear hS0 hSeen0 hB0 hS hb1
  go_loopw [4, 5, 6] (fun s4 s5 s6 wr => ∃ (i len cap : Nat) (n a b c d lits : Int) (G : Option Addr) (seen : List Int), s4 = .slice G len cap ∧ s5 = .int .i64 lits ∧ s6 = .int .i64 (i : Int) ∧ i ≤ m ∧ len ≤ i + 1 ∧ lits ≤ 3 + (i : Int) ∧ 0 ≤ lits ∧ Hid (J n lits) ∧ Hid (a ∈ seen ∧ b ∈ seen ∧ c ∈ seen ∧ d ∈ seen) ∧
    Hid (Blk wr S 26 (stC n a b c d)) ∧ Hid (Seen wr w.heap.size G len cap seen) ∧ Hid (Below w.heap.size w wr)) (fun _ _ s6 _ => m - (intOf s6).toNat)
  case atStart => exact ⟨0, 1, 1, 0, 1, 1, 1, 1, 3, _, [1], rfl, rfl, rfl, Nat.zero_le _, Nat.le_refl _, by omega, by omega, .inr (.inr (.inr ⟨by omega, rfl⟩)), ⟨by simp, by simp, by simp, by simp⟩, HS0, HSeen0, HB0⟩
  case round =>
    clear HS0 HSeen0 HB0
    obtain ⟨i, len, cap, n, a, b, c, d, lits, G, seen, rfl, rfl, rfl, hi, hlen, hlits, hlits0, HJ, Hin, HS, HSeen, HB⟩ := hrel
    by_cases him : i < m
    · have him' : (i : Int) < (m : Int) := by omega
      obtain ⟨yb, yo, k, y, l, x, rfl, hyb, y0, y1, y2, y3⟩ := (hI.below HB.out) i him
      obtain ⟨m', a', b', c', d', e, hboth, hway⟩ := Next_both n a b c d k y l x
      have Hway := Lib.hid hway
      have Hc := Lib.hid hboth.1
      obtain ⟨s0, s1, s2, s3, s4⟩ := stC_five HS.out
      have slt := HS.out.lt
      have Hlw : Hid (Laid wr) := hl.below HB.out
      clear hboth hway
      go_upto_region 7 with (fail)
      go_cut [7, 8] (fun s7 s8 wx => ∃ N : Nat, s7 = .pointer (some ⟨N, 0, none⟩) ∧ s8 = .int .i64 e ∧ wr.heap.size ≤ N ∧ Hid (Blk wx N 26 (stC m' a' b' c' d')) ∧ Hid (Below wr.heap.size wr wx))
      case first =>
        have ns : ¬ S = wr.heap.size := by omega
        have ny : ¬ yb = wr.heap.size := by omega
        have Hq : Hid (∀ w' : World, Below wr.heap.size wr w' → w'.cell? ⟨S, 0, none⟩ = some (.int .i64 n) ∧ w'.cell? ⟨S, 1, none⟩ = some (.int .i64 a) ∧ w'.cell? ⟨S, 2, none⟩ = some (.int .i64 b) ∧ w'.cell? ⟨S, 3, none⟩ = some (.int .i64 c) ∧ w'.cell? ⟨S, 4, none⟩ = some (.int .i64 d) ∧ w'.cell? ⟨yb, yo + i * 4, none⟩ = some (.int .i64 k) ∧ w'.cell? ⟨yb, yo + i * 4 + 1, none⟩ = some (.int .u8 y) ∧ w'.cell? ⟨yb, yo + i * 4 + 2, none⟩ = some (.int .i64 l) ∧ w'.cell? ⟨yb, yo + i * 4 + 3, none⟩ = some (.int .i64 x)) := fun w' hb => ⟨(hb.cell (p := ⟨S, 0, none⟩) slt).trans s0, (hb.cell (p := ⟨S, 1, none⟩) slt).trans s1, (hb.cell (p := ⟨S, 2, none⟩) slt).trans s2, (hb.cell (p := ⟨S, 3, none⟩) slt).trans s3, (hb.cell (p := ⟨S, 4, none⟩) slt).trans s4, (hb.cell (p := ⟨yb, yo + i * 4, none⟩) hyb).trans y0, (hb.cell (p := ⟨yb, yo + i * 4 + 1, none⟩) hyb).trans y1, (hb.cell (p := ⟨yb, yo + i * 4 + 2, none⟩) hyb).trans y2, (hb.cell (p := ⟨yb, yo + i * 4 + 3, none⟩) hyb).trans y3⟩
        go_region_held3 (fun w' => w'.cell? ⟨S, 0, none⟩ = some (.int .i64 n) ∧ w'.cell? ⟨S, 1, none⟩ = some (.int .i64 a) ∧ w'.cell? ⟨S, 2, none⟩ = some (.int .i64 b) ∧ w'.cell? ⟨S, 3, none⟩ = some (.int .i64 c) ∧ w'.cell? ⟨S, 4, none⟩ = some (.int .i64 d) ∧ w'.cell? ⟨yb, yo + i * 4, none⟩ = some (.int .i64 k) ∧ w'.cell? ⟨yb, yo + i * 4 + 1, none⟩ = some (.int .u8 y) ∧ w'.cell? ⟨yb, yo + i * 4 + 2, none⟩ = some (.int .i64 l) ∧ w'.cell? ⟨yb, yo + i * 4 + 3, none⟩ = some (.int .i64 x))
          (first | (with_reducible exact ⟨s0, s1, s2, s3, s4, y0, y1, y2, y3⟩) | (with_reducible exact ⟨q0, q1, q2, q3, q4, q5, q6, q7, q8⟩) | go_keep | exact ⟨(keep5 ns).trans q0, (keep5 ns).trans q1, (keep5 ns).trans q2, (keep5 ns).trans q3, (keep5 ns).trans q4, (keep5 ny).trans q5, (keep5 ny).trans q6, (keep5 ny).trans q7, (keep5 ny).trans q8⟩)
          (first | (go_at_call 10; refine (Hc.out _ (Hlw.out.below (by first | (with_reducible exact (Below.refl _ wr).drew) | (with_reducible exact ((Below.refl _ wr).alloc (Nat.le_refl _) _).drew)))).mono ?_; rintro en w1 ⟨rfl, hbel⟩; have hbw : Below wr.heap.size wr w1 := (by first | (with_reducible exact bd1 hbel) | (with_reducible exact bd2 hbel)); obtain ⟨q0, q1, q2, q3, q4, q5, q6, q7, q8⟩ := Hq.out w1 hbw; (try (have hz := ((Blk.new wr 26 #[.int .i64 0, .int .i64 0, .int .i64 0, .int .i64 0, .int .i64 0]).drew.below hbel); have z0 := hz.cell_ 0 rfl; have z1 := hz.cell_ 1 rfl; have z2 := hz.cell_ 2 rfl; have z3 := hz.cell_ 3 rfl; have z4 := hz.cell_ 4 rfl; have f0 := hz.frozen 0; have f1 := hz.frozen 1; have f2 := hz.frozen 2; have f3 := hz.frozen 3; have f4 := hz.frozen 4; have hzs := Lib.hid hz; clear hz)); have Hbw := Lib.hid hbw; clear hbw hbel))
        all_goals go_wp2_with fail
        all_goals go_meet
        · exact ⟨w1.heap.size, rfl, rfl, Hbw.out.size, Blk.new _ _ _, bmk Hbw.out _⟩
        · exact ⟨wr.heap.size, rfl, rfl, Nat.le_refl _, ((((hzs.out.set_ 0 _).set_ 1 _).set_ 2 _).set_ 3 _).set_ 4 _, below5 Hbw.out (Nat.le_refl _) _ _ _ _ _⟩
      case rest =>
        obtain ⟨N, rfl, rfl, hN, HN, hb⟩ := hcut
        obtain ⟨wb, rfl⟩ : ∃ wb : World, wb = wc := ⟨_, rfl⟩
        have HS1 : Hid (Blk wb S 26 (stC n a b c d)) := HS.out.below hb.out
        have HSeen1 : Hid (Seen wb w.heap.size G len cap seen) := ⟨HSeen.out.1, own_below HSeen.out.2 hb.out⟩
        have HB1 : Hid (Below w.heap.size w wb) := HB.out.trans (hb.out.mono HB.out.size)
        have y0 := (hb.out.cell (p := ⟨yb, yo + i * 4, none⟩) hyb).trans y0
        have y1 := (hb.out.cell (p := ⟨yb, yo + i * 4 + 1, none⟩) hyb).trans y1
        have y2 := (hb.out.cell (p := ⟨yb, yo + i * 4 + 2, none⟩) hyb).trans y2
        have y3 := (hb.out.cell (p := ⟨yb, yo + i * 4 + 3, none⟩) hyb).trans y3
        have hyb := Nat.lt_of_lt_of_le hyb hb.out.size
        have hSN : S < N := by omega
        clear s0 s1 s2 s3 s4 slt HS HSeen HB hb Hc Hlw
        obtain ⟨n0, n1, n2, n3, n4⟩ := stC_five HN.out
        obtain ⟨s0, s1, s2, s3, s4⟩ := stC_five HS1.out
        by_cases he0 : e = 0
        · subst he0
          go_wp2_with fail
          refine (kind_any k y l x wb).mono ?_
          rintro en w1 ⟨rfl, hb1⟩
          have HS2 : Hid (Blk w1 S 26 (stC n a b c d)) := HS1.out.below hb1
          have HN2 : Hid (Blk w1 N 26 (stC m' a' b' c' d')) := HN.out.below hb1
          have HSeen2 : Hid (Seen w1 w.heap.size G len cap seen) := ⟨HSeen1.out.1, own_below HSeen1.out.2 hb1⟩
          have HB2 : Hid (Below w.heap.size w w1) := bup HB1.out hb1
          have y0 := (hb1.cell (p := ⟨yb, yo + i * 4, none⟩) hyb).trans y0
          have y3 := (hb1.cell (p := ⟨yb, yo + i * 4 + 3, none⟩) hyb).trans y3
          clear s0 s1 s2 s3 s4 n0 n1 n2 n3 n4 y1 y2 hb1 HS1 HN HSeen1 HB1
          obtain ⟨s0, s1, s2, s3, s4⟩ := stC_five HS2.out
          have hw := Hway.out.ok rfl
          have Hw := Lib.hid hw
          clear hw Hway
          go_upto_block 2 with (fail)
          go_cut [4, 5, 9] (fun s4 s5 s9 wx => ∃ (len' cap' : Nat) (G' : Option Addr) (lits' : Int) (seen' : List Int), s4 = .slice G' len' cap' ∧ s5 = .int .i64 lits' ∧ s9 = .int .i64 a' ∧ len' ≤ i + 1 + 1 ∧ lits' ≤ 3 + ((i : Int) + 1) ∧ 0 ≤ lits' ∧ Hid (J m' lits') ∧
            Hid (a' ∈ seen' ∧ b' ∈ seen' ∧ c' ∈ seen' ∧ d' ∈ seen') ∧ Hid (Seen wx w.heap.size G' len' cap' seen') ∧ Hid (Blk wx S 26 (stC n a b c d)) ∧ Hid (Blk wx N 26 (stC m' a' b' c' d')) ∧ Hid (Below w.heap.size w wx))
          case first =>
            rcases Hw.out with ⟨rfl, rfl, rfl, rfl, rfl, rfl⟩ | ⟨rfl, rfl, rfl, rfl, rfl, rfl⟩ | ⟨rfl, rfl, rfl, rfl, rfl, rfl⟩ | ⟨rfl, rfl, rfl, rfl, rfl, rfl, rfl⟩ | ⟨rfl, rfl, rfl, rfl, rfl, rfl, rfl⟩ | ⟨rfl, rfl, rfl, rfl, rfl, rfl, rfl⟩ | ⟨rfl, rfl, rfl, rfl, rfl, rfl, rfl⟩
            · go_wp2_with fail
              go_meet
              exact ⟨len, cap, G, lits + 1, seen, rfl, rfl, rfl, by omega, by omega, by omega, HJ.out.lit, Hin, HSeen2, HS2, HN2, HB2⟩
            · go_wp2_with fail
              go_meet
              exact ⟨len, cap, G, 0, seen, rfl, rfl, rfl, by omega, by omega, by omega, HJ.out.other (by omega), Hin, HSeen2, HS2, HN2, HB2⟩
            · have hBs : w.heap.size ≤ (w1.alloc (.cells #[.int .i64 a'] 3)).heap.size := by have := HB2.out.size; simp; omega
              have hnews : Rd (w1.alloc (.cells #[.int .i64 a'] 3)) 1 (some ⟨w1.heap.size, 0, none⟩) 1 (intV [a']) := ⟨rfl, fun _ => ⟨_, rfl, World.news_of_block (heap_alloc_new w1 _)⟩⟩
              have Hnews := Lib.hid hnews
              have hlen2 : len + 1 ≤ 8796093022300 := by omega
              clear hnews
              go_wp2_with (at_builtin; refine wpList_append_rd rfl (.tmp 52) (.tmp 58) 39 rfl w.heap.size 3 i0 _ 1 8 Tryd.underlying39 hi0 hz0 hz1 hz2 rfl (by decide) (.slice G len cap) len (intV seen) rfl (HSeen2.out.2.alloc _) _ 1 1 (intV [a']) rfl Hnews.out (intV_one _) (by simp only [maxLen]; omega) (by omega) hBs ?_; intro a6 c6 w2 hown2 hg2 hat2)
              go_meet
              have hne : ∀ g cs, Blk w1 g 26 cs → some g ≠ (Value.slice G len cap).ownBlock := fun g cs hb => own_ne HSeen2.out.2 hb (by decide)
              have hS3 : Blk w2 S 26 (stC n b' c' d' d) := (HS2.out.alloc _).same (hg2.block S (by have := HS2.out.lt; simp; omega) (hne S _ HS2.out))
              have hN3 : Blk w2 N 26 _ := (HN2.out.alloc _).same (hg2.block N (by have := HN2.out.lt; simp; omega) (hne N _ HN2.out))
              refine ⟨len + 1, c6, a6, 0, seen ++ [a'], rfl, rfl, rfl, by omega, by omega, by omega, HJ.out.other (by omega), ?_, ⟨by simp [HSeen2.out.1], by rw [intV_append]; exact hown2⟩, hS3, hN3, ?_⟩
              · obtain ⟨h1, h2, h3, h4⟩ := Hin.out
                exact ⟨by simp, by simp [h1], by simp [h2], by simp [h3]⟩
              · refine Below.grown (HB2.out.alloc HB2.out.size _) hg2 hBs fun g hg => ?_
                exact (own_lt HSeen2.out.2 hg).1
            all_goals
              go_wp2_with fail
              go_meet
              obtain ⟨h1, h2, h3, h4⟩ := Hin.out
              exact ⟨len, cap, G, 0, seen, rfl, rfl, rfl, by omega, by omega, by omega, HJ.out.other (by omega), ⟨by assumption, by assumption, by assumption, by assumption⟩, HSeen2, HS2, HN2, HB2⟩
          case rest =>
            clear HSeen2 HS2 HN2 HB2 s0 s1 s2 s3 s4 y0 y3 Hw Hin HJ
            obtain ⟨len', cap', G', lits', seen', rfl, rfl, rfl, hlen', hlits', hlits0', HJ, Hin, HSeen, HS, HN, HB⟩ := hcut
            obtain ⟨we, rfl⟩ : ∃ we : World, we = wc := ⟨_, rfl⟩
            obtain ⟨s0, s1, s2, s3, s4⟩ := stC_five HS.out
            obtain ⟨n0, n1, n2, n3, n4⟩ := stC_five HN.out
            have f0 := HS.out.frozen 0
            have f1 := HS.out.frozen 1
            have f2 := HS.out.frozen 2
            have f3 := HS.out.frozen 3
            have f4 := HS.out.frozen 4
            go_upto_region 26 with (fail)
            have bS : Blk (((((we.setCell ⟨S, 0, none⟩ (.int .i64 m')).setCell ⟨S, 1, none⟩ (.int .i64 a')).setCell ⟨S, 2, none⟩ (.int .i64 b')).setCell ⟨S, 3, none⟩ (.int .i64 c')).setCell ⟨S, 4, none⟩ (.int .i64 d')) S 26 (stC m' a' b' c' d') := ((((HS.out.set_ 0 _).set_ 1 _).set_ 2 _).set_ 3 _).set_ 4 _
            have hne : some S ≠ (Value.slice G' len' cap').ownBlock := own_ne HSeen.out.2 HS.out (by decide)
            have bSeen := own_far (own_far (own_far (own_far (own_far HSeen.out.2 (p := ⟨S, 0, none⟩) hne (.int .i64 m')) (p := ⟨S, 1, none⟩) hne (.int .i64 a')) (p := ⟨S, 2, none⟩) hne (.int .i64 b')) (p := ⟨S, 3, none⟩) hne (.int .i64 c')) (p := ⟨S, 4, none⟩) hne (.int .i64 d')
            have hbf := below5 HB.out hwS (.int .i64 m') (.int .i64 a') (.int .i64 b') (.int .i64 c') (.int .i64 d')
            obtain ⟨wf, hwf⟩ : ∃ wf, (((((we.setCell ⟨S, 0, none⟩ (.int .i64 m')).setCell ⟨S, 1, none⟩ (.int .i64 a')).setCell ⟨S, 2, none⟩ (.int .i64 b')).setCell ⟨S, 3, none⟩ (.int .i64 c')).setCell ⟨S, 4, none⟩ (.int .i64 d')) = wf := ⟨_, rfl⟩
            rw [hwf] at bS bSeen hbf ⊢
            have HS3 := Lib.hid bS
            have HSeen3 : Hid (Seen wf w.heap.size G' len' cap' seen') := ⟨HSeen.out.1, bSeen⟩
            have HB3 := Lib.hid hbf
            clear hwf bS bSeen hbf hne s0 s1 s2 s3 s4 f0 f1 f2 f3 f4 n0 n1 n2 n3 n4 HS HSeen HN HB
            obtain ⟨s0, s1, s2, s3, s4⟩ := stC_five HS3.out
            go_cut [124] (fun s124 wx => s124 = .bool false ∧ Hid (Below wf.heap.size wf wx))
            case first =>
              have Hlit := Lib.hid (Literal_any m' a' b' c' d' wf)
              rcases HJ.out with ⟨rfl, j1, j2⟩ | ⟨rfl, j1, j2⟩ | ⟨rfl, j1, j2⟩ | ⟨j1, rfl⟩
              · have hd : decide (0 ≤ m' ∧ m' < 7) = false := decide_eq_false (by omega)
                have Hd := Lib.hid hd
                clear hd
                go_wp2_with fail
                refine Hlit.out.mono ?_
                rintro en w1 ⟨rfl, hb1⟩
                rw [Hd.out]
                have s0 := (hb1.cell (p := ⟨S, 0, none⟩) HS3.out.lt).trans s0
                have s1 := (hb1.cell (p := ⟨S, 1, none⟩) HS3.out.lt).trans s1
                go_wp2_with fail
                go_meet
                refine ⟨congrArg Value.bool ?_, hb1⟩
                simp
                omega
              · have hd : decide (0 ≤ m' ∧ m' < 7) = true := decide_eq_true (by omega)
                have Hd := Lib.hid hd
                clear hd
                go_wp2_with fail
                refine Hlit.out.mono ?_
                rintro en w1 ⟨rfl, hb1⟩
                rw [Hd.out]
                have s0 := (hb1.cell (p := ⟨S, 0, none⟩) HS3.out.lt).trans s0
                have s1 := (hb1.cell (p := ⟨S, 1, none⟩) HS3.out.lt).trans s1
                go_wp2_with fail
                go_meet
                refine ⟨congrArg Value.bool ?_, hb1⟩
                simp
                omega
              · have hd : decide (0 ≤ m' ∧ m' < 7) = true := decide_eq_true (by omega)
                have Hd := Lib.hid hd
                clear hd
                go_wp2_with fail
                refine Hlit.out.mono ?_
                rintro en w1 ⟨rfl, hb1⟩
                rw [Hd.out]
                have s0 := (hb1.cell (p := ⟨S, 0, none⟩) HS3.out.lt).trans s0
                have s1 := (hb1.cell (p := ⟨S, 1, none⟩) HS3.out.lt).trans s1
                go_wp2_with fail
                go_meet
                refine ⟨congrArg Value.bool ?_, hb1⟩
                simp
                omega
              · have hd : decide ((0 : Int) ≤ 0 ∧ (0 : Int) < 7) = true := by decide
                have Hd := Lib.hid hd
                clear hd
                go_wp2_with fail
                refine Hlit.out.mono ?_
                rintro en w1 ⟨rfl, hb1⟩
                rw [Hd.out]
                have s0 := (hb1.cell (p := ⟨S, 0, none⟩) HS3.out.lt).trans s0
                have s1 := (hb1.cell (p := ⟨S, 1, none⟩) HS3.out.lt).trans s1
                go_wp2_with fail
                go_meet
                exact ⟨rfl, hb1⟩
            case rest =>
              obtain ⟨rfl, hb⟩ := hcut
              obtain ⟨wx, rfl⟩ : ∃ wx : World, wx = wc := ⟨_, rfl⟩
              have HS4 : Hid (Blk wx S 26 (stC m' a' b' c' d')) := HS3.out.below hb.out
              have HSeen4 : Hid (Seen wx w.heap.size G' len' cap' seen') := ⟨HSeen3.out.1, own_below HSeen3.out.2 hb.out⟩
              have HB4 : Hid (Below w.heap.size w wx) := HB3.out.trans (hb.out.mono HB3.out.size)
              clear s0 s1 s2 s3 s4 HS3 HSeen3 HB3 hb
              obtain ⟨s0, s1, s2, s3, s4⟩ := stC_five HS4.out
              go_wp2_with fail
              go_loop [10] (fun s10 => ∃ q : Nat, s10 = .int .i64 (q : Int) ∧ q ≤ 4) (fun s10 => 4 - (intOf s10).toNat)
              case atStart => exact ⟨0, rfl, by omega⟩
              case round =>
                obtain ⟨q, rfl, hq⟩ := hrel
                rcases (by omega : q = 0 ∨ q = 1 ∨ q = 2 ∨ q = 3 ∨ q = 4) with rfl | rfl | rfl | rfl | rfl
                · go_wp2_with fail
                  refine (among_yes w.heap.size G' len' cap' seen' _ wx HSeen4.out (by first | exact Hin.out.1 | exact Hin.out.2.1 | exact Hin.out.2.2.1 | exact Hin.out.2.2.2) (by omega)).mono ?_
                  rintro en w9 ⟨rfl, rfl⟩
                  go_wp2_with fail
                  go_round
                  case rel => exact ⟨1, rfl, by omega⟩
                  case measure => simp [intOf]
                · go_wp2_with fail
                  refine (among_yes w.heap.size G' len' cap' seen' _ wx HSeen4.out (by first | exact Hin.out.1 | exact Hin.out.2.1 | exact Hin.out.2.2.1 | exact Hin.out.2.2.2) (by omega)).mono ?_
                  rintro en w9 ⟨rfl, rfl⟩
                  go_wp2_with fail
                  go_round
                  case rel => exact ⟨2, rfl, by omega⟩
                  case measure => simp [intOf]
                · go_wp2_with fail
                  refine (among_yes w.heap.size G' len' cap' seen' _ wx HSeen4.out (by first | exact Hin.out.1 | exact Hin.out.2.1 | exact Hin.out.2.2.1 | exact Hin.out.2.2.2) (by omega)).mono ?_
                  rintro en w9 ⟨rfl, rfl⟩
                  go_wp2_with fail
                  go_round
                  case rel => exact ⟨3, rfl, by omega⟩
                  case measure => simp [intOf]
                · go_wp2_with fail
                  refine (among_yes w.heap.size G' len' cap' seen' _ wx HSeen4.out (by first | exact Hin.out.1 | exact Hin.out.2.1 | exact Hin.out.2.2.1 | exact Hin.out.2.2.2) (by omega)).mono ?_
                  rintro en w9 ⟨rfl, rfl⟩
                  go_wp2_with fail
                  go_round
                  case rel => exact ⟨4, rfl, by omega⟩
                  case measure => simp [intOf]
                · go_wp2_with fail
                  go_roundw
                  case rel => exact ⟨i + 1, len', cap', m', a', b', c', d', lits', G', seen', rfl, rfl, by go_num, by omega, by omega, by omega, hlits0', HJ, Hin, HS4, HSeen4, HB4⟩
                  case measure => simp [intOf]; omega
        · rcases Hway.out with ⟨_, _⟩ | _ | _ | _ | _ | _ | _
          · have he1 : (e == 0) = false := beq_eq_false_iff_ne.2 he0
            have he2 : (e != 0) = true := bne_iff_ne.2 he0
            have He0 := Lib.hid he0
            clear he0
            go_wp2_with fail
            go_roundw
            case rel => exact ⟨i + 1, len, cap, n, a, b, c, d, lits, G, seen, rfl, rfl, by go_num, by omega, by omega, by omega, hlits0, HJ, Hin, HS1, HSeen1, HB1⟩
            case measure => simp [intOf]; omega
          all_goals exact absurd rfl he0
    · obtain rfl : i = m := by omega
      go_wp2_with fail
      refine (fixed_any _ (hl.below HB.out)).mono ?_
      rintro en w1 ⟨rfl, hb1⟩
      go_wp2_with fail
      go_ret
      exact ⟨rfl, bup HB.out hb1⟩
end Go.Proofs.YtchoiedgnmhjeaaDoor
