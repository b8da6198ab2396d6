/-
  Walks of a symbol's price, the program's and the document's: both are one plain function. Conditions: the tables as Laid says.
-/
import Derived.Test.YthfmomhcalppfaaDoorPrFn
import Derived.Test.YthfmomhcalppfaaDoorPrNums
import Derived.IntWalk
namespace Go.Proofs.YthfmomhcalppfaaDoor
open Go.RowKit
set_option maxRecDepth 100000

def lenP (n : Int) : Int := if n ≤ 9 then 4 else if n ≤ 17 then 5 else 10
theorem lenP_bd (n : Int) : 4 ≤ lenP n ∧ lenP n ≤ 10 := by unfold lenP; split <;> (try split) <;> omega
theorem length_any (n : Int) (w : World) : Calls Tryd.prog 11 #[.int .i64 n] w fun e w' => e = .returned (.int .i64 (lenP n)) ∧ w = w' := by
  unfold lenP
  by_cases h1 : n ≤ 9
  · rw [if_pos h1]
    go_enter Tryd.func11, Tryd.ntmps11
    go_wp2
    go_ret
    exact ⟨rfl, rfl⟩
  · rw [if_neg h1]
    by_cases h2 : n ≤ 17
    · rw [if_pos h2]
      go_enter Tryd.func11, Tryd.ntmps11
      go_wp2
      go_ret
      exact ⟨rfl, rfl⟩
    · rw [if_neg h2]
      go_enter Tryd.func11, Tryd.ntmps11
      go_wp2
      go_ret
      exact ⟨rfl, rfl⟩
theorem long_any (n : Int) (w : World) : Calls Tryd.prog 15 #[.int .i64 n] w fun e w' => e = .returned (.int .i64 (lenP n)) ∧ w = w' := by
  unfold lenP
  by_cases h1 : n ≤ 9
  · rw [if_pos h1]
    go_enter Tryd.func15, Tryd.ntmps15
    go_wp2
    go_ret
    exact ⟨rfl, rfl⟩
  · rw [if_neg h1]
    by_cases h2 : n ≤ 17
    · rw [if_pos h2]
      go_enter Tryd.func15, Tryd.ntmps15
      go_wp2
      go_ret
      exact ⟨rfl, rfl⟩
    · rw [if_neg h2]
      go_enter Tryd.func15, Tryd.ntmps15
      go_wp2
      go_ret
      exact ⟨rfl, rfl⟩
/-! ### how often a number is halved till it is below 4 -/
def halves : Nat → Nat → Nat
  | 0, _ => 0
  | f + 1, x => if x < 4 then 0 else halves f (x / 2) + 1
theorem halves_of (b : Nat) : ∀ f x, b < f → 2 * 2 ^ b ≤ x → x < 4 * 2 ^ b → halves f x = b := by
  induction b with
  | zero =>
    intro f x hf h1 h2
    obtain ⟨f, rfl⟩ : ∃ g, f = g + 1 := ⟨f - 1, by omega⟩
    unfold halves
    rw [if_pos (by omega)]
  | succ b ih =>
    intro f x hf h1 h2
    obtain ⟨f, rfl⟩ : ∃ g, f = g + 1 := ⟨f - 1, by omega⟩
    unfold halves
    have hp : 2 ^ (b + 1) = 2 * 2 ^ b := by rw [Nat.pow_succ]; omega
    have hq : 1 ≤ 2 ^ b := Nat.one_le_two_pow
    rw [if_neg (by omega), ih f (x / 2) (by omega) (by omega) (by omega)]
theorem slot_lower {d : Nat} (h : 1 ≤ d) : ∀ n, leastN (slotUpto d n) ≤ d := by
  intro n
  induction n with
  | zero => exact h
  | succ n ih =>
    unfold slotUpto
    split
    · assumption
    · exact ih
theorem slot_lt (d : Nat) : ∀ n, 0 < n → slotUpto d n < n := by
  intro n
  induction n with
  | zero => intro h; omega
  | succ n ih =>
    intro _
    unfold slotUpto
    split
    · omega
    · by_cases h0 : n = 0
      · subst h0; exact Nat.one_pos
      · have := ih (by omega); omega
theorem slot_above (d : Nat) : ∀ n j, slotUpto d n < j → j < n → d < leastN j := by
  intro n
  induction n with
  | zero => intro j _ h; omega
  | succ n ih =>
    intro j h1 h2
    unfold slotUpto at h1
    split at h1
    · omega
    · by_cases h0 : j = n
      · subst h0; omega
      · exact ih j h1 (by omega)
theorem top65 : leastN 64 = 4294967297 := by decide +kernel
theorem next_form : ∀ s : Fin 64, 4 ≤ s.val → leastN (s.val + 1) ≤ 4 * 2 ^ (s.val / 2 - 1) + 1 := by decide +kernel
theorem halves_slot (d : Nat) (h1 : 1 ≤ d) (h2 : d ≤ 4294967295) : halves 64 (d - 1) = bitsN (slotUpto d 64) := by
  have hlo := slot_lower h1 64
  have hlt := slot_lt d 64 (by omega)
  have hup : d < leastN (slotUpto d 64 + 1) := by
    by_cases h : slotUpto d 64 + 1 < 64
    · exact slot_above d 64 _ (by omega) h
    · have : slotUpto d 64 + 1 = 64 := by omega
      rw [this, top65]; omega
  obtain ⟨s, hs⟩ : ∃ s, slotUpto d 64 = s := ⟨_, rfl⟩
  rw [hs] at hlo hlt hup ⊢
  by_cases h4 : 4 ≤ s
  · have hf := least_form ⟨s, hlt⟩ h4
    have hn := next_form ⟨s, hlt⟩ h4
    simp only [] at hf hn
    unfold bitsN
    rw [if_neg (by omega)]
    have hp : 1 ≤ 2 ^ (s / 2 - 1) := Nat.one_le_two_pow
    refine halves_of (s / 2 - 1) 64 (d - 1) (by omega) ?_ (by omega)
    have : 2 * 2 ^ (s / 2 - 1) ≤ (2 + s % 2) * 2 ^ (s / 2 - 1) := Nat.mul_le_mul_right _ (by omega)
    omega
  · unfold bitsN
    rw [if_pos (by omega)]
    have hd : d ≤ 4 := by
      by_cases h3 : s + 1 < 4
      · have := least_small ⟨s + 1, h3⟩; simp only [] at this; omega
      · have : s + 1 = 4 := by omega
        have h44 : leastN 4 = 5 := by decide +kernel
        rw [this, h44] at hup; omega
    unfold halves
    rw [if_pos (by omega)]
theorem bits_fits {d : Nat} : bitsN (slotUpto d 64) ≤ 31 := by
  have := slot_lt d 64 (by omega)
  have h := (least_fits ⟨slotUpto d 64, by omega⟩).2.1
  exact h
theorem bitsQ_any (d : Nat) (h1 : 1 ≤ d) (h2 : d ≤ 4294967295) (w : World) : Calls Tryd.prog 16 #[.int .i64 (d : Int)] w fun e w' => e = .returned (.int .i64 (bitsN (slotUpto d 64) : Int)) ∧ w = w' := by
  have Hh := Lib.hid (halves_slot d h1 h2)
  obtain ⟨x, hx⟩ : ∃ x : Nat, d - 1 = x := ⟨_, rfl⟩
  have hxd : (d : Int) - 1 = (x : Int) := by omega
  have hx2 : x ≤ 4294967294 := by omega
  rw [hx] at Hh
  obtain ⟨B, hB⟩ : ∃ B, bitsN (slotUpto d 64) = B := ⟨_, rfl⟩
  rw [hB] at Hh ⊢
  clear hB hx
  go_enter Tryd.func16, Tryd.ntmps16
  go_wp2_with fail
  go_loop [3, 4] (fun s3 s4 => ∃ (k y f : Nat), s3 = .int .i64 (k : Int) ∧ s4 = .int .i64 (y : Int) ∧ y ≤ 4294967294 ∧ k + f = 64 ∧ Hid (y < 4 * 2 ^ f) ∧ Hid (k + halves f y = B)) (fun _ s4 => (intOf s4).toNat)
  case atStart => exact ⟨0, x, 64, rfl, rfl, hx2, rfl, by show _ < _; omega, by show _ = _; rw [Nat.zero_add]; exact Hh.out⟩
  case round =>
    obtain ⟨k, y, f, rfl, rfl, hy, hkf, Hf, H⟩ := hrel
    by_cases h4 : y < 4
    · have hk : k = B := by
        have := H.out
        cases f with
        | zero => exact this
        | succ f => unfold halves at this; rw [if_pos h4] at this; omega
      subst hk
      have h4' : (y : Int) < 4 := by omega
      have h4n : ¬ (4 : Int) ≤ (y : Int) := by omega
      go_wp2_with fail
      go_ret
      exact ⟨rfl, rfl⟩
    · have h4' : (4 : Int) ≤ (y : Int) := by omega
      have hf : f ≠ 0 := by
        intro e
        have := Hf.out
        rw [e] at this
        omega
      have Hf2 : Hid (y / 2 < 4 * 2 ^ (f - 1)) := by
        have := Hf.out
        obtain ⟨g, rfl⟩ : ∃ g, f = g + 1 := ⟨f - 1, by omega⟩
        show _ < _
        rw [Nat.add_sub_cancel]
        rw [Nat.pow_succ] at this
        omega
      have Hn : Hid (k + 1 + halves (f - 1) (y / 2) = B) := by
        have := H.out
        obtain ⟨g, rfl⟩ : ∃ g, f = g + 1 := ⟨f - 1, by omega⟩
        unfold halves at this
        rw [if_neg h4] at this
        show _ = _
        rw [Nat.add_sub_cancel]
        omega
      obtain ⟨y2, hy2⟩ : ∃ y2, y / 2 = y2 := ⟨_, rfl⟩
      rw [hy2] at Hf2 Hn
      have hq : (y : Int) / 2 = (y2 : Int) := by omega
      have hlt2 : y2 < y := by omega
      clear H Hf hy2
      go_wp2_with fail
      go_round
      case rel => exact ⟨k + 1, y2, f - 1, by go_num, rfl, by omega, by omega, Hf2, Hn⟩
      case measure => simp [intOf]; omega
def prV (k l x : Int) : Int := if formedN k l x = 0 then (if k = 1 then 9 else if k = 4 then 4 else if k = 3 then 4 + x / 2 + lenP l else 8 + lenP l + (bitsN (slotUpto x.toNat 64) : Int)) else 0
theorem prV_bd (k l x : Int) : 0 ≤ prV k l x ∧ prV k l x ≤ 49 := by
  unfold prV
  have hl := lenP_bd l
  have hb : bitsN (slotUpto x.toNat 64) ≤ 31 := bits_fits
  split
  · rename_i h
    split
    · omega
    · split
      · omega
      · split
        · rename_i k3
          rcases formedN_zero h with h1 | h1 | h1 | h1
          · omega
          · omega
          · omega
          · have := h1.2.2; unfold repOk at this; omega
        · omega
  · omega
theorem start_formed (y : Sy) : nextE St.start y = formedN y.k y.l y.x := by unfold nextE; rw [if_pos start_right]
def PrPost (k l x : Int) (w : World) (e : Ending) (w' : World) : Prop := e = .returned (.tuple #[.int .i64 (prV k l x), .int .i64 (formedN k l x)]) ∧ Below w.heap.size w w'
set_option maxHeartbeats 4000000 in
theorem Price_any (k l x : Int) (z : UInt8) (w : World) (hl : Laid w) :
    Calls Tryd.prog 7 #[.agg #[.int .i64 k, .int .u8 (z.toNat : Int), .int .i64 l, .int .i64 x]] w (PrPost k l x w) := by
  have hn := Next_p St.start ⟨k, z, l, x⟩
  rw [start_formed] at hn
  simp only [] at hn
  obtain ⟨f, hf⟩ : ∃ f, formedN k l x = f := ⟨_, rfl⟩
  rw [hf] at hn
  have Hf := Lib.hid hf
  obtain ⟨t, ht⟩ : ∃ t, nextS St.start ⟨k, z, l, x⟩ = t := ⟨_, rfl⟩
  rw [ht] at hn
  clear hf ht
  obtain ⟨n', a', b', c', d'⟩ := t
  unfold St.v Sy.v Sy.cs at hn
  unfold St.start at hn
  simp only [] at hn
  obtain ⟨wb, hwb⟩ : ∃ wb, w.alloc (.cells #[.int .i64 k, .int .u8 (z.toNat : Int), .int .i64 l, .int .i64 x] 24) = wb := ⟨_, rfl⟩
  have hY : Blk wb w.heap.size 24 #[.int .i64 k, .int .u8 (z.toNat : Int), .int .i64 l, .int .i64 x] := by rw [← hwb]; exact Blk.new _ _ _
  have hB : Below w.heap.size w wb := by rw [← hwb]; exact (Below.refl _ _).alloc (Nat.le_refl _) _
  obtain ⟨Y, hYY⟩ : ∃ Y, w.heap.size = Y := ⟨_, rfl⟩
  rw [hYY] at hY
  have Hn := Lib.hid hn
  have HB := Lib.hid hB
  have HL := Lib.hid (hl.below hB)
  clear hn hB hl
  go_enter Tryd.func7, Tryd.ntmps7
  go_wp2_with fail
  clear hwb hYY
  have ylt := hY.lt
  go_cut [5] (fun s5 wx => s5 = .int .i64 f ∧ Hid (Below wb.heap.size wb wx))
  case first =>
    obtain ⟨y0, y1, y2, y3⟩ : wb.cell? ⟨Y, 0, none⟩ = some (.int .i64 k) ∧ wb.cell? ⟨Y, 1, none⟩ = some (.int .u8 (z.toNat : Int)) ∧ wb.cell? ⟨Y, 2, none⟩ = some (.int .i64 l) ∧ wb.cell? ⟨Y, 3, none⟩ = some (.int .i64 x) := hY.four
    have Hq : Hid (∀ w' : World, Below wb.heap.size wb w' → w'.cell? ⟨Y, 0, none⟩ = some (.int .i64 k) ∧ w'.cell? ⟨Y, 1, none⟩ = some (.int .u8 (z.toNat : Int)) ∧ w'.cell? ⟨Y, 2, none⟩ = some (.int .i64 l) ∧ w'.cell? ⟨Y, 3, none⟩ = some (.int .i64 x)) := fun w' hb => (hY.below hb).four
    clear hY
    have ny : ¬ Y = wb.heap.size := by omega
    go_region_held3 (fun w' => w'.cell? ⟨Y, 0, none⟩ = some (.int .i64 k) ∧ w'.cell? ⟨Y, 1, none⟩ = some (.int .u8 (z.toNat : Int)) ∧ w'.cell? ⟨Y, 2, none⟩ = some (.int .i64 l) ∧ w'.cell? ⟨Y, 3, none⟩ = some (.int .i64 x))
      (first | (with_reducible exact ⟨y0, y1, y2, y3⟩) | (with_reducible exact ⟨p0, p1, p2, p3⟩) | (with_reducible exact ⟨q0, q1, q2, q3⟩) | go_keep | (with_reducible exact ⟨(keep5 ny).trans q0, (keep5 ny).trans q1, (keep5 ny).trans q2, (keep5 ny).trans q3⟩) | (with_reducible exact ⟨(keep5 ny1).trans q0, (keep5 ny1).trans q1, (keep5 ny1).trans q2, (keep5 ny1).trans q3⟩))
      (first | (go_at_call 9; refine (New_any _).mono ?_; rintro en w1 ⟨rfl, hbel⟩; have hbw : Below wb.heap.size wb w1 := (by first | (with_reducible exact bd1 hbel) | (with_reducible exact bd2 hbel)); obtain ⟨p0, p1, p2, p3⟩ := Hq.out w1 hbw; have ny1 : ¬ Y = w1.heap.size := (by have := hbw.size; omega); (try (have hz : Blk w1 wb.heap.size 36 #[.int .i64 0, .int .i64 0, .int .i64 0, .int .i64 0, .int .i64 0] := by with_reducible exact (Blk.new wb 36 #[.int .i64 0, .int .i64 0, .int .i64 0, .int .i64 0, .int .i64 0]).drew.below hbel)); unfold stV stC) | (go_at_call 10; refine (Hn.out _ (HL.out.below (by first | (with_reducible exact hbw) | (with_reducible exact bmk hbw _)))).mono ?_; rintro en w2 ⟨rfl, hbel2⟩; have hbw2 : Below wb.heap.size wb w2 := (by first | (with_reducible exact bup hbw hbel2) | (with_reducible exact bup (bmk hbw _) hbel2)); obtain ⟨q0, q1, q2, q3⟩ := Hq.out w2 hbw2; (first | ((have hz2 : Blk w2 wb.heap.size 36 #[.int .i64 0, .int .i64 0, .int .i64 0, .int .i64 0, .int .i64 0] := by with_reducible exact hz.below hbel2); (obtain ⟨⟨z0, z1, z2, z3, z4⟩, ⟨f0, f1, f2, f3, f4⟩⟩ := st_five hz2)) | ((have hz2 : Blk w2 w1.heap.size 36 #[.int .i64 0, .int .i64 0, .int .i64 0, .int .i64 0, .int .i64 0] := by with_reducible exact (Blk.new w1 36 #[.int .i64 0, .int .i64 0, .int .i64 0, .int .i64 0, .int .i64 0]).below hbel2); (obtain ⟨⟨z0, z1, z2, z3, z4⟩, ⟨f0, f1, f2, f3, f4⟩⟩ := st_five hz2)) | skip)))
    all_goals go_wp2_with fail
    all_goals go_meet
    · exact ⟨rfl, bmk hbw2 _⟩
    · exact ⟨rfl, below5 hbw2 hbw.size _ _ _ _ _⟩
    · exact ⟨rfl, below5 hbw2 (Nat.le_refl _) _ _ _ _ _⟩
  case rest =>
    obtain ⟨rfl, hb⟩ := hcut
    obtain ⟨wa, rfl⟩ : ∃ wa : World, wa = wc := ⟨_, rfl⟩
    obtain ⟨y0, y1, y2, y3⟩ : wa.cell? ⟨Y, 0, none⟩ = some (.int .i64 k) ∧ wa.cell? ⟨Y, 1, none⟩ = some (.int .u8 (z.toNat : Int)) ∧ wa.cell? ⟨Y, 2, none⟩ = some (.int .i64 l) ∧ wa.cell? ⟨Y, 3, none⟩ = some (.int .i64 x) := (hY.below hb.out).four
    clear hY ylt HL Hn
    have HBa : Hid (Below w.heap.size w wa) := bup HB.out hb.out
    clear HB hb
    have hlb := lenP_bd l
    by_cases hf0 : f = 0
    · subst hf0
      have hz := formedN_zero Hf.out
      obtain ⟨u, hu⟩ : ∃ u, lenP l = u := ⟨_, rfl⟩
      have hlen := length_any l
      rw [hu] at hlb hlen
      have Hlen := Lib.hid hlen
      clear hlen
      rcases hz with k1 | k4 | ⟨k2, hL, hX⟩ | ⟨k3, hL, hX⟩
      · have Hr : Hid (prV k l x = 9) := by show _ = _; unfold prV; rw [if_pos Hf.out, if_pos k1]
        subst k1
        clear hu
        go_wp2_with fail
        go_ret2
        exact ⟨by rw [Hr.out, Hf.out]; rfl, HBa.out⟩
      · have Hr : Hid (prV k l x = 4) := by show _ = _; unfold prV; rw [if_pos Hf.out, if_neg (by omega), if_pos k4]
        subst k4
        clear hu
        go_wp2_with fail
        go_ret2
        exact ⟨by rw [Hr.out, Hf.out]; rfl, HBa.out⟩
      · have Hr : Hid (prV k l x = 8 + u + (bitsN (slotUpto x.toNat 64) : Int)) := by show _ = _; unfold prV; rw [if_pos Hf.out, if_neg (by omega), if_neg (by omega), if_neg (by omega), hu]
        subst k2
        clear hu
        unfold isD at hX
        obtain ⟨d, rfl⟩ : ∃ d : Nat, x = (d : Int) := ⟨x.toNat, by omega⟩
        rw [Int.toNat_natCast] at Hr
        obtain ⟨sl, hsl⟩ : ∃ sl, slotUpto d 64 = sl := ⟨_, rfl⟩
        have hsl64 : sl < 64 := by rw [← hsl]; exact slot_lt d 64 (by omega)
        have hB31 : bitsN sl ≤ 31 := by rw [← hsl]; exact bits_fits
        have hSl := Slot_yes d (by omega) (by omega)
        rw [hsl] at hSl Hr
        have HSl := Lib.hid hSl
        obtain ⟨B, hB⟩ : ∃ B, bitsN sl = B := ⟨_, rfl⟩
        have hRg := Range_yes sl hsl64
        rw [hB] at hRg Hr hB31
        have HRg := Lib.hid hRg
        clear hsl hSl hB hRg hL hX
        go_wp2_with fail
        refine (HSl.out _).mono ?_
        rintro e w' ⟨rfl, rfl⟩
        go_wp2_with fail
        refine (HRg.out _).mono ?_
        rintro e w' ⟨rfl, rfl⟩
        go_wp2_with fail
        refine (Hlen.out _).mono ?_
        rintro e w' ⟨rfl, rfl⟩
        go_wp2_with fail
        go_ret2
        exact ⟨by rw [Hr.out, Hf.out]; rfl, HBa.out⟩
      · have Hr : Hid (prV k l x = 4 + x / 2 + u) := by show _ = _; unfold prV; rw [if_pos Hf.out, if_neg (by omega), if_neg (by omega), if_pos k3, hu]
        subst k3
        clear hu
        have hx4 : x = 0 ∨ x = 1 ∨ x = 2 ∨ x = 3 := by unfold repOk at hX; omega
        have w4 : IntKind.i64.wrap (4 + u) = 4 + u := IntWalk.i64_in _ (by omega)
        have w5 : IntKind.i64.wrap (5 + u) = 5 + u := IntWalk.i64_in _ (by omega)
        clear hX hL
        rcases hx4 with rfl | rfl | rfl | rfl
        all_goals
          go_wp2_with fail
          go_quiet ((go_at_call 11; exact Calls.quiet_of_same ((Hlen.out _).mono fun _ _ h => ⟨h.1, h.2.symm⟩)))
          go_wp2_with fail
          go_ret2
          exact ⟨by rw [Hr.out, Hf.out]; rfl, below_drewN HBa.out _⟩
    · have hf1 : (f == 0) = false := beq_eq_false_iff_ne.2 hf0
      have hf2 : (f != 0) = true := bne_iff_ne.2 hf0
      have Hr : Hid (prV k l x = 0) := by show _ = _; unfold prV; rw [if_neg (by rw [Hf.out]; exact hf0)]
      clear hf0
      go_wp2_with fail
      go_ret2
      exact ⟨by rw [Hr.out, Hf.out]; rfl, HBa.out⟩
set_option maxHeartbeats 4000000 in
theorem PriceR_any (k l x : Int) (z : UInt8) (w : World) :
    Calls Tryd.prog 8 #[.agg #[.int .i64 k, .int .u8 (z.toNat : Int), .int .i64 l, .int .i64 x]] w (PrPost k l x w) := by
  have hn := Formed_any k (z.toNat : Int) l x
  obtain ⟨f, hf⟩ : ∃ f, formedN k l x = f := ⟨_, rfl⟩
  rw [hf] at hn
  have Hf := Lib.hid hf
  unfold yV at hn
  have Hn := Lib.hid hn
  clear hf hn
  go_enter Tryd.func8, Tryd.ntmps8
  go_wp2_with fail
  refine (Hn.out _).mono ?_
  rintro e wa ⟨rfl, hb⟩
  have HBa : Hid (Below w.heap.size w wa) := ((Below.refl _ w).alloc (Nat.le_refl _) _).trans (hb.mono (by simp))
  obtain ⟨y0, y1, y2, y3⟩ := ((Blk.new w 24 #[.int .i64 k, .int .u8 (z.toNat : Int), .int .i64 l, .int .i64 x]).below hb).four
  clear hb Hn
  have hlb := lenP_bd l
  by_cases hf0 : f = 0
  · subst hf0
    have hz := formedN_zero Hf.out
    obtain ⟨u, hu⟩ : ∃ u, lenP l = u := ⟨_, rfl⟩
    have hlen := long_any l
    rw [hu] at hlb hlen
    have Hlen := Lib.hid hlen
    clear hlen
    rcases hz with k1 | k4 | ⟨k2, hL, hX⟩ | ⟨k3, hL, hX⟩
    · have Hr : Hid (prV k l x = 9) := by show _ = _; unfold prV; rw [if_pos Hf.out, if_pos k1]
      subst k1
      clear hu
      go_wp2_with fail
      go_ret2
      exact ⟨by rw [Hr.out, Hf.out]; rfl, HBa.out⟩
    · have Hr : Hid (prV k l x = 4) := by show _ = _; unfold prV; rw [if_pos Hf.out, if_neg (by omega), if_pos k4]
      subst k4
      clear hu
      go_wp2_with fail
      go_ret2
      exact ⟨by rw [Hr.out, Hf.out]; rfl, HBa.out⟩
    · have Hr : Hid (prV k l x = 8 + u + (bitsN (slotUpto x.toNat 64) : Int)) := by show _ = _; unfold prV; rw [if_pos Hf.out, if_neg (by omega), if_neg (by omega), if_neg (by omega), hu]
      subst k2
      clear hu
      unfold isD at hX
      obtain ⟨d, rfl⟩ : ∃ d : Nat, x = (d : Int) := ⟨x.toNat, by omega⟩
      rw [Int.toNat_natCast] at Hr
      have hB31 : bitsN (slotUpto d 64) ≤ 31 := bits_fits
      have hq := bitsQ_any d (by omega) (by omega)
      obtain ⟨B, hB⟩ : ∃ B, bitsN (slotUpto d 64) = B := ⟨_, rfl⟩
      rw [hB] at hq Hr hB31
      have Hq := Lib.hid hq
      have w8 : IntKind.i64.wrap (8 + u) = 8 + u := IntWalk.i64_in _ (by omega)
      have w9 : IntKind.i64.wrap (8 + u + (B : Int)) = 8 + u + (B : Int) := IntWalk.i64_in _ (by omega)
      clear hB hq hL hX
      go_wp2_with fail
      go_quiet (first | (go_at_call 15; exact Calls.quiet_of_same ((Hlen.out _).mono fun _ _ h => ⟨h.1, h.2.symm⟩)) | (go_at_call 16; exact Calls.quiet_of_same ((Hq.out _).mono fun _ _ h => ⟨h.1, h.2.symm⟩)))
      go_wp2_with fail
      go_ret2
      exact ⟨by rw [Hr.out, Hf.out]; rfl, below_drewN HBa.out _⟩
    · have Hr : Hid (prV k l x = 4 + x / 2 + u) := by show _ = _; unfold prV; rw [if_pos Hf.out, if_neg (by omega), if_neg (by omega), if_pos k3, hu]
      subst k3
      clear hu
      have hx4 : x = 0 ∨ x = 1 ∨ x = 2 ∨ x = 3 := by unfold repOk at hX; omega
      clear hX hL
      rcases hx4 with rfl | rfl | rfl | rfl
      all_goals
        go_wp2_with fail
        refine (Hlen.out _).mono ?_
        rintro e w' ⟨rfl, rfl⟩
        go_wp2_with fail
        go_ret2
        exact ⟨by rw [Hr.out, Hf.out]; rfl, HBa.out⟩
  · have hf1 : (f == 0) = false := beq_eq_false_iff_ne.2 hf0
    have hf2 : (f != 0) = true := bne_iff_ne.2 hf0
    have Hr : Hid (prV k l x = 0) := by show _ = _; unfold prV; rw [if_neg (by rw [Hf.out]; exact hf0)]
    clear hf0
    go_wp2_with fail
    go_ret2
    exact ⟨by rw [Hr.out, Hf.out]; rfl, HBa.out⟩
end Go.Proofs.YthfmomhcalppfaaDoor
