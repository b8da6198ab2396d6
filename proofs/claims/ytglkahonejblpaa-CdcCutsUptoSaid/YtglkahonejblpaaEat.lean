/-
  Walk of eat: how many bytes it takes, whether the piece has ended, and the roll behind it. Conditions: the roll and the bytes lie in memory, apart; legal cuts.
-/
import Derived.Test.YtglkahonejblpaaGear
namespace Go.Proofs.Ytglkahonejblpaa
open Go.RowKit

def roll1 (sum : Int) (z : UInt8) : Int := IntKind.u64.wrap (IntKind.u64.wrap (sum * 2) + gearI z)
/-- a piece may end here -/
def here (least most bits sum : Int) (n : Nat) : Prop := least ≤ (n : Int) ∧ ((n : Int) = most ∨ sum / 2 ^ (64 - bits).toNat = 0)
instance (least most bits sum : Int) (n : Nat) : Decidable (here least most bits sum n) := by unfold here; exact inferInstance
def eatGo (least most bits : Int) (i : Nat) (sum : Int) (n : Nat) : List UInt8 → Nat × Bool × Int × Nat
  | [] => (i, false, sum, n)
  | z :: r => if here least most bits (roll1 sum z) (n + 1) then (i + 1, true, 0, 0) else eatGo least most bits (i + 1) (roll1 sum z) (n + 1) r
def rollC (least most bits sum : Int) (n : Nat) : Array Value := #[.int .i64 least, .int .i64 most, .int .i64 bits, .int .u64 sum, .int .i64 (n : Int)]
set_option maxHeartbeats 4000000 in
set_option maxRecDepth 100000 in
theorem eat_any (least most bits sum : Int) (n0 : Nat) (S : Nat) (A : Option Addr) (m c : Nat) (l : List UInt8) (w : World) (h : Blk w S 69 (rollC least most bits sum n0)) (hI : In w A m l) (hS : 0 < m → ∀ ad, A = some ad → ad.block ≠ S) (hok : CutsOk least most bits) (hn : n0 ≤ 1099511627776) :
    Calls Try.prog 30 #[.pointer (some ⟨S, 0, none⟩), .slice A m c] w fun e w' => e = .returned (.tuple #[.int .i64 ((eatGo least most bits 0 sum n0 l).1 : Int), .bool (eatGo least most bits 0 sum n0 l).2.1]) ∧
      Blk w' S 69 (rollC least most bits (eatGo least most bits 0 sum n0 l).2.2.1 (eatGo least most bits 0 sum n0 l).2.2.2) ∧ Fr (fun k => k = S) w w' := by
  have HI := Lib.hid hI
  have Hlen := Lib.hid hI.len
  have hm := hI.2.2
  obtain ⟨r, hr⟩ : ∃ r, eatGo least most bits 0 sum n0 l = r := ⟨_, rfl⟩
  have H : Hid (Blk w S 69 (rollC least most bits sum n0) ∧ Fr (fun k => k = S) w w ∧ eatGo least most bits 0 sum n0 (l.drop 0) = r) := ⟨h, Fr.refl _ _, hr⟩
  rw [hr]
  clear h hI hr
  obtain ⟨k1, k2, k3, k4, k5⟩ := hok
  go_enter Try.func30, Try.ntmps30
  go_wp2_with fail
  go_loopw [10] (fun s10 wr => ∃ (i : Nat) (sum : Int) (n : Nat), s10 = .int .i64 (i : Int) ∧ i ≤ m ∧ n ≤ n0 + i ∧ Hid (Blk wr S 69 (rollC least most bits sum n) ∧ Fr (fun k => k = S) w wr ∧ eatGo least most bits i sum n (l.drop i) = r)) (fun s10 _ => m - (intOf s10).toNat)
  case atStart => exact ⟨0, sum, n0, rfl, Nat.zero_le _, by omega, H⟩
  case round =>
    clear H
    obtain ⟨i, sum, n, rfl, hi, hni, H⟩ := hrel
    by_cases hlt : i < m
    · have hlt' : (i : Int) < (m : Int) := by omega
      obtain ⟨z, hz⟩ : ∃ z, l[i]? = some z := ⟨_, List.getElem?_eq_getElem (by have := Hlen.out; omega)⟩
      have hIr : In wr A m l := HI.out.fr H.out.2.1 (fun h0 ad had e => hS h0 ad had e)
      obtain ⟨ab, ao, rfl, hco⟩ := hIr.1.cells_at (by omega)
      have b0 := hco i z hz
      have habn : ab ≠ S := hS (by omega) _ rfl
      have hablt : ab < wr.heap.size := hIr.2.1 (by omega) _ rfl
      have hst : eatGo least most bits i sum n (l.drop i) = if here least most bits (roll1 sum z) (n + 1) then (i + 1, true, 0, 0) else eatGo least most bits (i + 1) (roll1 sum z) (n + 1) (l.drop (i + 1)) := by
        rw [List.drop_eq_getElem_cons (by have := Hlen.out; omega)]
        have : l[i]'(by have := Hlen.out; omega) = z := (List.getElem?_eq_some_iff.1 hz).2
        rw [this]
        rfl
      have Hst := Lib.hid hst
      obtain ⟨c0, c1, c2, c3, c4⟩ := H.out.1.five
      have f3 := H.out.1.frozen 3
      have f4 := H.out.1.frozen 4
      have hsl := H.out.1.lt
      clear hco hIr hst hz
      go_upto_region 4 with (fail)
      obtain ⟨sz, hsz⟩ : ∃ sz, roll1 sum z = sz := ⟨_, rfl⟩
      have hsz' : IntKind.u64.wrap (IntKind.u64.wrap (sum * 2) + gearI z) = sz := hsz
      rw [hsz] at Hst
      go_cut [10] (fun s10 wy => s10 = .int .i64 (i : Int) ∧ Hid (Blk wy S 69 (rollC least most bits sz n) ∧ Fr (fun k => k = S) w wy))
      case first =>
        go_region_with (go_at_call 26; refine (Gear_any z _).mono ?_; rintro en w1 ⟨rfl, rfl⟩)
        all_goals go_wp2_with fail
        all_goals go_meet
        all_goals exact ⟨rfl, by rw [← hsz']; first | exact (H.out.1.set_ 3 _).drew | exact H.out.1.set_ 3 _, (H.out.2.1.setCell (p := ⟨S, 3, none⟩) (.inl rfl) _).drew⟩
      case rest =>
        obtain ⟨rfl, HB1⟩ := hcut
        obtain ⟨w1, rfl⟩ : ∃ w1 : World, w1 = wc := ⟨_, rfl⟩
        have HE : Hid (eatGo least most bits i sum n (l.drop i) = r) := H.out.2.2
        clear c0 c1 c2 c3 c4 f3 f4 hsl b0 hablt H hsz hsz'
        obtain ⟨c0, c1, c2, c3, c4⟩ := HB1.out.1.five
        have f4 := HB1.out.1.frozen 4
        go_upto_region 6 with (fail)
        have HB2 : Hid (Blk (w1.setCell ⟨S, 4, none⟩ (.int .i64 ((n : Int) + 1))) S 69 (rollC least most bits sz (n + 1)) ∧ Fr (fun k => k = S) w (w1.setCell ⟨S, 4, none⟩ (.int .i64 ((n : Int) + 1)))) := ⟨HB1.out.1.set_ 4 _, HB1.out.2.setCell (p := ⟨S, 4, none⟩) (.inl rfl) _⟩
        obtain ⟨w2, hw2⟩ : ∃ w2, w1.setCell ⟨S, 4, none⟩ (.int .i64 ((n : Int) + 1)) = w2 := ⟨_, rfl⟩
        rw [hw2] at HB2 ⊢
        clear hw2 c0 c1 c2 c3 c4 f4
        obtain ⟨c0, c1, c2, c3, c4⟩ := HB2.out.1.five
        have f3 := HB2.out.1.frozen 3
        have f4 := HB2.out.1.frozen 4
        have hcast : (((n + 1 : Nat)) : Int) = (n : Int) + 1 := by omega
        rw [hcast] at c4
        by_cases hL : least ≤ (n : Int) + 1
        · by_cases hM : (n : Int) + 1 = most
          · have hM' : ((n : Int) + 1 == most) = true := beq_iff_eq.2 hM
            have hh : here least most bits sz (n + 1) := ⟨by omega, .inl (by omega)⟩
            have hre : r = (i + 1, true, 0, 0) := by
              have e1 := HE.out
              rw [Hst.out, if_pos hh] at e1
              exact e1.symm
            subst hre
            clear HE Hst hh hM
            go_quiet (fail)
            go_wp2_with fail
            go_ret2
            exact ⟨rfl, ((HB2.out.1.same (w' := w2.drewN nq) rfl).set_ 3 _).set_ 4 _, ((HB2.out.2.drewN nq).setCell (p := ⟨S, 3, none⟩) (.inl rfl) _).setCell (p := ⟨S, 4, none⟩) (.inl rfl) _⟩
          · have hM' : ((n : Int) + 1 == most) = false := beq_eq_false_iff_ne.2 hM
            by_cases hz0 : sz / 2 ^ (64 - bits).toNat = 0
            · have hz1 : (sz / 2 ^ (64 - bits).toNat == 0) = true := beq_iff_eq.2 hz0
              have hh : here least most bits sz (n + 1) := ⟨by omega, .inr hz0⟩
              have hre : r = (i + 1, true, 0, 0) := by
                have e1 := HE.out
                rw [Hst.out, if_pos hh] at e1
                exact e1.symm
              subst hre
              clear HE Hst hh hz0 hM
              go_quiet (fail)
              go_wp2_with fail
              go_ret2
              exact ⟨rfl, ((HB2.out.1.same (w' := w2.drewN nq) rfl).set_ 3 _).set_ 4 _, ((HB2.out.2.drewN nq).setCell (p := ⟨S, 3, none⟩) (.inl rfl) _).setCell (p := ⟨S, 4, none⟩) (.inl rfl) _⟩
            · have hz1 : (sz / 2 ^ (64 - bits).toNat == 0) = false := beq_eq_false_iff_ne.2 hz0
              have hh : ¬ here least most bits sz (n + 1) := fun h => by rcases h.2 with h | h; (exact hM (by omega)); exact hz0 h
              have HE2 : Hid (eatGo least most bits (i + 1) sz (n + 1) (l.drop (i + 1)) = r) := by
                have e1 := HE.out
                rw [Hst.out, if_neg hh] at e1
                exact e1
              clear HE Hst hh hz0 hM
              go_quiet (fail)
              have HB3 : Hid (Blk (w2.drewN nq) S 69 (rollC least most bits sz (n + 1)) ∧ Fr (fun k => k = S) w (w2.drewN nq)) := ⟨HB2.out.1.same rfl, HB2.out.2.drewN nq⟩
              go_wp2_with fail
              go_roundw
              case rel => exact ⟨i + 1, sz, n + 1, by go_num, by omega, by omega, HB3.out.1, HB3.out.2, HE2.out⟩
              case measure => simp [intOf]; omega
        · have hL' : decide (least ≤ (n : Int) + 1) = false := decide_eq_false hL
          have hh : ¬ here least most bits sz (n + 1) := fun h => hL (by have := h.1; omega)
          have HE2 : Hid (eatGo least most bits (i + 1) sz (n + 1) (l.drop (i + 1)) = r) := by
            have e1 := HE.out
            rw [Hst.out, if_neg hh] at e1
            exact e1
          clear HE Hst hh hL
          go_quiet (fail)
          have HB3 : Hid (Blk (w2.drewN nq) S 69 (rollC least most bits sz (n + 1)) ∧ Fr (fun k => k = S) w (w2.drewN nq)) := ⟨HB2.out.1.same rfl, HB2.out.2.drewN nq⟩
          go_wp2_with fail
          go_roundw
          case rel => exact ⟨i + 1, sz, n + 1, by go_num, by omega, by omega, HB3.out.1, HB3.out.2, HE2.out⟩
          case measure => simp [intOf]; omega
    · obtain rfl : i = m := by omega
      have hre : r = (i, false, sum, n) := by
        have e1 := H.out.2.2
        rw [List.drop_of_length_le (by have := Hlen.out; omega)] at e1
        exact e1.symm
      subst hre
      go_wp2_with fail
      go_ret2
      exact ⟨rfl, H.out.1, H.out.2.1⟩
end Go.Proofs.Ytglkahonejblpaa
