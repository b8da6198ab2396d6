/-
  The byte of properties: PropsByte and ByteProps, the program's and the document's: both answer by the same plain numbers. No condition beyond each theorem's own.
-/
import Derived.Test.YtchoiedgnmhjeaaDoorMem
import Derived.Test.YtchoiedgnmhjeaaDoorChecked
import Derived.WalkKit
import Derived.WalkSpells
import Derived.WalkLawsBesides
import Derived.Lib.Strings
import Derived.Lib.Slices
import Derived.Lib.Small
import Derived.Lib.Walk
import Derived.Lib.BitFns
import Derived.Lib.Hide
import Derived.Deep.Light
namespace Go.Proofs.YtchoiedgnmhjeaaDoor
open Go.RowKit

def okP (lc lp pb : Int) : Prop := 0 ≤ lc ∧ 0 ≤ lp ∧ 0 ≤ pb ∧ pb ≤ 4 ∧ lc ≤ 4 ∧ lp ≤ 4 - lc
instance (lc lp pb : Int) : Decidable (okP lc lp pb) := by unfold okP; infer_instance
def byteOf (lc lp pb : Int) : Int := (pb * 5 + lp) * 9 + lc
theorem PropsByte_yes (lc lp pb : Int) (h : okP lc lp pb) (w : World) : Calls Tryd.prog 22 #[.agg #[.int .i64 lc, .int .i64 lp, .int .i64 pb]] w fun e w' => e = .returned (.tuple #[.int .i64 (byteOf lc lp pb), .int .i64 0]) ∧ Below w.heap.size w w' := by
  obtain ⟨h1, h2, h3, h4, h5, h6⟩ := h
  have a1 : ¬ lc < 0 := by omega
  have a2 : ¬ lp < 0 := by omega
  have a3 : ¬ pb < 0 := by omega
  have a4 : ¬ (4 < pb) := by omega
  have a5 : ¬ (4 < lc) := by omega
  have a6 : ¬ (4 - lc < lp) := by omega
  go_enter Tryd.func22, Tryd.ntmps22
  go_wp2
  go_ret2
  exact ⟨rfl, (Below.refl _ _).alloc (Nat.le_refl _) _⟩
theorem PropsByte_no (lc lp pb : Int) (h : ¬ okP lc lp pb) (w : World) : Calls Tryd.prog 22 #[.agg #[.int .i64 lc, .int .i64 lp, .int .i64 pb]] w fun e w' => e = .returned (.tuple #[.int .i64 0, .int .i64 6]) ∧ Below w.heap.size w w' := by
  have : lc < 0 ∨ (¬ lc < 0 ∧ lp < 0) ∨ (¬ lc < 0 ∧ ¬ lp < 0 ∧ pb < 0) ∨ (¬ lc < 0 ∧ ¬ lp < 0 ∧ ¬ pb < 0 ∧ 4 < pb) ∨ (¬ lc < 0 ∧ ¬ lp < 0 ∧ ¬ pb < 0 ∧ ¬ 4 < pb ∧ 4 < lc) ∨ (¬ lc < 0 ∧ ¬ lp < 0 ∧ ¬ pb < 0 ∧ ¬ 4 < pb ∧ ¬ 4 < lc ∧ 4 - lc < lp) := by
    unfold okP at h; omega
  clear h
  rcases this with h1 | ⟨h1, h2⟩ | ⟨h1, h2, h3⟩ | ⟨h1, h2, h3, h4⟩ | ⟨h1, h2, h3, h4, h5⟩ | ⟨h1, h2, h3, h4, h5, h6⟩
  all_goals
    go_enter Tryd.func22, Tryd.ntmps22
    go_wp2
    go_ret2
    exact ⟨rfl, (Below.refl _ _).alloc (Nat.le_refl _) _⟩
theorem Allowed_yes (lc lp pb : Int) (h : okP lc lp pb) (w : World) : Calls Tryd.prog 34 #[.agg #[.int .i64 lc, .int .i64 lp, .int .i64 pb]] w fun e w' => e = .returned (.bool true) ∧ Below w.heap.size w w' := by
  obtain ⟨h1, h2, h3, h4, h5, h6⟩ := h
  have h7 : lc + lp ≤ 4 := by omega
  have h8 : lp ≤ 4 := by omega
  go_enter Tryd.func34, Tryd.ntmps34
  go_wp2
  go_ret
  exact ⟨rfl, (Below.refl _ _).alloc (Nat.le_refl _) _⟩
theorem Allowed_no (lc lp pb : Int) (h : ¬ okP lc lp pb) (w : World) : Calls Tryd.prog 34 #[.agg #[.int .i64 lc, .int .i64 lp, .int .i64 pb]] w fun e w' => e = .returned (.bool false) ∧ Below w.heap.size w w' := by
  have : ¬ 0 ≤ lc ∨ (0 ≤ lc ∧ ¬ 0 ≤ lp) ∨ (0 ≤ lc ∧ 0 ≤ lp ∧ ¬ 0 ≤ pb) ∨ (0 ≤ lc ∧ 0 ≤ lp ∧ 0 ≤ pb ∧ ¬ lc ≤ 4) ∨ (0 ≤ lc ∧ 0 ≤ lp ∧ 0 ≤ pb ∧ lc ≤ 4 ∧ ¬ lp ≤ 4) ∨ (0 ≤ lc ∧ 0 ≤ lp ∧ 0 ≤ pb ∧ lc ≤ 4 ∧ lp ≤ 4 ∧ ¬ lc + lp ≤ 4) ∨ (0 ≤ lc ∧ 0 ≤ lp ∧ 0 ≤ pb ∧ lc ≤ 4 ∧ lp ≤ 4 ∧ lc + lp ≤ 4 ∧ ¬ pb ≤ 4) := by
    unfold okP at h; omega
  clear h
  rcases this with h1 | ⟨h1, h2⟩ | ⟨h1, h2, h3⟩ | ⟨h1, h2, h3, h4⟩ | ⟨h1, h2, h3, h4, h5⟩ | ⟨h1, h2, h3, h4, h5, h6⟩ | ⟨h1, h2, h3, h4, h5, h6, h7⟩
  all_goals
    go_enter Tryd.func34, Tryd.ntmps34
    go_wp2
    go_ret
    exact ⟨rfl, (Below.refl _ _).alloc (Nat.le_refl _) _⟩
theorem PropsByteR_yes (lc lp pb : Int) (h : okP lc lp pb) (w : World) : Calls Tryd.prog 23 #[.agg #[.int .i64 lc, .int .i64 lp, .int .i64 pb]] w fun e w' => e = .returned (.tuple #[.int .i64 (byteOf lc lp pb), .int .i64 0]) ∧ Below w.heap.size w w' := by
  have hb : byteOf lc lp pb = (5 * pb + lp) * 9 + lc := by unfold byteOf; omega
  have h' := h
  obtain ⟨h1, h2, h3, h4, h5, h6⟩ := h'
  rw [hb]
  clear hb
  have hc := Allowed_yes lc lp pb h (w.alloc (.cells #[.int .i64 lc, .int .i64 lp, .int .i64 pb] 52))
  go_enter Tryd.func23, Tryd.ntmps23
  go_wp2_with (go_at_call 34; refine hc.mono ?_; rintro e w1 ⟨rfl, hb1⟩; have hk := (Blk.new w 52 #[.int .i64 lc, .int .i64 lp, .int .i64 pb]).same (hb1.block _ (by simp)); have c0 := hk.cell 0; have c1 := hk.cell 1; have c2 := hk.cell 2; simp at c0 c1 c2)
  go_ret2
  exact ⟨rfl, ((Below.refl _ _).alloc (Nat.le_refl _) _).trans (hb1.mono (by simp))⟩
theorem PropsByteR_no (lc lp pb : Int) (h : ¬ okP lc lp pb) (w : World) : Calls Tryd.prog 23 #[.agg #[.int .i64 lc, .int .i64 lp, .int .i64 pb]] w fun e w' => e = .returned (.tuple #[.int .i64 0, .int .i64 6]) ∧ Below w.heap.size w w' := by
  have hc := Allowed_no lc lp pb h (w.alloc (.cells #[.int .i64 lc, .int .i64 lp, .int .i64 pb] 52))
  go_enter Tryd.func23, Tryd.ntmps23
  go_wp2_with (go_at_call 34; refine hc.mono ?_; rintro e w1 ⟨rfl, hb1⟩)
  go_ret2
  exact ⟨rfl, ((Below.refl _ _).alloc (Nat.le_refl _) _).trans (hb1.mono (by simp))⟩
def P3 (a b c : Int) : Value := .agg #[.int .i64 a, .int .i64 b, .int .i64 c]
def okN (b : Nat) : Prop := b / 45 ≤ 4 ∧ b % 9 ≤ 4 ∧ b / 9 % 5 + b % 9 ≤ 4
instance (b : Nat) : Decidable (okN b) := by unfold okN; infer_instance
theorem okP_of {b : Nat} : okP ((b : Int) % 9) ((b : Int) / 9 % 5) ((b : Int) / 45) ↔ okN b := by unfold okP okN; omega
theorem ByteProps_out (b : Int) (h : ¬ (0 ≤ b ∧ b ≤ 255)) (w : World) : Calls Tryd.prog 24 #[.int .i64 b] w fun e w' => e = .returned (.tuple #[P3 0 0 0, .int .i64 7]) ∧ Below w.heap.size w w' := by
  have : b < 0 ∨ (¬ b < 0 ∧ 255 < b) := by omega
  rcases this with h1 | ⟨h1, h2⟩
  all_goals
    go_enter Tryd.func24, Tryd.ntmps24
    go_wp2
    exact bodyPost_ret (v := .tuple #[P3 0 0 0, .int .i64 7]) (by simp [results, Tryd.results24, go_sem, P3]) rfl ⟨rfl, (Below.refl _ _).alloc (Nat.le_refl _) _⟩
theorem below_set {B : Nat} {a w : World} (h : Below B a w) {p : Addr} (hp : B ≤ p.block) (u : Value) : Below B a (w.setCell p u) := h.setCell hp u
theorem ByteProps_ok (b : Nat) (h : b ≤ 255) (hok : okN b) (w : World) : Calls Tryd.prog 24 #[.int .i64 (b : Int)] w fun e w' => e = .returned (.tuple #[P3 ((b : Int) % 9) ((b : Int) / 9 % 5) ((b : Int) / 45), .int .i64 0]) ∧ Below w.heap.size w w' := by
  have a1 : ¬ (b : Int) < 0 := by omega
  have a2 : ¬ (255 : Int) < b := by omega
  have hc := PropsByte_yes _ _ _ (okP_of.2 hok) ((w.alloc (.cells #[.int .i64 0, .int .i64 0, .int .i64 0] 52)).alloc (.cells #[.int .i64 ((b : Int) % 9), .int .i64 ((b : Int) / 9 % 5), .int .i64 ((b : Int) / 45)] 52))
  go_enter Tryd.func24, Tryd.ntmps24
  go_wp2_with (go_at_call 22; refine hc.mono ?_; rintro e w1 ⟨rfl, hb1⟩; have hk := (Blk.new (w.alloc (.cells #[.int .i64 0, .int .i64 0, .int .i64 0] 52)) 52 #[.int .i64 ((b : Int) % 9), .int .i64 ((b : Int) / 9 % 5), .int .i64 ((b : Int) / 45)]).same (hb1.block _ (by simp)); have hr := ((Blk.new w 52 #[.int .i64 0, .int .i64 0, .int .i64 0]).alloc (.cells #[.int .i64 ((b : Int) % 9), .int .i64 ((b : Int) / 9 % 5), .int .i64 ((b : Int) / 45)] 52)).same (hb1.block _ (by simp <;> omega)); have c0 := hk.cell 0; have c1 := hk.cell 1; have c2 := hk.cell 2; have r0 := hr.cell 0; have r1 := hr.cell 1; have r2 := hr.cell 2; have f0 := hr.frozen 0; have f1 := hr.frozen 1; have f2 := hr.frozen 2; simp at c0 c1 c2 r0 r1 r2)
  have hB : Below w.heap.size w w1 := (((Below.refl _ _).alloc (Nat.le_refl _) _).alloc (by simp) _).trans (hb1.mono (by simp; omega))
  exact bodyPost_ret (v := .tuple #[P3 ((b : Int) % 9) ((b : Int) / 9 % 5) ((b : Int) / 45), .int .i64 0]) (by simp [results, Tryd.results24, go_sem, P3, *]) rfl ⟨rfl, ((hB.setCell (Nat.le_refl _) _).setCell (Nat.le_refl _) _).setCell (Nat.le_refl _) _⟩
theorem ByteProps_bad (b : Nat) (h : b ≤ 255) (hok : ¬ okN b) (w : World) : Calls Tryd.prog 24 #[.int .i64 (b : Int)] w fun e w' => e = .returned (.tuple #[P3 0 0 0, .int .i64 2]) ∧ Below w.heap.size w w' := by
  have a1 : ¬ (b : Int) < 0 := by omega
  have a2 : ¬ (255 : Int) < b := by omega
  have hc := PropsByte_no _ _ _ (fun hh => hok (okP_of.1 hh)) ((w.alloc (.cells #[.int .i64 0, .int .i64 0, .int .i64 0] 52)).alloc (.cells #[.int .i64 ((b : Int) % 9), .int .i64 ((b : Int) / 9 % 5), .int .i64 ((b : Int) / 45)] 52))
  go_enter Tryd.func24, Tryd.ntmps24
  go_wp2_with (go_at_call 22; refine hc.mono ?_; rintro e w1 ⟨rfl, hb1⟩; have hr := ((Blk.new w 52 #[.int .i64 0, .int .i64 0, .int .i64 0]).alloc (.cells #[.int .i64 ((b : Int) % 9), .int .i64 ((b : Int) / 9 % 5), .int .i64 ((b : Int) / 45)] 52)).same (hb1.block _ (by simp <;> omega)); have r0 := hr.cell 0; have r1 := hr.cell 1; have r2 := hr.cell 2; have f0 := hr.frozen 0; have f1 := hr.frozen 1; have f2 := hr.frozen 2; simp at r0 r1 r2)
  have hB : Below w.heap.size w w1 := (((Below.refl _ _).alloc (Nat.le_refl _) _).alloc (by simp) _).trans (hb1.mono (by simp; omega))
  exact bodyPost_ret (v := .tuple #[P3 0 0 0, .int .i64 2]) (by simp [results, Tryd.results24, go_sem, P3, *]) rfl ⟨rfl, by first | exact hB | exact ((hB.setCell (Nat.le_refl _) _).setCell (Nat.le_refl _) _).setCell (Nat.le_refl _) _⟩
theorem BytePropsR_out (b : Int) (h : ¬ (0 ≤ b ∧ b ≤ 255)) (w : World) : Calls Tryd.prog 25 #[.int .i64 b] w fun e w' => e = .returned (.tuple #[P3 0 0 0, .int .i64 7]) ∧ Below w.heap.size w w' := by
  have : b < 0 ∨ (¬ b < 0 ∧ 255 < b) := by omega
  rcases this with h1 | ⟨h1, h2⟩
  all_goals
    go_enter Tryd.func25, Tryd.ntmps25
    go_wp2
    exact bodyPost_ret (v := .tuple #[P3 0 0 0, .int .i64 7]) (by simp [results, Tryd.results25, go_sem, P3]) rfl ⟨rfl, (Below.refl _ _).alloc (Nat.le_refl _) _⟩
def BPost (b : Nat) (w : World) (e : Ending) (w' : World) : Prop :=
  e = .returned (.tuple (if okN b then #[P3 ((b : Int) % 9) ((b : Int) / 9 % 5) ((b : Int) / 45), .int .i64 0] else #[P3 0 0 0, .int .i64 2])) ∧ Below w.heap.size w w'
def InB (w : World) (wr : World) : Prop := Blk wr w.heap.size 52 #[.int .i64 0, .int .i64 0, .int .i64 0] ∧ Below w.heap.size w wr
theorem BytePropsR_in (b : Nat) (h : b ≤ 255) (w : World) : Calls Tryd.prog 25 #[.int .i64 (b : Int)] w (BPost b w) := by
  have a1 : ¬ (b : Int) < 0 := by omega
  have a2 : ¬ (255 : Int) < b := by omega
  go_enter Tryd.func25, Tryd.ntmps25
  go_wp2_with fail
  go_loopw [4] (fun s4 wr => ∃ p : Nat, s4 = .int .i64 (p : Int) ∧ p ≤ 5 ∧ InB w wr ∧ Hid (okN b → p ≤ b / 45)) (fun s4 _ => 5 - (intOf s4).toNat)
  case atStart => exact ⟨0, rfl, by omega, ⟨Blk.new _ _ _, (Below.refl _ _).alloc (Nat.le_refl _) _⟩, fun _ => Nat.zero_le _⟩
  case round =>
    obtain ⟨p, rfl, hp, hin, hok⟩ := hrel
    by_cases hp4 : p ≤ 4
    · have hp' : (p : Int) ≤ 4 := by omega
      go_wp2_with fail
      go_loopw [5] (fun s5 wr => ∃ q : Nat, s5 = .int .i64 (q : Int) ∧ q ≤ 5 ∧ InB w wr ∧ Hid (okN b → p < b / 45 ∨ (p = b / 45 ∧ q ≤ b / 9 % 5))) (fun s5 _ => 5 - (intOf s5).toNat)
      case atStart => exact ⟨0, rfl, by omega, hin, fun hh => by have := hok.out hh; omega⟩
      case round =>
        obtain ⟨q, rfl, hq, hin, hok⟩ := hrel
        by_cases hq4 : q ≤ 4
        · have hq' : (q : Int) ≤ 4 := by omega
          go_wp2_with fail
          go_loopw [6] (fun s6 wr => ∃ r : Nat, s6 = .int .i64 (r : Int) ∧ r + q ≤ 5 ∧ InB w wr ∧ Hid (okN b → p < b / 45 ∨ (p = b / 45 ∧ (q < b / 9 % 5 ∨ (q = b / 9 % 5 ∧ r ≤ b % 9))))) (fun s6 _ => 5 - (intOf s6).toNat)
          case atStart => exact ⟨0, rfl, by omega, hin, fun hh => by have := hok.out hh; omega⟩
          case round =>
            obtain ⟨r, rfl, hr5, hin, hok⟩ := hrel
            by_cases hr4 : r + q ≤ 4
            · have hr' : (r : Int) + (q : Int) ≤ 4 := by omega
              have hpk : okP (r : Int) (q : Int) (p : Int) := by unfold okP; omega
              have hc := PropsByteR_yes _ _ _ hpk wr
              by_cases hv : byteOf (r : Int) (q : Int) (p : Int) = (b : Int)
              · rw [hv] at hc
                have e1 : (r : Int) = (b : Int) % 9 ∧ (q : Int) = (b : Int) / 9 % 5 ∧ (p : Int) = (b : Int) / 45 := by unfold byteOf at hv; omega
                have hN : okN b := by unfold okN; omega
                have Hv := Lib.hid e1
                clear hv e1 hpk
                obtain ⟨z, hz⟩ : ∃ z, w.heap.size = z := ⟨_, rfl⟩
                have hB := hin.2
                have hR := hin.1
                rw [hz] at hB hR ⊢
                go_wp2_with (go_at_call 23; refine hc.mono ?_; rintro e w1 ⟨rfl, hb1⟩; have hr := hR.same (hb1.block _ hR.lt); have r0 := hr.cell 0; have r1 := hr.cell 1; have r2 := hr.cell 2; have f0 := hr.frozen 0; have f1 := hr.frozen 1; have f2 := hr.frozen 2; simp at r0 r1 r2)
                obtain ⟨e1, e2, e3⟩ := Hv.out
                have hBB : Below z w w1 := hB.trans (hb1.mono (by have := hR.lt; omega))
                exact bodyPost_ret (v := .tuple #[P3 (r : Int) (q : Int) (p : Int), .int .i64 0]) (by clear e1 e2 e3; simp [results, Tryd.results25, go_sem, P3, *]) rfl ⟨by rw [if_pos hN, ← e1, ← e2, ← e3], by rw [hz]; exact ((hBB.setCell (Nat.le_refl _) _).setCell (Nat.le_refl _) _).setCell (Nat.le_refl _) _⟩
              · have hv' : ¬ (byteOf (r : Int) (q : Int) (p : Int) = (b : Int)) := hv
                have Hn : Hid (okN b → p < b / 45 ∨ (p = b / 45 ∧ (q < b / 9 % 5 ∨ (q = b / 9 % 5 ∧ r + 1 ≤ b % 9)))) := fun hh => by
                  have := hok.out hh
                  unfold byteOf at hv
                  omega
                obtain ⟨v, hvv⟩ : ∃ v, byteOf (r : Int) (q : Int) (p : Int) = v := ⟨_, rfl⟩
                rw [hvv] at hc hv'
                clear hv hvv hpk
                go_wp2_with (go_at_call 23; refine hc.mono ?_; rintro e w1 ⟨rfl, hb1⟩)
                go_roundw
                case rel => exact ⟨r + 1, rfl, by omega, ⟨hin.1.same (hb1.block _ hin.1.lt), hin.2.trans (hb1.mono hin.2.size)⟩, Hn⟩
                case measure => simp [intOf]; omega
            · have hr' : ¬ (r : Int) + (q : Int) ≤ 4 := by omega
              have Hn : Hid (okN b → p < b / 45 ∨ (p = b / 45 ∧ q + 1 ≤ b / 9 % 5)) := fun hh => by
                have := hok.out hh
                unfold okN at hh
                omega
              go_wp2_with fail
              go_roundw
              case rel => exact ⟨q + 1, rfl, by omega, hin, Hn⟩
              case measure => simp [intOf]; omega
        · have hq' : ¬ (q : Int) ≤ 4 := by omega
          have Hn : Hid (okN b → p + 1 ≤ b / 45) := fun hh => by
            have := hok.out hh
            omega
          go_wp2_with fail
          go_roundw
          case rel => exact ⟨p + 1, rfl, by omega, hin, Hn⟩
          case measure => simp [intOf]; omega
    · have hp' : ¬ (p : Int) ≤ 4 := by omega
      have hr := hin.1
      have r0 := hr.cell 0; have r1 := hr.cell 1; have r2 := hr.cell 2; have f0 := hr.frozen 0; have f1 := hr.frozen 1; have f2 := hr.frozen 2
      simp at r0 r1 r2
      go_wp2_with fail
      have hn : ¬ okN b := fun hh => by have := hok.out hh; unfold okN at hh; omega
      have hB := hin.2
      exact bodyPost_ret (v := .tuple #[P3 0 0 0, .int .i64 2]) (by simp [results, Tryd.results25, go_sem, P3, *]) rfl ⟨by rw [if_neg hn], by first | exact hB | exact ((hB.setCell (Nat.le_refl _) _).setCell (Nat.le_refl _) _).setCell (Nat.le_refl _) _⟩
end Go.Proofs.YtchoiedgnmhjeaaDoor
