/-
  Walk of same: two lists of the same matches are the same. Conditions: both lie in memory.
-/
import Derived.Test.YtllhmgnhnbnbiaaThereL
namespace Go.Proofs.Ytllhmgnhnbnbiaa
open Go.RowKit Go.Shelf
attribute [local go_sem] Oper.semAt_some
set_option maxRecDepth 100000

theorem same_any (L1 L2 : Option Addr) (c1 c2 B1 B2 : Nat) (ms : List (Nat × Nat)) (w : World) (h1 : w.ownsRow B1 30 2 (.slice L1 ms.length c1) ms.length (ents ms)) (h2 : w.ownsRow B2 30 2 (.slice L2 ms.length c2) ms.length (ents ms)) (hN : ms.length ≤ 32) :
    Calls Try.prog 15 #[.slice L1 ms.length c1, .slice L2 ms.length c2] w fun e w' => e = .returned (.bool true) ∧ ∃ k, w' = w.drewN k := by
  have H1 := Lib.hid h1
  have H2 := Lib.hid h2
  have hq := eqM
  clear h1 h2
  go_enter Try.func15, Try.ntmps15
  go_wp2_with fail
  go_loopw [13] (fun s13 wr => ∃ i : Nat, s13 = .int .i64 (i : Int) ∧ i ≤ ms.length ∧ ∃ n0, wr = w.drewN n0) (fun s13 _ => ms.length - (intOf s13).toNat)
  case atStart => exact ⟨0, rfl, Nat.zero_le _, 0, rfl⟩
  case round =>
    obtain ⟨i, rfl, hi, n0, rfl⟩ := hrel
    by_cases hlt : i < ms.length
    · have hlt' : (i : Int) < (ms.length : Int) := by omega
      obtain ⟨⟨m1, m2⟩, hmm⟩ : ∃ mm, ms[i]? = some mm := ⟨_, List.getElem?_eq_getElem hlt⟩
      obtain ⟨g, hg, x0, x1⟩ := row_get H1.out hmm
      obtain ⟨g', hg', y0, y1⟩ := row_get H2.out hmm
      subst hg
      subst hg'
      have x0 : w.cell? ⟨g, i * 2, none⟩ = some (.int .i64 (m1 : Int)) := x0
      have x1 : w.cell? ⟨g, i * 2 + 1, none⟩ = some (.int .i64 (m2 : Int)) := x1
      have y0 : w.cell? ⟨g', i * 2, none⟩ = some (.int .i64 (m1 : Int)) := y0
      have y1 : w.cell? ⟨g', i * 2 + 1, none⟩ = some (.int .i64 (m2 : Int)) := y1
      have Hmm := Lib.hid hmm
      clear hmm
      go_wp2_with fail
      go_quiet (fail)
      go_wp2_with fail
      go_roundw
      case rel => exact ⟨i + 1, by go_num, by omega, _, rfl⟩
      case measure => simp [intOf]; omega
    · obtain rfl : i = ms.length := by omega
      have hge : ¬ (ms.length : Int) < (ms.length : Int) := by omega
      go_wp2_with fail
      go_ret
      exact ⟨rfl, _, rfl⟩
end Go.Proofs.Ytllhmgnhnbnbiaa
