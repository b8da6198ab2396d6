/-
  The numbers of chapter 12: bits.Len (after the shelf's own contract text), Slot and Range, the program's and the document's: both answer by the same plain function. No condition beyond each theorem's own.
-/
import Derived.Test.YthfmomhcalppfaaDoorChecked
import Derived.WalkKit
import Derived.WalkSpells
import Derived.WalkLawsBesides
import Derived.Lib.Strings
import Derived.Lib.Slices
import Derived.Lib.Small
import Derived.Lib.Walk
import Derived.Lib.BitFns
import Derived.Lib.Hide
import Derived.Deep.Light
namespace Go.Proofs.YthfmomhcalppfaaDoor
open Go.RowKit

theorem isDist_yes (d : Nat) (h1 : 1 ≤ d) (h2 : d ≤ 4294967295) (w : World) : Calls Tryd.prog 19 #[.int .i64 (d : Int)] w fun e w' => e = .returned (.bool true) ∧ w = w' := by
  have a1 : (1 : Int) ≤ d := by omega
  have a2 : (d : Int) ≤ 4294967295 := by omega
  go_enter Tryd.func19, Tryd.ntmps19
  go_wp2
  go_ret
  exact ⟨rfl, rfl⟩
theorem isDist_no (d : Int) (h : ¬ (1 ≤ d ∧ d ≤ 4294967295)) (w : World) : Calls Tryd.prog 19 #[.int .i64 d] w fun e w' => e = .returned (.bool false) ∧ w = w' := by
  by_cases a1 : (1 : Int) ≤ d
  · have a2 : ¬ (d ≤ 4294967295) := fun h' => h ⟨a1, h'⟩
    go_enter Tryd.func19, Tryd.ntmps19
    go_wp2
    go_ret
    exact ⟨rfl, rfl⟩
  · go_enter Tryd.func19, Tryd.ntmps19
    go_wp2
    go_ret
    exact ⟨rfl, rfl⟩

end Go.Proofs.YthfmomhcalppfaaDoor
