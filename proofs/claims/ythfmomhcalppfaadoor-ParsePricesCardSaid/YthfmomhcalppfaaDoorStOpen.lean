/-
  How an argument's memory reads: properties, a symbol, four distances by value. No condition beyond each theorem's own.
-/
import Derived.Test.YthfmomhcalppfaaDoorMem
import Derived.Test.YthfmomhcalppfaaDoorStNext
import Derived.Laws.CopyOwn
import Derived.Laws.CopyRow
import Derived.Deep.RegionLaw
import Derived.BigRegion
import Derived.Test.YthfmomhcalppfaaDoorChecked
import Derived.ProofKit
import Derived.OpenShut
import Derived.ChangeSame
import Derived.ChangeArms
import Derived.Laws.IdiomArrays
import Derived.WalkKit
import Derived.WalkSpells
import Derived.WalkLawsBesides
import Derived.Lib.Strings
import Derived.Lib.Slices
import Derived.Lib.Small
import Derived.Lib.Walk
import Derived.Lib.BitFns
import Derived.Lib.Hide
import Derived.Deep.Light
namespace Go.Proofs.YthfmomhcalppfaaDoor
open Go.RowKit Go.ChangeShapes Go.WideShapes Go.ChangeAt
set_option maxRecDepth 100000

section
variable {H : Type} {enc : TypeId × Value → H} {w : World} {base : Nat} {spare : Nat → Bool} {held : Bool} {r : Reach} {b0 : Nat}
theorem int_at {n : Nat} {k : IntKind} {t : TypeId} {cs : List Value} {i : Nat} {y : Option (DataW H × List MemPlace)} (hu : Tryd.prog.underlying t = some (.int k)) (h : DataW.trod enc Tryd.prog w base spare held n t ((cs.drop i).take 1) = y) (hy : y.isSome = true) (hi : i < cs.length) : ∃ x, cs[i]? = some (.int k x) := by
  obtain ⟨y, rfl⟩ := Option.isSome_iff_exists.1 hy
  obtain ⟨x, e, _⟩ := DataW.trod_int hu h
  rw [List.drop_eq_getElem_cons hi, List.take_succ_cons, List.take_zero] at e
  injection e with e
  exact ⟨x, by rw [List.getElem?_eq_getElem hi, e]⟩
theorem c24 : Tryd.prog.cellsOf 24 = 4 := by kernel_rfl
theorem c22 : Tryd.prog.cellsOf 34 = 4 := by kernel_rfl
theorem c03 : Tryd.prog.cellsOf 3 = 1 := by kernel_rfl
theorem c05 : Tryd.prog.cellsOf 5 = 1 := by kernel_rfl
theorem int_at3 {n : Nat} {cs : List Value} {i : Nat} {y : Option (DataW H × List MemPlace)} (h : DataW.trod enc Tryd.prog w base spare held n 3 ((cs.drop i).take (Tryd.prog.cellsOf 3)) = y) (hy : y.isSome = true) (hi : i < cs.length) : ∃ x, cs[i]? = some (.int .i64 x) := by
  rw [c03] at h
  exact int_at Tryd.underlying3 h hy hi
theorem int_at5 {n : Nat} {cs : List Value} {i : Nat} {y : Option (DataW H × List MemPlace)} (h : DataW.trod enc Tryd.prog w base spare held n 5 ((cs.drop i).take (Tryd.prog.cellsOf 5)) = y) (hy : y.isSome = true) (hi : i < cs.length) : ∃ x, cs[i]? = some (.int .u8 x) := by
  rw [c05] at h
  exact int_at Tryd.underlying5 h hy hi
theorem cells_sym {n : Nat} {cs : List Value} {x : DataW H × List MemPlace} (hf : DataW.trod enc Tryd.prog w base spare held n 24 cs = some x) : ∃ k y l d : Int, cs = [.int .i64 k, .int .u8 y, .int .i64 l, .int .i64 d] := by
  obtain ⟨xs, n', _, _, hlen, hxl, hat⟩ := DataW.trod_struct Tryd.underlying24 hf
  rw [c24] at hlen
  have h0 := hat 0 _ rfl
  have h1 := hat 1 _ rfl
  have h2 := hat 2 _ rfl
  have h3 := hat 3 _ rfl
  have hxl' : xs.length = 4 := hxl
  obtain ⟨a, e0⟩ := int_at3 (i := 0) h0 (by simp; omega) (by omega)
  obtain ⟨b, e1⟩ := int_at5 (i := 1) h1 (by simp; omega) (by omega)
  obtain ⟨c, e2⟩ := int_at3 (i := 2) h2 (by simp; omega) (by omega)
  obtain ⟨d, e3⟩ := int_at3 (i := 3) h3 (by simp; omega) (by omega)
  match cs, hlen, e0, e1, e2, e3 with
  | [v0, v1, v2, v3], _, e0, e1, e2, e3 =>
    simp at e0 e1 e2 e3
    exact ⟨a, b, c, d, by rw [e0, e1, e2, e3]⟩
theorem cells_reps {n : Nat} {cs : List Value} {x : DataW H × List MemPlace} (hlen : cs.length = 4) (hf : DataW.trod enc Tryd.prog w base spare held n 34 cs = some x) : ∃ a b c d : Int, cs = [.int .i64 a, .int .i64 b, .int .i64 c, .int .i64 d] := by
  match cs, hlen with
  | [v0, v1, v2, v3], _ =>
    obtain ⟨y0, y1, y2, y3, m, _, t0, t1, t2, t3⟩ := trod_array4 Tryd.underlying34 c03 hf
    obtain ⟨a, e0, _⟩ := DataW.trod_int Tryd.underlying3 t0
    obtain ⟨b, e1, _⟩ := DataW.trod_int Tryd.underlying3 t1
    obtain ⟨c, e2, _⟩ := DataW.trod_int Tryd.underlying3 t2
    obtain ⟨d, e3, _⟩ := DataW.trod_int Tryd.underlying3 t3
    simp at e0 e1 e2 e3
    exact ⟨a, b, c, d, by rw [e0, e1, e2, e3]⟩
theorem open_agg {t : TypeId} {fs : Array Field} {v : Value} {d : DataW H} {p : List MemPlace} (hu : Tryd.prog.underlying t = some (.struct fs)) (hv : Value.okWide Tryd.prog w r b0 t v) (h : DataW.Trod enc Tryd.prog w base spare held t v d p) :
    ∃ cs : Array Value, v = .agg cs ∧ ∃ n, DataW.trod enc Tryd.prog w base spare held n t cs.toList = some (d, p) := by
  obtain ⟨cs, rfl, _⟩ := okWide_struct hu hv
  obtain ⟨n, hn⟩ := h
  exact ⟨cs, rfl, n, hn⟩
theorem open_sym {v : Value} {d : DataW H} {p : List MemPlace} (hv : Value.okWide Tryd.prog w r b0 24 v) (h : DataW.Trod enc Tryd.prog w base spare held 24 v d p) : ∃ k y l x : Int, v = .agg #[.int .i64 k, .int .u8 y, .int .i64 l, .int .i64 x] := by
  obtain ⟨cs, rfl, n, hn⟩ := open_agg Tryd.underlying24 hv h
  obtain ⟨a, b, c, d, e⟩ := cells_sym hn
  exact ⟨a, b, c, d, by rw [← Array.toList_inj.1 (show cs.toList = (#[.int .i64 a, .int .u8 b, .int .i64 c, .int .i64 d] : Array Value).toList from e)]⟩
end
end Go.Proofs.YthfmomhcalppfaaDoor
