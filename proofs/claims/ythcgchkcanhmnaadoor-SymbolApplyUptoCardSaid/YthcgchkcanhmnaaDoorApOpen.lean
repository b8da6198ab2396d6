
/-
  How four numbers in an array read that are handed in by value. No condition beyond each theorem's own.
-/
import Derived.Test.YthcgchkcanhmnaaDoorOpen
import Derived.Test.YthcgchkcanhmnaaDoorStOpen
import Derived.Test.YthcgchkcanhmnaaDoorApLaw
import Derived.Carry
namespace Go.Proofs.YthcgchkcanhmnaaDoor
open Go.RowKit Go.ChangeShapes Go.WideShapes Go.ChangeAt

section
variable {H : Type} {enc : TypeId × Value → H} {w : World} {base : Nat} {spare : Nat → Bool} {held : Bool} {r : Reach} {b0 : Nat}
theorem okWide_arr {P : Program} {t e : TypeId} {n : Nat} {v : Value} (ht : P.underlying t = some (.array n e)) (h : Value.okWide P w r b0 t v) : ∃ cs, v = .agg cs ∧ cs.size = P.cellsOf t := by
  simp only [Value.okWide, ht] at h
  obtain ⟨cs, h1, h2, _⟩ := h
  exact ⟨cs, h1, h2⟩
theorem open_arr4 {v : Value} {d : DataW H} {p : List MemPlace} (hv : Value.okWide Tryd.prog w r b0 22 v) (h : DataW.Trod enc Tryd.prog w base spare held 22 v d p) :
    ∃ a b c e : Int, v = .agg #[.int .i64 a, .int .i64 b, .int .i64 c, .int .i64 e] := by
  obtain ⟨cs, rfl, hs⟩ := okWide_arr Tryd.underlying22 hv
  obtain ⟨n, hn⟩ := h
  have hs4 : cs.toList.length = 4 := by rw [Array.length_toList, hs]; kernel_rfl
  obtain ⟨a, b, c, e, he⟩ := cells_reps hs4 hn
  refine ⟨a, b, c, e, ?_⟩
  rw [← he]
end
section
variable {H : Type} {enc : TypeId × Value → H} {P : Program} {w : World} {base : Nat} {spare : Nat → Bool} {held : Bool}
theorem trodAll_mk5 {t0 t1 t2 t3 t4 : TypeId} {v0 v1 v2 v3 v4 : Value} {d0 d1 d2 d3 d4 : DataW H} {p0 p1 p2 p3 p4 : List MemPlace} (h0 : DataW.Trod enc P w base spare held t0 v0 d0 p0) (h1 : DataW.Trod enc P w base spare held t1 v1 d1 p1) (h2 : DataW.Trod enc P w base spare held t2 v2 d2 p2) (h3 : DataW.Trod enc P w base spare held t3 v3 d3 p3) (h4 : DataW.Trod enc P w base spare held t4 v4 d4 p4) :
    DataW.TrodAll enc P w base spare held [t0, t1, t2, t3, t4] [v0, v1, v2, v3, v4] [d0, d1, d2, d3, d4] (p0 ++ (p1 ++ (p2 ++ (p3 ++ p4)))) := ⟨p0, p1 ++ (p2 ++ (p3 ++ p4)), h0, trodAll_mk4 h1 h2 h3 h4, rfl⟩
end
theorem apply_law_ (dict num ra rb rc rd : Int) (A : Option Addr) (n c : Nat) (lb : List UInt8) (M : Option Addr) (m mc : Nat) (l : List Sy) (w : World) (_h0 : -9223372036854775808 ≤ dict ∧ dict ≤ 9223372036854775807) (_h1 : -9223372036854775808 ≤ num ∧ num ≤ 9223372036854775807) (h : In w A n lb) (hn : n ≤ 1048576) (h2 : InS w M m l) (hm : m ≤ 1048576) (_hmc : m ≤ mc) (hl : Laid w) :
    Calls Tryd.prog 3 #[.int .i64 dict, .int .i64 num, .agg #[.int .i64 ra, .int .i64 rb, .int .i64 rc, .int .i64 rd], .slice A n c, .slice M m mc] w fun e w' => e = .returned (.bool true) ∧ Below w.heap.size w w' :=
  apply_law dict num ra rb rc rd A n c lb M m mc l w h hn h2 hm hl
end Go.Proofs.YthcgchkcanhmnaaDoor
