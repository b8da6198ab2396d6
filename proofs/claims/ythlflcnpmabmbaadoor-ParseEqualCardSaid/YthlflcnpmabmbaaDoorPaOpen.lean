/-
  How an argument's memory reads: an integer, a byte. No condition beyond each theorem's own.
-/
import Derived.Test.YthlflcnpmabmbaaDoorCdBase
import Derived.Test.YthlflcnpmabmbaaDoorStOpen
import Derived.WalkKit
import Derived.ProofKit
import Derived.OpenShut
import Derived.ChangeOld
import Derived.SizedLaws
import Derived.Deep.Slices
import Derived.Deep.Fields
import Derived.ChangeSame
import Derived.ChangeArms
namespace Go.Proofs.YthlflcnpmabmbaaDoor
open Go.ChangeShapes Go.WideShapes Go.ChangeAt Go.RowKit Go.Deep
set_option maxRecDepth 100000
section
variable {H : Type} {enc : TypeId × Value → H} {w : World} {base b0 : Nat} {held : Bool} {r : Reach}
theorem open_int {t : TypeId} {k : IntKind} {v : Value} {d : DataW H} {p : List MemPlace} {spare : Nat → Bool} (hu : Tryd.prog.underlying t = some (.int k)) (hv : Value.okWide Tryd.prog w r b0 t v) (h : DataW.Trod enc Tryd.prog w base spare held t v d p) :
    ∃ x, v = .int k x ∧ (Lit.int k x).wf = true := by
  obtain ⟨x, rfl⟩ := okWide_int hu hv
  obtain ⟨n, hn⟩ := h
  obtain ⟨y, e, e2, hw⟩ := DataW.trod_int hu hn
  simp [Value.cells] at e
  subst e
  exact ⟨_, rfl, hw⟩
theorem open_byte {v : Value} {d : DataW H} {p : List MemPlace} {spare : Nat → Bool} (hv : Value.okWide Tryd.prog w r b0 5 v) (h : DataW.Trod enc Tryd.prog w base spare held 5 v d p) :
    ∃ b : UInt8, v = .int .u8 (b.toNat : Int) := by
  obtain ⟨x, rfl, hw⟩ := open_int Tryd.underlying5 hv h
  have hw := bounds_u8 hw
  refine ⟨UInt8.ofNat x.toNat, ?_⟩
  have hx : ((UInt8.ofNat x.toNat).toNat : Int) = x := by
    rw [UInt8.toNat_ofNat']; omega
  rw [hx]
end
end Go.Proofs.YthlflcnpmabmbaaDoor
