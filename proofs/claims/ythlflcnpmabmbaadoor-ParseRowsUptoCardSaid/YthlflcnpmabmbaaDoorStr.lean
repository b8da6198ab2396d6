/-
  Bytes that come in: their cells; a list of bytes as a string. No conditions beyond each lemma's own premises.
-/
import Derived.Test.YthlflcnpmabmbaaDoorChecked
import Derived.Test.YthlflcnpmabmbaaDoorMem
import Derived.WalkKit
import Derived.WalkSpells
import Derived.WalkLawsBesides
namespace Go.Proofs.YthlflcnpmabmbaaDoor
open Go.RowKit

theorem Rd.cells_at {w : World} {A : Option Addr} {n : Nat} {l : List UInt8} (h : Rd w 1 A n (bys l)) (h0 : 0 < n) :
    ∃ b off, A = some ⟨b, off, none⟩ ∧ ∀ i x, l[i]? = some x → w.cell? ⟨b, off + i, none⟩ = some (.int .u8 (x.toNat : Int)) := by
  obtain ⟨ad, rfl, hc⟩ := h.2 h0
  have hl : 0 < l.length := by have := h.1; rw [bys_length] at this; omega
  have c0 := hc 0 _ (bys_get (List.getElem?_eq_getElem hl))
  obtain ⟨b, off, spot⟩ := ad
  have hspot : spot = none := by simpa [Addr.add] using World.cell?_spot c0
  subst hspot
  refine ⟨b, off, rfl, fun i x hx => ?_⟩
  have := hc i _ (bys_get hx)
  rwa [show (⟨b, off, none⟩ : Addr).add i = ⟨b, off + i, none⟩ from by unfold Addr.add; split <;> simp_all] at this
/-- the string of a list of bytes -/
def strOf (l : List UInt8) : ByteArray := ⟨l.toArray⟩
theorem strOf_data (l : List UInt8) : (strOf l).data.toList = l := rfl
theorem strOf_inj {l r : List UInt8} : strOf l = strOf r ↔ l = r :=
  ⟨fun h => by have := congrArg (fun s : ByteArray => s.data.toList) h; exact this, fun h => h ▸ rfl⟩
theorem strOf_append (l r : List UInt8) : strOf l ++ strOf r = strOf (l ++ r) := by
  apply ByteArray.ext
  simp [strOf, ByteArray.data_append]
theorem strOf_size (l : List UInt8) : (strOf l).size = l.length := rfl
theorem conv_rd {w : World} {A : Option Addr} {n c : Nat} {l : List UInt8} (h : Rd w 1 A n (bys l)) :
    (convert 34 9 (.slice A n c)).run Tryd.prog w = .ok (.string (strOf l)) w := by
  have hl : l.length = n := by have := h.1; rw [bys_length] at this; omega
  rcases A with _ | ad
  · have hn : n = 0 := by
      rcases Nat.eq_zero_or_pos n with h0 | h0
      · exact h0
      · obtain ⟨_, e, _⟩ := h.2 h0; cases e
    subst hn
    obtain rfl : l = [] := List.eq_nil_of_length_eq_zero hl
    rw [run_convert_bytes_string w 34 9 5 none 0 c Tryd.underlying34 Tryd.underlying5 Tryd.underlying9]
    rfl
  · subst hl
    refine run_convert_bytes_back w 34 9 5 ad c l Tryd.underlying34 Tryd.underlying5 Tryd.underlying9 fun j hj => ?_
    obtain ⟨ad', e, hc⟩ := h.2 (by omega)
    cases e
    exact hc j _ (bys_get (List.getElem?_eq_getElem hj))
end Go.Proofs.YthlflcnpmabmbaaDoor
