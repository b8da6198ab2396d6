/-
  How an argument's memory reads: a list of bytes, an integer, a list of integers. No condition beyond each theorem's own.
-/
import Derived.Test.YthlflcnpmabmbaaDoorFiFn
import Derived.Test.YthlflcnpmabmbaaDoorBulk
import Derived.WalkKit
import Derived.ProofKit
import Derived.OpenShut
import Derived.ChangeOld
import Derived.SizedLaws
import Derived.Deep.Slices
import Derived.Deep.Fields
import Derived.ChangeSame
import Derived.ChangeArms
namespace Go.Proofs.YthlflcnpmabmbaaDoor
open Go.ChangeShapes Go.WideShapes Go.ChangeAt Go.RowKit Go.Deep
set_option maxRecDepth 100000

theorem own_ : ownKnob Tryd.prog.godebug = none := by kernel_rfl
theorem laidOut_ : laidOutB Tryd.prog = true := by kernel_rfl
theorem cellsU8 : Tryd.prog.cellsOf 5 = 1 := by kernel_rfl
theorem bytesU8 : Tryd.prog.bytesOf 5 = 1 := by kernel_rfl

def InI (w : World) (A : Option Addr) (n : Nat) (l : List Int) : Prop :=
  l.length = n ∧ n ≤ 140737488351232 ∧ ∀ i, i < n → ∃ b off k, A = some ⟨b, off, none⟩ ∧ l[i]? = some k ∧ b < w.heap.size ∧ w.cell? ⟨b, off + i, none⟩ = some (.int .i64 k) ∧ -9223372036854775808 ≤ k ∧ k ≤ 9223372036854775807
section
variable {H : Type} {enc : TypeId × Value → H} {P : Program} {w : World} {base : Nat} {spare : Nat → Bool} {held : Bool}
theorem trodAll3 {t0 t1 t2 : TypeId} {args : Array Value} {ds : List (DataW H)} {ps : List MemPlace} (h : DataW.TrodAll enc P w base spare held [t0, t1, t2] args.toList ds ps) :
    ∃ v0 v1 v2 d0 d1 d2 p0 p1 p2, args = #[v0, v1, v2] ∧ ds = [d0, d1, d2] ∧ ps = p0 ++ (p1 ++ p2) ∧ DataW.Trod enc P w base spare held t0 v0 d0 p0 ∧ DataW.Trod enc P w base spare held t1 v1 d1 p1 ∧ DataW.Trod enc P w base spare held t2 v2 d2 p2 := by
  obtain ⟨v0, v1, v2, d0, d1, d2, p0, p1, p2, e1, e2, e3, h⟩ := trodAll_three h
  exact ⟨v0, v1, v2, d0, d1, d2, p0, p1, p2, e1, e2, by rw [e3, List.append_assoc], h⟩
end
section
variable {H : Type} {enc : TypeId × Value → H} {w : World} {base b0 : Nat} {held : Bool} {r : Reach}
theorem open_int {t : TypeId} {k : IntKind} {v : Value} {d : DataW H} {p : List MemPlace} {spare : Nat → Bool} (hu : Tryd.prog.underlying t = some (.int k)) (hv : Value.okWide Tryd.prog w r b0 t v) (h : DataW.Trod enc Tryd.prog w base spare held t v d p) :
    ∃ x, v = .int k x ∧ (Lit.int k x).wf = true := by
  obtain ⟨x, rfl⟩ := okWide_int hu hv
  obtain ⟨n, hn⟩ := h
  obtain ⟨y, e, e2, hw⟩ := DataW.trod_int hu hn
  simp [Value.cells] at e
  subst e
  exact ⟨_, rfl, hw⟩
/-- a list of bytes that comes in; its length is that of its reading -/
theorem bytes_trod {fuel : Nat} {cs : List Value} {x : DataW H × List MemPlace} (hf : DataW.trod enc Tryd.prog w 0 (fun _ => true) held fuel 34 cs = some x) :
    ∃ A n c l, cs = [.slice A n c] ∧ n ≤ c ∧ Rd w 1 A n (bys l) ∧ (0 < n → ∀ ad, A = some ad → ad.block < w.heap.size) ∧ (n = 0 ∨ ∃ es sp, x.1 = .slice es sp ∧ es.length = n) ∧ (n = 0 → A = none ∧ c = 0 ∨ ∃ a, A = some a) := by
  rcases open_slice Tryd.underlying34 hf with ⟨hcs, _⟩ | ⟨a, n, m, cap, n', D, Pl, hcs, _, hl, hm, hmm, hx, hi⟩
  · subst hcs
    exact ⟨none, 0, 0, [], rfl, Nat.le_refl _, ⟨rfl, fun h => absurd h (by omega)⟩, (fun _ _ h => by cases h), .inl rfl, fun _ => .inl ⟨rfl, rfl⟩⟩
  · subst hcs
    have hl' := hl
    simp only [if_true] at hmm
    subst hmm
    rw [cellsU8] at hi
    have cell : ∀ i, i < n → ∃ x : UInt8, w.cell? (a.add i) = some (.int .u8 (x.toNat : Int)) := by
      intro i hin
      obtain ⟨cs', hc, ht⟩ := hi i (by omega)
      obtain ⟨x, e, _, hw⟩ := DataW.trod_int Tryd.underlying5 ht
      subst e
      obtain ⟨_, _, hat⟩ := World.cells?_some hc
      have h0 := hat 0 (by omega)
      have hw := bounds_u8 hw
      refine ⟨UInt8.ofNat x.toNat, ?_⟩
      have hx : ((UInt8.ofNat x.toNat).toNat : Int) = x := by
        rw [UInt8.toNat_ofNat']; omega
      rw [hx]
      rw [add_add', Nat.mul_one, Nat.add_zero] at h0
      simpa using h0
    have hall : ∃ l : List UInt8, l.length = n ∧ ∀ i x, l[i]? = some x → w.cell? (a.add i) = some (.int .u8 (x.toNat : Int)) := by
      clear hi hf hx
      revert cell
      clear hl
      intro cell
      refine ⟨(List.range n).attach.map fun i => Classical.choose (cell i.1 (List.mem_range.1 i.2)), by simp, fun i x hx => ?_⟩
      have hin : i < n := by
        have := (List.getElem?_eq_some_iff.1 hx).1
        simpa using this
      have := Classical.choose_spec (cell i hin)
      simp [hin] at hx
      rw [← hx]
      exact this
    obtain ⟨l, hll, hlc⟩ := hall
    refine ⟨some a, n, _, l, rfl, hl', ⟨by rw [bys_length]; omega, fun _ => ⟨a, rfl, fun j u hu => ?_⟩⟩, fun h0 ad had => ?_, .inr ⟨_, _, by rw [hx], by simp⟩, fun _ => .inr ⟨_, rfl⟩⟩
    · have hj : j < l.length := by have := (List.getElem?_eq_some_iff.1 hu).1; rwa [bys_length] at this
      rw [bys_get (List.getElem?_eq_getElem hj)] at hu
      cases hu
      exact hlc j _ (List.getElem?_eq_getElem hj)
    · cases had
      obtain ⟨x, hx⟩ := cell 0 h0
      have := World.block_lt_of_cell? w _ hx
      rwa [block_add] at this
/-- a list of bytes that comes in as an argument -/
theorem open_bytes {v : Value} {d : DataW H} {p : List MemPlace} (hv : Value.okWide Tryd.prog w r b0 34 v) (h : DataW.Trod enc Tryd.prog w 0 (fun _ => true) held 34 v d p) :
    ∃ A n c l, v = .slice A n c ∧ n ≤ c ∧ Rd w 1 A n (bys l) ∧ (0 < n → ∀ ad, A = some ad → ad.block < w.heap.size) ∧ (n = 0 ∨ ∃ es sp, d = .slice es sp ∧ es.length = n) ∧ (n = 0 → A = none ∧ c = 0 ∨ ∃ a, A = some a) := by
  obtain ⟨A, n, c, rfl⟩ := okWide_slice Tryd.underlying34 hv
  obtain ⟨fuel, hf⟩ := h
  obtain ⟨A', n', c', l, hcs, h1⟩ := bytes_trod hf
  simp [Value.cells] at hcs
  obtain ⟨rfl, rfl, rfl⟩ := hcs
  exact ⟨A, n, c, l, rfl, h1⟩
theorem cellsInt : Tryd.prog.cellsOf 3 = 1 := by kernel_rfl
theorem bytesInt : Tryd.prog.bytesOf 3 = 8 := by kernel_rfl
/-- a list of integers that comes in -/
theorem open_ints_ {v : Value} {d : DataW H} {p : List MemPlace} (hv : Value.okWide Tryd.prog w r b0 61 v) (h : DataW.Trod enc Tryd.prog w 0 (fun _ => true) held 61 v d p) :
    ∃ A n c l, v = .slice A n c ∧ (n ≤ 140737488351232 → InI w A n l) ∧ (n = 0 ∨ ∃ es sp, d = .slice es sp ∧ es.length = n) := by
  obtain ⟨A, n, c, rfl⟩ := okWide_slice Tryd.underlying61 hv
  obtain ⟨fuel, hf⟩ := h
  rcases open_slice Tryd.underlying61 hf with ⟨hcs, _⟩ | ⟨a, len, cap, m, n', D, Pl, hcs, _, hl, hm, hmm, hx, hi⟩
  · simp [Value.cells] at hcs
    obtain ⟨rfl, rfl, rfl⟩ := hcs
    exact ⟨none, 0, 0, [], rfl, fun h => ⟨rfl, h, fun i hi => absurd hi (by omega)⟩, .inl rfl⟩
  · simp [Value.cells] at hcs
    obtain ⟨rfl, rfl, rfl⟩ := hcs
    simp only [if_true] at hmm
    subst hmm
    rw [cellsInt] at hi
    have cell : ∀ i, i < n → ∃ x : Int, w.cell? (a.add i) = some (.int .i64 x) ∧ -9223372036854775808 ≤ x ∧ x ≤ 9223372036854775807 := by
      intro i hin
      obtain ⟨cs', hc, ht⟩ := hi i (by omega)
      obtain ⟨x, e, _, hw⟩ := DataW.trod_int Tryd.underlying3 ht
      subst e
      obtain ⟨_, _, hat⟩ := World.cells?_some hc
      have h0 := hat 0 (by omega)
      rw [add_add', Nat.mul_one, Nat.add_zero] at h0
      exact ⟨x, by simpa using h0, bounds_i64 hw⟩
    refine ⟨some a, n, m, ?_⟩
    have hd : n = 0 ∨ ∃ es sp, d = .slice es sp ∧ es.length = n := .inr ⟨_, _, by simp only [Prod.mk.injEq] at hx; exact hx.1, by simp⟩
    obtain ⟨b, off, spot⟩ := a
    have cell2 : ∀ i, i < n → ∃ x : Int, spot = none ∧ b < w.heap.size ∧ w.cell? ⟨b, off + i, none⟩ = some (.int .i64 x) ∧ -9223372036854775808 ≤ x ∧ x ≤ 9223372036854775807 := by
      intro i hin
      obtain ⟨x, h1, h2⟩ := cell i hin
      have hspot : spot = none := by
        obtain ⟨y, h3, _⟩ := cell 0 (by omega)
        simpa [Addr.add] using World.cell?_spot h3
      subst hspot
      have hadd : (⟨b, off, none⟩ : Addr).add i = ⟨b, off + i, none⟩ := by unfold Addr.add; split <;> simp_all
      have hb := World.block_lt_of_cell? w _ h1
      rw [hadd] at h1 hb
      exact ⟨x, rfl, hb, h1, h2⟩
    refine ⟨(List.range n).attach.map fun i => Classical.choose (cell2 i.1 (List.mem_range.1 i.2)), rfl, fun hn => ⟨by simp, hn, fun i hin => ?_⟩, hd⟩
    obtain ⟨h0, h1, h2, h3⟩ := Classical.choose_spec (cell2 i hin)
    exact ⟨b, off, _, by rw [h0], by simp [hin], h1, h2, h3⟩
end
end Go.Proofs.YthlflcnpmabmbaaDoor
