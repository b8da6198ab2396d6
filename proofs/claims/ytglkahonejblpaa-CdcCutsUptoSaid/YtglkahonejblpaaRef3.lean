/-
  Walk of the document's Pieces: the pieces that a cutter makes of the data. Conditions: the bytes lie in memory; legal cuts.
-/
import Derived.Test.YtglkahonejblpaaRef2
import Derived.Test.YtglkahonejblpaaPage
namespace Go.Proofs.Ytglkahonejblpaa
open Go.RowKit

/-- the pieces of the data -/
def piecesL (least most bits : Int) (l : List UInt8) : List (List UInt8) := allP (wrL least most bits 0 0 [] l)
theorem piecesL_runs (least most bits : Int) (l : List UInt8) : runs 0 (piecesL least most bits l) = cutsL least most bits l ∧ (piecesL least most bits l).flatten = l := by
  have := allP_two least most bits l []
  rw [List.append_nil] at this
  exact this
theorem piecesL_at (least most bits : Int) (l : List UInt8) (i : Nat) (x : List UInt8) (h : (piecesL least most bits l)[i]? = some x) : (cutsL least most bits l)[i]? = some (prv 0 (cutsL least most bits l) i + x.length) ∧ x = (l.drop (prv 0 (cutsL least most bits l) i)).take x.length ∧ prv 0 (cutsL least most bits l) i + x.length ≤ l.length := by
  obtain ⟨h1, h2⟩ := piecesL_runs least most bits l
  obtain ⟨h3, h4, h5⟩ := runs_at _ 0 i x h
  rw [h1] at h3 h4 h5
  rw [h2, Nat.sub_zero] at h5
  refine ⟨h3, h5, ?_⟩
  by_cases hx : x.length = 0
  · have h6 : i ≤ (cutsL least most bits l).length := by
      have := (List.getElem?_eq_some_iff.1 h3).1
      omega
    have : ∀ (a : List (List UInt8)) (s j : Nat), j ≤ (runs s a).length → prv s (runs s a) j ≤ s + a.flatten.length := by
      intro a
      induction a with
      | nil => intro s j hj; simp [runs] at hj; subst hj; simp [prv]
      | cons y a ih =>
        intro s j hj
        cases j with
        | zero => simp [prv]
        | succ j =>
          rw [runs, prv_cons]
          have := ih (s + y.length) j (by rw [runs] at hj; simpa using hj)
          simp only [List.flatten_cons, List.length_append]
          omega
    have := this (piecesL least most bits l) 0 i (by rw [h1]; exact h6)
    rw [h1, h2] at this
    omega
  · have := congrArg List.length h5
    rw [List.length_take, List.length_drop] at this
    omega
/-- pieces that lie within A -/
def PcIn (A : Option Addr) (m : Nat) (l : List UInt8) (p : Pc) : Prop := (∀ W, In W A m l → In W p.1 p.2.2.length p.2.2) ∧ (∀ ad, p.1 = some ad → ∃ ad', A = some ad' ∧ ad.block = ad'.block) ∧ p.2.2.length ≤ p.2.1
def RPPost (A : Option Addr) (m : Nat) (l : List UInt8) (P : List (List UInt8)) (w : World) (e : Ending) (w' : World) : Prop :=
  ∃ (O : Option Addr) (oc : Nat) (ps : List Pc), e = .returned (.slice O ps.length oc) ∧ byP ps = P ∧ w'.ownsRow w.heap.size 32 1 (.slice O ps.length oc) ps.length (svs ps) ∧ (∀ p, p ∈ ps → PcIn A m l p) ∧ Below w.heap.size w w'
theorem PcIn.mk {A : Option Addr} {m c f : Nat} {l x : List UInt8} (hmc : m ≤ c) (hl : l.length = m) (hx : x = (l.drop f).take x.length) (hf : f + x.length ≤ m) : PcIn A m l (if c = f then A else A.map (·.add f), c - f, x) := by
  refine ⟨fun W hW => ?_, fun ad had => ?_, by show x.length ≤ c - f; omega⟩
  · have h1 := (hW.cut (k := f) (by omega) hmc).take (k := x.length) (by omega)
    rw [← hx] at h1
    exact h1
  · simp only [] at had
    split at had
    · exact ⟨ad, had, rfl⟩
    · cases A with
      | none => cases had
      | some a =>
        simp only [Option.map_some, Option.some.injEq] at had
        subst had
        exact ⟨a, rfl, block_add a f⟩
/-- in the midst of Pieces -/
structure RPRel (A : Option Addr) (m : Nat) (l : List UInt8) (P : List (List UInt8)) (w : World) (i : Nat) (O : Option Addr) (oc : Nat) (ps : List Pc) (wr : World) : Prop where
  at_ : byP ps = P.take i
  row : wr.ownsRow w.heap.size 32 1 (.slice O i oc) i (svs ps)
  len : ps.length = i
  pcs : ∀ p, p ∈ ps → PcIn A m l p
  below : Below w.heap.size w wr
set_option maxHeartbeats 4000000 in
set_option maxRecDepth 100000 in
theorem RPieces_any (A : Option Addr) (m c : Nat) (l : List UInt8) (least most bits : Int) (w : World) (hI : In w A m l) (hmc : m ≤ c) (hm : m ≤ 549755813888) (hok : CutsOk least most bits) :
    Calls Try.prog 29 #[.slice A m c, .agg #[.int .i64 least, .int .i64 most, .int .i64 bits]] w (RPPost A m l (piecesL least most bits l) w) := by
  obtain ⟨j0, hj0, jz0, jz1, jz2⟩ := info_parts infosl
  obtain ⟨w0, hw0⟩ : ∃ w0, w.alloc (.cells #[.int .i64 least, .int .i64 most, .int .i64 bits] 23) = w0 := ⟨_, rfl⟩
  have Hb0 : Hid (Below w.heap.size w w0) := by rw [← hw0]; exact bmk_ (Below.refl _ _) _
  have HI : Hid (In w0 A m l) := hI.below Hb0.out
  have hX : Blk w0 w.heap.size 23 #[.int .i64 least, .int .i64 most, .int .i64 bits] := by rw [← hw0]; exact Blk.new _ _ _
  have hz0' := hX.lt
  obtain ⟨x0, x1, x2⟩ := hX.three
  have HC := Lib.hid (RCut_yes A m c l least most bits w0 HI.out hmc (by omega) hok)
  have Hl : Hid (l.length = m) := hI.len
  have HAt := Lib.hid (piecesL_at least most bits l)
  have HLn : Hid ((piecesL least most bits l).length = (cutsL least most bits l).length) := by rw [← (piecesL_runs least most bits l).1, runs_length]; rfl
  obtain ⟨P, hP⟩ : ∃ P, piecesL least most bits l = P := ⟨_, rfl⟩
  obtain ⟨cl, hcl⟩ : ∃ cl, cutsL least most bits l = cl := ⟨_, rfl⟩
  obtain ⟨q, hq⟩ : ∃ q, cl.length = q := ⟨_, rfl⟩
  rw [hP, hcl] at HAt HLn
  rw [hcl] at HC
  have Hq := Lib.hid hq
  rw [hP]
  unfold RPPost
  clear hI hok hP hcl hq hX
  go_enter Try.func29, Try.ntmps29
  go_wp2_with fail
  refine HC.out.mono ?_
  rintro e w1 ⟨L, lc, q', rfl, hq', h64, hL, hb1⟩
  obtain rfl : q' = q := hq'.symm.trans Hq.out
  have hqlc := own_le hL
  have HL : Hid (InN w1 L q' cl) := InN.of_own hL (by omega)
  have Hb1 : Hid (Below w0.heap.size w0 w1) := hb1
  have H0 : Hid (RPRel A m l P w1 0 none 0 [] w1) := ⟨rfl, World.ownsRow_nil _ _ _ _, rfl, (fun p hp => by cases hp), Below.refl _ _⟩
  clear hL hb1 hq' HC x0 x1 x2
  go_wp2_with fail
  go_loopw [7, 8, 9] (fun s7 s8 s9 wr => ∃ (i oc : Nat) (O : Option Addr) (ps : List Pc), s7 = .slice O i oc ∧ s8 = .int .i64 (prv 0 cl i : Int) ∧ s9 = .int .i64 (i : Int) ∧ i ≤ q' ∧ Hid (RPRel A m l P w1 i O oc ps wr)) (fun _ _ s9 _ => q' - (intOf s9).toNat)
  case atStart => exact ⟨0, 0, none, [], rfl, rfl, rfl, Nat.zero_le _, H0⟩
  case round =>
    clear H0
    obtain ⟨i, oc, O, ps, rfl, rfl, rfl, hi, H⟩ := hrel
    by_cases hlt : i < q'
    · have hlt' : (i : Int) < (q' : Int) := by omega
      obtain ⟨x, hx⟩ : ∃ x, P[i]? = some x := ⟨_, List.getElem?_eq_getElem (by rw [HLn.out, Hq.out]; exact hlt)⟩
      obtain ⟨h1, h2, h3⟩ := HAt.out i x hx
      obtain ⟨f, hf⟩ : ∃ f, prv 0 cl i = f := ⟨_, rfl⟩
      rw [hf] at h1 h2 h3 ⊢
      obtain ⟨e, he⟩ : ∃ e, f + x.length = e := ⟨_, rfl⟩
      rw [he] at h1 h3
      obtain ⟨b1, o1, rfl, hb1, hc1⟩ := HL.out.2.2 (by omega)
      have z0 := Lib.hid (hc1 i e h1)
      have z1 := (H.out.below.cell (p := ⟨b1, o1 + i, none⟩) hb1).trans z0.out
      have Hb1l := Lib.hid hb1
      have hnx := prv_next (s := 0) h1
      have hlm := Hl.out
      have Hx : Hid (PcIn A m l (if c = f then A else A.map (·.add f), c - f, x)) := PcIn.mk hmc hlm h2 (by omega)
      obtain ⟨A2, hA2⟩ : ∃ A2, (if c = f then A else A.map (·.add f)) = A2 := ⟨_, rfl⟩
      rw [hA2] at Hx
      have hfc : f ≤ e ∧ e ≤ c ∧ f ≤ c ∧ e ≤ m ∧ i ≤ lc := by omega
      have hfc' : (f : Int) ≤ (e : Int) ∧ (e : Int) ≤ (c : Int) := by omega
      have hxl : e - f = x.length := by omega
      have Hxl := Lib.hid hxl
      have Hnx := Lib.hid hnx
      have HTk : Hid (P.take (i + 1) = P.take i ++ [x]) := by show _ = _; rw [List.take_add_one, hx]; rfl
      have Hsz := Lib.hid H.out.below.size
      clear hc1 h1 h2 h3 he hf hnx hx hlm hxl
      go_wp2_with (at_builtin; refine wpList_append_rd (w := wr.alloc (.cells #[.slice A2 (e - f) (c - f)] 32)) rfl (.tmp 22) (.tmp 30) 41 rfl w1.heap.size 32 j0 _ 1 24 Try.underlying41 hj0 jz0 jz1 jz2 rfl (by decide) (.slice O i oc) i (svs ps) rfl (H.out.row.alloc _) (some ⟨wr.heap.size, 0, none⟩) 1 1 (svs [(A2, c - f, x)]) rfl ⟨rfl, fun _ => ⟨_, rfl, by rw [Hxl.out]; exact World.news_of_block (heap_alloc_new wr _)⟩⟩ (svs_one _) (by simp only [maxLen]; omega) (by omega) (by have := Hsz.out; simp; omega) ?_; intro O3 oc3 w3 hown3 hg3 hat3; have Hown3 := Lib.hid hown3; have Hg3 := Lib.hid hg3; have z3 := (((bmk_ H.out.below _).grown hg3 (by have := Hsz.out; simp; omega) (fun g hg => (own_lt H.out.row hg).1)).cell (p := ⟨b1, o1 + i, none⟩) Hb1l.out).trans z0.out; clear hown3 hg3 hat3)
      go_roundw
      case rel =>
        refine ⟨i + 1, oc3, O3, ps ++ [(A2, c - f, x)], rfl, by rw [Hnx.out], by go_num, by omega, ⟨?_, ?_, ?_, ?_, ?_⟩⟩
        · rw [HTk.out, ← H.out.at_]; simp [byP]
        · rw [svs_append]; exact Hown3.out
        · rw [List.length_append, H.out.len]; rfl
        · intro p hp
          rcases List.mem_append.1 hp with h | h
          · exact H.out.pcs p h
          · rw [List.mem_singleton] at h
            rw [h]
            exact Hx.out
        · exact (bmk_ H.out.below _).grown Hg3.out (by have := Hsz.out; simp; omega) (fun g hg => (own_lt H.out.row hg).1)
      case measure => simp [intOf]; omega
    · have hiq : i = q' := by omega
      subst hiq
      have hlt' : decide ((i : Int) < (i : Int)) = false := decide_eq_false (by omega)
      have HP : Hid (byP ps = P) := by
        have := H.out.at_
        rw [List.take_of_length_le (by rw [HLn.out, Hq.out]; exact Nat.le_refl _)] at this
        exact this
      go_wp2_with fail
      go_ret
      have hrow := H.out.row
      refine ⟨O, oc, ps, by show Ending.returned (.slice O i oc) = _; rw [H.out.len], HP.out, ?_, H.out.pcs, bup Hb0.out (bup Hb1.out H.out.below)⟩
      rw [← H.out.len] at hrow
      exact own_mono hrow (by have := Hb0.out.size; have := Hb1.out.size; omega)
end Go.Proofs.Ytglkahonejblpaa
