/-
  What lies below the two ranges of CdcCuts and is only read from there on. Conditions: each lemma's own.
-/
import Derived.Test.YtglkahonejblpaaCkC
namespace Go.Proofs.Ytglkahonejblpaa
open Go.RowKit Go.Shelf

def InB (B : Nat) (w : World) (A : Option Addr) (n : Nat) (l : List UInt8) : Prop := In w A n l ∧ (0 < n → ∀ ad, A = some ad → ad.block < B)
theorem InB.below {B n : Nat} {w w' : World} {A : Option Addr} {l : List UInt8} (h : InB B w A n l) (hb : Below B w w') : InB B w' A n l :=
  ⟨h.1.same fun h0 ad had => hb.block _ (h.2 h0 ad had), h.2⟩
/-- cells of a slice -/
def CellsB (B : Nat) (w : World) (A : Option Addr) (f : Nat → Option Value) : Prop := ∀ i v, f i = some v → ∃ b o, A = some ⟨b, o, none⟩ ∧ b < B ∧ w.cell? ⟨b, o + i, none⟩ = some v
theorem CellsB.below {B : Nat} {w w' : World} {A : Option Addr} {f : Nat → Option Value} (h : CellsB B w A f) (hb : Below B w w') : CellsB B w' A f := fun i v hv => by
  obtain ⟨b, o, e, hlt, hc⟩ := h i v hv
  exact ⟨b, o, e, hlt, (hb.cell (p := ⟨b, o + i, none⟩) hlt).trans hc⟩
theorem CellsB.of_own {B D n c : Nat} {e : TypeId} {w : World} {A : Option Addr} {xs : List Value} (h : w.ownsRow D e 1 (.slice A n c) n xs) (hB : w.heap.size ≤ B) : CellsB B w A (fun i => xs[i]?) := fun i v hv => by
  have hx := h.1
  have hi := (List.getElem?_eq_some_iff.1 hv).1
  obtain ⟨g, cap, hv2, _, hlt⟩ := h.form (by omega)
  injection hv2 with hA
  subst hA
  refine ⟨g, 0, rfl, by omega, ?_⟩
  rw [Nat.zero_add]
  have := h.cells (g := g) rfl i v hv
  rwa [show (⟨g, 0, none⟩ : Addr).add i = ⟨g, i, none⟩ from by unfold Addr.add; split <;> simp_all] at this
structure CkS (B Z Bp cb ob : Nat) (least most bits stop : Int) (A : Option Addr) (n : Nat) (la : List UInt8) (L M L3 : Option Addr) (q : Nat) (cl : List Nat) (O : Option Addr) (oc : Nat) (OP : Option Addr) (opc : Nat) (ps : List Pc) (w : World) : Prop where
  x : Blk w Z 23 #[.int .i64 least, .int .i64 most, .int .i64 bits]
  st : Blk w (Z + 1) 3 #[.int .i64 stop]
  rs : Blk w (Z + 2) 4 #[.bool false]
  data : InB B w A n la
  l7 : CellsB B w L (fun i => if i < q then some (.int .i64 (-7)) else none)
  m7 : CellsB B w M (fun i => if i < q then some (.int .i64 (-7)) else none)
  l3 : CellsB B w L3 (fun i => (nis cl)[i]?)
  bc : Blk w cb 23 #[.int .i64 least, .int .i64 most, .int .i64 bits]
  bo : Blk w ob 32 #[.slice O n oc]
  ins : InB B w O n la
  bp : Blk w Bp 41 #[.slice OP ps.length opc]
  row : CellsB B w OP (fun i => (svs ps)[i]?)
  pin : ∀ p, p ∈ ps → InB B w p.1 p.2.2.length p.2.2
  lt : Z + 2 < B ∧ cb < B ∧ ob < B ∧ Bp < B
theorem CkS.below {B Z Bp cb ob : Nat} {least most bits stop : Int} {A : Option Addr} {n : Nat} {la : List UInt8} {L M L3 : Option Addr} {q : Nat} {cl : List Nat} {O : Option Addr} {oc : Nat} {OP : Option Addr} {opc : Nat} {ps : List Pc} {w w' : World}
    (h : CkS B Z Bp cb ob least most bits stop A n la L M L3 q cl O oc OP opc ps w) (hb : Below B w w') : CkS B Z Bp cb ob least most bits stop A n la L M L3 q cl O oc OP opc ps w' := by
  obtain ⟨l1, l2, l3, l4⟩ := h.lt
  exact ⟨h.x.same (hb.block _ (by omega)), h.st.same (hb.block _ (by omega)), h.rs.same (hb.block _ (by omega)), h.data.below hb, h.l7.below hb, h.m7.below hb, h.l3.below hb, h.bc.same (hb.block _ l2), h.bo.same (hb.block _ l3), h.ins.below hb,
    h.bp.same (hb.block _ l4), h.row.below hb, fun p hp => (h.pin p hp).below hb, h.lt⟩
/-- what the ranges' bodies hold behind k rounds -/
def IK (B Bb Bn D q0 : Nat) (ds : List Nat) (w0 : World) (k : Nat) (W : World) : Prop :=
  ∃ g : KG, g.bv = .slice g.L g.pgs.length g.c ∧ g.k = k ∧ g.PA = none ∧ g.pc = 0 ∧ g.pl = [] ∧ g.pgs.length = q0 + k ∧ SP (famK B Bb Bn g) B W ∧ Out D (famK B Bb Bn g) ∧ Below B w0 W ∧
    ∀ d, d ∈ ds → Out d (famK B Bb Bn g) ∧ B ≤ d ∧ d < D ∧ W.heap[d]? = some (.deferred (some []))
theorem IK.fr {B Bb Bn D q0 : Nat} {ds : List Nat} {w0 : World} {k : Nat} {W W' : World} (h : IK B Bb Bn D q0 ds w0 k W) {F : Nat → Prop} (hF : Fr F W W') (hf : ∀ g, F g → D ≤ g ∧ g < D + 10) (hB : B ≤ D) : IK B Bb Bn D q0 ds w0 k W' := by
  obtain ⟨g, e1, e2, e3, e4, e5, e6, hs, hO, hb, hd⟩ := h
  refine ⟨g, e1, e2, e3, e4, e5, e6, hs.frd hF (fun x k hk hk' => hO x k hk (hf k hk')), hO, hb.trans (hF.below hs.le (fun k hk => by have := hf k hk; omega)), fun d hdd => ?_⟩
  obtain ⟨d1, d2, d3, d4⟩ := hd d hdd
  refine ⟨d1, d2, d3, ?_⟩
  have hlt : d < W.heap.size := (Array.getElem?_eq_some_iff.1 d4).1
  exact (hF.block d hlt (fun e => by have := hf d e; omega)).trans d4
/-- what is handed to a round's body -/
def VK (B Bb Bn D q0 : Nat) (ds : List Nat) (w0 : World) (P : List (List UInt8)) (k : Nat) (v : Value) (W : World) : Prop :=
  ∃ (x : List UInt8) (O : Option Addr) (oc : Nat) (Wp : World), v = .slice O x.length oc ∧ P[k]? = some x ∧ IK B Bb Bn D q0 ds w0 k Wp ∧ D + 10 ≤ Wp.heap.size ∧ Fr (fun g => g = D ∨ g = D + 1) Wp W ∧ W.ownsRow Wp.heap.size 5 1 (.slice O x.length oc) x.length (bys x)
theorem VK.fr {B Bb Bn D q0 : Nat} {ds : List Nat} {w0 : World} {P : List (List UInt8)} {k : Nat} {v : Value} {W W' : World} (h : VK B Bb Bn D q0 ds w0 P k v W) (hF : Fr (fun g => g = D ∨ g = D + 1) W W') : VK B Bb Bn D q0 ds w0 P k v W' := by
  obtain ⟨x, O, oc, Wp, e1, e2, e3, e4, e5, e6⟩ := h
  exact ⟨x, O, oc, Wp, e1, e2, e3, e4, e5.trans hF, own_fr e6 hF (fun g hg e => by have := (own_lt e6 hg).1; omega)⟩
/-- a round has put the piece into the book -/
theorem round_done {B Bb Bn D q0 : Nat} {ds : List Nat} {w0 : World} {k : Nat} {g : KG} {W W5 : World} {K : Nat → Prop} {L : Option Addr} {c : Nat} {pg : Pg} (hs : SP (famK B Bb Bn g) B W) (hk : g.k = k) (hq : g.pgs.length = q0 + k) (hO : Out D (famK B Bb Bn g)) (hb : Below B w0 W) (hD : D + 10 ≤ W.heap.size) (hBD : B ≤ D)
    (hd : ∀ d, d ∈ ds → Out d (famK B Bb Bn g) ∧ B ≤ d ∧ d < D ∧ W.heap[d]? = some (.deferred (some [])))
    (h5 : SP (famK B Bb Bn { g with L := L, c := c, pgs := g.pgs ++ [pg], PA := none, pc := 0, pl := [] }) B W5) (hF : Fr (fun k => ∃ x, (famK B Bb Bn g x).S k) W W5)
    (hS : ∀ x k, (famK B Bb Bn { g with L := L, c := c, pgs := g.pgs ++ [pg], PA := none, pc := 0, pl := [] } x).S k → (∃ y, (famK B Bb Bn g y).S k) ∨ W.heap.size ≤ k) (hK : ∀ g, K g → (D ≤ g ∧ g < D + 10) ∨ g < B) :
    ∀ W6, W6 = (W5.setCell ⟨Bb, 0, none⟩ (.slice L (g.pgs.length + 1) c)).setCell ⟨Bn, 0, none⟩ (.int .i64 ((k + 1 : Nat) : Int)) →
      IK B Bb Bn D q0 ds w0 (k + 1) W6 ∧ KeepAt K W W6 ∧ W6.heap[D]? = W.heap[D]? ∧ W6.heap[D + 1]? = W.heap[D + 1]? := by
  rintro W6 rfl
  have h6 := SPK.nn (SPK.bb h5 (.slice L (g.pgs.length + 1) c)) (k + 1)
  have hF6 : Fr (fun k => ∃ x, (famK B Bb Bn g x).S k) W ((W5.setCell ⟨Bb, 0, none⟩ (.slice L (g.pgs.length + 1) c)).setCell ⟨Bn, 0, none⟩ (.int .i64 ((k + 1 : Nat) : Int))) := (hF.setCell (p := ⟨Bb, 0, none⟩) (.inl ⟨.bb, rfl⟩) _).setCell (p := ⟨Bn, 0, none⟩) (.inl ⟨.nn, rfl⟩) _
  have hlen : (g.pgs ++ [pg]).length = g.pgs.length + 1 := by rw [List.length_append]; rfl
  have hout : ∀ d, d + 10 ≤ W.heap.size → Out d (famK B Bb Bn g) → Out d (famK B Bb Bn { g with bv := .slice L (g.pgs.length + 1) c, k := k + 1, L := L, c := c, pgs := g.pgs ++ [pg], PA := none, pc := 0, pl := [] }) := fun d hd ho => ho.next hd fun x kk hkk => by
    cases x with
    | bb => exact .inl ⟨.bb, hkk⟩
    | nn => exact .inl ⟨.nn, hkk⟩
    | bk => exact hS .bk kk hkk
    | pg i => exact hS (.pg i) kk hkk
    | p => exact hS .p kk hkk
  have hblk : ∀ d, d < W.heap.size → (∀ x, ¬ (famK B Bb Bn g x).S d) → ((W5.setCell ⟨Bb, 0, none⟩ (.slice L (g.pgs.length + 1) c)).setCell ⟨Bn, 0, none⟩ (.int .i64 ((k + 1 : Nat) : Int))).heap[d]? = W.heap[d]? := fun d h1 h2 => hF6.block d h1 fun ⟨x, hx⟩ => h2 x hx
  refine ⟨⟨_, by show Value.slice L (g.pgs.length + 1) c = .slice L (g.pgs ++ [pg]).length c; rw [hlen], rfl, rfl, rfl, rfl, by show (g.pgs ++ [pg]).length = _; rw [hlen]; omega, h6, hout D hD hO, hb.trans (hF6.below hs.le fun k ⟨x, hx⟩ => (hs.inb x k hx).1), fun d hdd => ?_⟩, hs.keeps hO hF6 hD hK, ?_, ?_⟩
  · obtain ⟨d1, d2, d3, d4⟩ := hd d hdd
    refine ⟨hout d (by omega) d1, d2, d3, (hblk d (by omega) fun x hx => d1 x d hx ⟨Nat.le_refl _, by omega⟩).trans d4⟩
  · exact hblk D (by omega) fun x hx => hO x D hx ⟨Nat.le_refl _, by omega⟩
  · exact hblk (D + 1) (by omega) fun x hx => hO x (D + 1) hx ⟨by omega, by omega⟩
def KP (D cb ob n : Nat) (O : Option Addr) (g : Nat) : Prop := (D + 2 ≤ g ∧ g < D + 10) ∨ g = cb ∨ g = ob ∨ (0 < n ∧ ∃ ad, O = some ad ∧ g = ad.block)
theorem pieces_iter {B Z Bp cb ob Bb Bn D q0 : Nat} {ds : List Nat} {least most bits stop : Int} {A : Option Addr} {n : Nat} {la : List UInt8} {L M L3 : Option Addr} {q : Nat} {cl : List Nat} {O : Option Addr} {oc : Nat} {OP : Option Addr} {opc : Nat} {ps : List Pc} {w0 w : World} {m : Nat}
    (hm : 4 ≤ m) (hD : w.heap.size = D) (hS : CkS B Z Bp cb ob least most bits stop A n la L M L3 q cl O oc OP opc ps w) (hnoc : n ≤ oc) (hn : n ≤ 17179869184)
    (J : Nat → World → Prop) (Jx : World → Prop) (r : Loop) (hJ0 : J 0 ((w.alloc (.deferred (some []))).alloc (.loop r))) (hJf : ∀ k W W', J k W → Fr (fun g => D + 2 ≤ g ∧ g < D + 10) W W' → J k W') (hXf : ∀ W W', Jx W → Fr (fun g => D + 2 ≤ g ∧ g < D + 10) W W' → Jx W')
    (hJI : ∀ k W, J k W → IK B Bb Bn D q0 ds w0 k W ∧ D + 1 < W.heap.size)
    (hY : ∀ k (v : Value) W, J k W → VK B Bb Bn D q0 ds w0 (piecesAny least most bits la) k v W → k < (piecesAny least most bits la).length → YieldAt Fence.wide (m - 1 - 1) Try.prog (D + 1) #[v] W fun e W' => (e = .returned (.bool true) ∧ J (k + 1) W' ∧ KeepAt (KP D cb ob n O) W W') ∨ (e = .returned (.bool false) ∧ Jx W' ∧ KeepAt (KP D cb ob n O) W W')) :
    CallsIn Fence.wide (m - 1) Try.prog 34 (#[.func (.yield (D + 1)) #[] #[]] ++ #[.pointer (some ⟨cb, 0, none⟩), .pointer (some ⟨ob, 0, none⟩)]) ((w.alloc (.deferred (some []))).alloc (.loop r)) fun e W' => (∃ v, e = .returned v) ∧ (J (piecesAny least most bits la).length W' ∨ Jx W') := by
  have hsz : ((w.alloc (.deferred (some []))).alloc (.loop r)).heap.size = D + 2 := by simp [hD]
  have hbl : Below w.heap.size w ((w.alloc (.deferred (some []))).alloc (.loop r)) := ((Below.refl _ _).alloc (Nat.le_refl _) _).alloc (by simp) _
  have := pieces1_gen (m - 1) (by omega) (D + 1) cb ob least most bits O n oc la J Jx _ (hS.bc.below hbl) (hS.bo.below hbl) (hS.ins.1.below hbl) hnoc hn hJ0 (by rw [hsz]; exact hJf) (by rw [hsz]; exact hXf) (by
    rw [hsz]
    intro k x O' oc' Wp W hJ hx hs hb hO
    have hk : k < (piecesAny least most bits la).length := (List.getElem?_eq_some_iff.1 hx).1
    have hJW : J k W := hJf _ _ _ hJ (Fr.of_below hb)
    exact hY k _ W hJW ⟨x, O', oc', Wp, rfl, hx, (hJI k Wp hJ).1, by omega, Fr.of_below hb, hO⟩ hk)
  exact this
end Go.Proofs.Ytglkahonejblpaa
