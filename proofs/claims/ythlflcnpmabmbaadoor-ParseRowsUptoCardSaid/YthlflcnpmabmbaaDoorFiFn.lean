/-
  The finder in memory, and the places of a word as a plain list. Conditions: each lemma's own.
-/
import Derived.Test.YthlflcnpmabmbaaDoorFiMap
import Derived.Test.YthlflcnpmabmbaaDoorFiRng
import Derived.Test.YthlflcnpmabmbaaDoorFiCl
namespace Go.Proofs.YthlflcnpmabmbaaDoor
open Go.RowKit
open Go.ChangeShapes (lits)

/-! ### the places of a word -/
def wordAt (l : List UInt8) (i : Nat) : UInt8 × UInt8 × UInt8 := (l.getD i 0, l.getD (i + 1) 0, l.getD (i + 2) 0)
def plc (l : List UInt8) (k : Nat) (t : UInt8 × UInt8 × UInt8) : List Nat := (List.range k).filter (fun i => decide (wordAt l i = t))
theorem plc_succ (l : List UInt8) (k : Nat) (t : UInt8 × UInt8 × UInt8) : plc l (k + 1) t = plc l k t ++ if wordAt l k = t then [k] else [] := by
  unfold plc
  rw [List.range_succ, List.filter_append]
  by_cases h : wordAt l k = t <;> simp [h]
theorem plc_length (l : List UInt8) (k : Nat) (t : UInt8 × UInt8 × UInt8) : (plc l k t).length ≤ k := by
  unfold plc
  exact Nat.le_trans (List.length_filter_le _ _) (by simp)
def ofN (l : List Nat) : List Int := l.map Int.ofNat
def klt (t : UInt8 × UInt8 × UInt8) : Lit := kl t.1 t.2.1 t.2.2
theorem klt_inj {s t : UInt8 × UInt8 × UInt8} (h : klt s = klt t) : s = t := by
  obtain ⟨h1, h2, h3⟩ := kl_inj h
  obtain ⟨a, b, c⟩ := s
  obtain ⟨a', b', c'⟩ := t
  simp_all
def dat (zs : List Int) : DataW Unit := if zs = [] then .nil else .slice (lits .i64 zs) []
/-- the map reads as the places below k -/
def GD (l : List UInt8) (k : Nat) (D : DataW Unit) : Prop := Maps.IsMap D ∧ ∀ t, D.atKey (klt t) .nil = dat (ofN (plc l k t))
theorem gd_start (l : List UInt8) : GD l 0 (.map []) := ⟨⟨_, rfl⟩, fun _ => rfl⟩
theorem lits_inj {a b : List Int} (h : lits (H := Unit) .i64 a = lits .i64 b) : a = b := by
  unfold lits at h
  exact (List.map_inj_right (fun x y hxy => by simpa using hxy)).1 h
/-- what the slice at a key owns -/
theorem gd_at {l : List UInt8} {k base : Nat} {e : TypeId} {D : DataW Unit} {w : World} {v : Value} {zs : List Int} {t : UInt8 × UInt8 × UInt8} (h : GD l k D) (hat : D.atKey (klt t) .nil = rowDatum .i64 v zs) (ho : w.ownsInts base e .i64 v zs) : zs = ofN (plc l k t) := by
  rw [h.2 t] at hat
  unfold dat at hat
  rcases ho.datum (H := Unit) with ⟨h1, h2⟩ | h1
  · rw [h1] at hat
    split at hat
    · rename_i h3; rw [h2, h3]
    · cases hat
  · rw [h1] at hat
    split at hat
    · cases hat
    · simp only [DataW.slice.injEq, and_true] at hat
      exact (lits_inj hat).symm
theorem gd_step {l : List UInt8} {k base : Nat} {e : TypeId} {D : DataW Unit} {w : World} {v : Value} (h : GD l k D) (ho : w.ownsInts base e .i64 v (ofN (plc l k (wordAt l k)) ++ [(k : Int)])) : GD l (k + 1) (D.put (klt (wordAt l k)) (rowDatum .i64 v (ofN (plc l k (wordAt l k)) ++ [(k : Int)]))) := by
  refine ⟨h.1.put _ _, fun t => ?_⟩
  by_cases hk : t = wordAt l k
  · subst hk
    rw [show (D.put (klt (wordAt l k)) (rowDatum .i64 v (ofN (plc l k (wordAt l k)) ++ [(k : Int)]))).atKey (klt (wordAt l k)) .nil = _ from Maps.atKey_put_same h.1 (kl_key _ _ _) _ _, ho.datum_pos (by simp), plc_succ, if_pos rfl]
    unfold dat ofN
    simp
  · rw [Maps.atKey_put_other (fun e => hk (klt_inj e)), h.2 t, plc_succ, if_neg (fun e => hk e.symm), List.append_nil]

/-! ### the finder in memory -/
structure FP where
  L : Nat
  T : Nat
  fb : Nat
  mb : Nat
  base : Nat
  O : Option Addr
  oc : Nat
  l : List UInt8
  dict : Int
  w0 : World
def FinP (p : FP) (g : Nat) : Prop := g ≠ p.fb ∧ p.L ≤ g ∧ g < p.T
structure Fi (p : FP) (pos : Nat) (w : World) : Prop where
  b : Blk w p.fb 102 #[.slice p.O p.l.length p.oc, .int .i64 p.dict, .int .i64 pos, .map (some p.mb)]
  d : In w p.O p.l.length p.l
  ds : 0 < p.l.length → ∀ ad, p.O = some ad → FinP p ad.block
  cap : p.l.length ≤ p.oc
  m : ∃ D : DataW Unit, w.ownsGroups Tryd.prog 104 p.base 3 .i64 p.mb (p.l.length - 2) D ∧ GD p.l (p.l.length - 2) D
  sh : w.Shuns p.mb (fun g => ¬ FinP p g)
  ms : FinP p p.mb
  fs : p.L ≤ p.fb ∧ p.fb < p.T
  ts : p.T ≤ w.heap.size
  st : ∀ g, FinP p g → w.heap[g]? = p.w0.heap[g]?
theorem groups_same {P : Program} {k : TypeId} {base : Nat} {e : TypeId} {q : IntKind} {b n : Nat} {D : DataW Unit} {w w' : World} (h : w.ownsGroups P k base e q b n D) (hb' : w'.heap[b]? = w.heap[b]?)
    (hs : ∀ es clock, w.heap[b]? = some (.map es clock) → ∀ x ∈ es.toList, ∀ g, x.val.ownBlock = some g → w'.heap[g]? = w.heap[g]?) : w'.ownsGroups P k base e q b n D := by
  obtain ⟨es, clock, hb, F, hsz, rfl, hbb, hlen, hap⟩ := h
  have keep : ∀ x ∈ es.toList, ∀ zs, w.ownsInts base e q x.val zs → w'.ownsInts base e q x.val zs := fun x hx zs ho => ⟨own_same ho.1 (fun g hg => hs es clock hb x hx g hg), ho.2⟩
  have hst : ∀ x ∈ es.toList, ∀ z, rowElem (H := Unit) w base e q x.val = some z → rowElem w' base e q x.val = some z := fun x hx z hz => by
    obtain ⟨zs, ho, rfl⟩ := rowElem_inv hz
    exact rowElem_mk (keep x hx zs ho)
  obtain ⟨F1, hmap, _⟩ := F.stay hst
  refine ⟨es, clock, hb'.trans hb, F1, hsz, by rw [hmap], hbb, fun x hx zs ho => ?_, hap⟩
  obtain ⟨y, hy⟩ := F.reads x hx
  obtain ⟨z, hz, _⟩ := WideElems.rd_val hy
  obtain ⟨zs0, ho0, _⟩ := rowElem_inv hz
  rw [ho.unique (keep x hx zs0 ho0)]
  exact hlen x hx zs0 ho0
theorem groups_rows {P : Program} {k : TypeId} {base : Nat} {e : TypeId} {q : IntKind} {b n : Nat} {D : DataW Unit} {w : World} (h : w.ownsGroups P k base e q b n D) : b < w.heap.size ∧ ∀ es clock, w.heap[b]? = some (.map es clock) → ∀ x ∈ es.toList, ∀ g, x.val.ownBlock = some g → base ≤ g ∧ g < w.heap.size := by
  obtain ⟨es', clock', hb', F, _⟩ := h
  refine ⟨(Array.getElem?_eq_some_iff.1 hb').1, fun es clock hb x hx g hg => ?_⟩
  obtain ⟨rfl, rfl⟩ : es' = es ∧ clock' = clock := by rw [hb'] at hb; simpa using hb
  obtain ⟨y, hy⟩ := F.reads x hx
  obtain ⟨z, hz, _⟩ := WideElems.rd_val hy
  obtain ⟨zs, hoi, _⟩ := rowElem_inv hz
  exact hoi.1.lt g hg
theorem groups_below {P : Program} {k : TypeId} {base : Nat} {e : TypeId} {q : IntKind} {b n : Nat} {D : DataW Unit} {w w' : World} (h : w.ownsGroups P k base e q b n D) (hb : Below w.heap.size w w') : w'.ownsGroups P k base e q b n D :=
  groups_same h (hb.block _ (groups_rows h).1) (fun es clock he x hx g hg => hb.block g ((groups_rows h).2 es clock he x hx g hg).2)
theorem groups_off {P : Program} {k : TypeId} {base : Nat} {e : TypeId} {q : IntKind} {b n : Nat} {D : DataW Unit} {w : World} (h : w.ownsGroups P k base e q b n D) {f : Nat} {t : TypeId} {cs : Array Value} (hf : Blk w f t cs) (hne : e ≠ t) : ∀ es clock, w.heap[b]? = some (.map es clock) → ∀ x ∈ es.toList, ∀ g, x.val.ownBlock = some g → g ≠ f := by
  obtain ⟨es', clock', hb', F, _⟩ := h
  intro es clock hb x hx g hg
  obtain ⟨rfl, rfl⟩ : es' = es ∧ clock' = clock := by rw [hb'] at hb; simpa using hb
  obtain ⟨y, hy⟩ := F.reads x hx
  obtain ⟨z, hz, _⟩ := WideElems.rd_val hy
  obtain ⟨zs, hoi, _⟩ := rowElem_inv hz
  exact fun e1 => own_ne hoi.1 hf hne (by rw [hg, e1])
theorem In.of_own {w : World} {B : Nat} {A : Option Addr} {n c : Nat} {l : List UInt8} (h : w.ownsRow B 5 1 (.slice A n c) n (bys l)) (hn : n ≤ 140737488351232) : In w A n l :=
  ⟨Rd.of_own h, fun _ _ had => (own_lt h (own_addr h had)).2, hn⟩
/-- 'm[k]', in whatever world has the map's block -/
theorem groups_look {P : Program} {t k E : TypeId} {base : Nat} {e : TypeId} {q : IntKind} {b n : Nat} {D : DataW Unit} {w : World} {key : Value} {kl : Lit} {No : Nat → Prop} (h : w.ownsGroups P k base e q b n D) (K : Maps.Keyed P k) (ht : P.underlying t = some (.map k E))
    (hz : ∀ u : World, (zeroValue E).run P u = .ok (.slice none 0 0) u) (hkey : keyOf P k key = some kl) (sh : w.Shuns b No) :
    ∃ v zs, (∀ w' : World, w'.heap[b]? = w.heap[b]? → (Instr.lookup t (.map (some b)) key false).run P w' = .ok v w') ∧ D.atKey kl .nil = rowDatum q v zs ∧ w.ownsInts base e q v zs ∧ ∀ g, v.ownBlock = some g → ¬ No g := by
  obtain ⟨es, clock, hb, F, hs, rfl, hbb, hlen, hap⟩ := h
  rcases Maps.fit_look false K ht (hz w) hb F hkey with ⟨_, hno, hat⟩ | ⟨e0, y, hm0, h3, _, hR, hat, _⟩
  · refine ⟨.slice none 0 0, [], fun w' hw => ?_, hat _, World.ownsInts_nil _ _ _ _, by simp [Value.ownBlock]⟩
    have hb' := hw.trans hb
    rcases K.find w' hkey es.toList F.keys with ⟨h1, _⟩ | ⟨j, e1, _, h2, h4⟩
    · simp [Instr.lookup, run_underlying ht, MapKept.run_getObj_map hb', K.check w' _ hkey, h1, hz, Result.andThen]
    · exact absurd h4 (hno e1 (List.mem_of_getElem? h2))
  · obtain ⟨zs, ho, rfl⟩ := rowElem_inv hR
    refine ⟨e0.val, zs, fun w' hw => ?_, hat _, ho, fun g hg => sh es clock hb e0 hm0 g hg⟩
    have hb' := hw.trans hb
    rcases K.find w' hkey es.toList F.keys with ⟨_, h1⟩ | ⟨j, e1, h1, h2, h4⟩
    · exact absurd h3 (h1 e0 hm0)
    · obtain ⟨j', hj'⟩ := List.getElem?_of_mem hm0
      have e3 := keys_one F h2 hj' (h4.trans h3.symm)
      subst e3
      rw [h2] at hj'
      obtain rfl := Option.some.inj hj'
      simp [Instr.lookup, run_underlying ht, MapKept.run_getObj_map hb', K.check w' _ hkey, h1, Result.andThen]
/-- its parts but the head's block are as they were -/
theorem Fi.move {p : FP} {pos pos' : Nat} {w w' : World} (h : Fi p pos w) (hs : ∀ g, FinP p g → w'.heap[g]? = w.heap[g]?) (hz : w.heap.size ≤ w'.heap.size) (hb : Blk w' p.fb 102 #[.slice p.O p.l.length p.oc, .int .i64 p.dict, .int .i64 pos', .map (some p.mb)]) : Fi p pos' w' := by
  obtain ⟨D, h1, h2⟩ := h.m
  refine ⟨hb, ⟨h.d.1.keep0 fun h0 ad had => hs _ (h.ds h0 ad had), fun h0 ad had => Nat.lt_of_lt_of_le (h.d.2.1 h0 ad had) hz, h.d.2.2⟩, h.ds, h.cap, ⟨D, groups_same h1 (hs _ h.ms) (fun es clock hb x hx g hg => hs g (Classical.byContradiction fun hn => h.sh es clock hb x hx g hg hn)), h2⟩, fun es clock hb => h.sh es clock ((hs _ h.ms) ▸ hb), h.ms, h.fs, Nat.le_trans h.ts hz, fun g hg => (hs g hg).trans (h.st g hg)⟩
theorem Fi.keep {p : FP} {pos : Nat} {w w' : World} (h : Fi p pos w) (hs : ∀ g, p.L ≤ g → g < p.T → w'.heap[g]? = w.heap[g]?) (hz : w.heap.size ≤ w'.heap.size) : Fi p pos w' :=
  h.move (fun g hg => hs g hg.2.1 hg.2.2) hz (h.b.same (hs _ h.fs.1 h.fs.2))
theorem Fi.below {p : FP} {pos : Nat} {w w' : World} (h : Fi p pos w) (hb : Below w.heap.size w w') : Fi p pos w' :=
  h.keep (fun g _ hg => hb.block g (Nat.lt_of_lt_of_le hg h.ts)) hb.size
theorem Fi.fr {p : FP} {pos : Nat} {S : Nat → Prop} {w w' : World} (h : Fi p pos w) (hf : Fr S w w') (hS : ∀ g, p.L ≤ g → g < p.T → ¬ S g) : Fi p pos w' :=
  h.keep (fun g h1 h2 => hf.block g (Nat.lt_of_lt_of_le h2 h.ts) (hS g h1 h2)) hf.size
theorem Fi.pos {p : FP} {pos pos' : Nat} {w : World} (h : Fi p pos w) : Fi p pos' (w.setCell ⟨p.fb, 2, none⟩ (.int .i64 pos')) := by
  refine h.move (fun g hg => Below.heap_setCell _ _ _ _ hg.1) (by simp [World.setCell]) ?_
  have := h.b.set_ 2 (.int .i64 pos')
  simpa using this
end Go.Proofs.YthlflcnpmabmbaaDoor
