/-
  A map of slices that the call makes, at 'm[k] = append(m[k], v)' where the translation lays an entry, the append and the entry's store; keys of three bytes. Conditions: each law's own.
-/
import Derived.Test.YthlflcnpmabmbaaDoorCdBase
import Derived.Maps.OwnRows
import Derived.Maps.GroupsBeside
import Derived.WideKeyEntry
import Derived.DeepKeys4
namespace Go.Proofs.YthlflcnpmabmbaaDoor
open Go Go.ChangeMaps Go.MapKept Go.ChangeShapes Go.RowKit
open Go.WideElems (Fit rd rg pl rd_val)
open Go.Maps (Keyed)
open Go.WideMaps (KeyLaw)

section
variable {H : Type} {P : Program} {k t E : TypeId} {R : Value → Option (DataW H × List MemPlace)} {es : Array MapEntry} {clock : Nat} {b : Nat}
theorem keys_one (F : Fit P k R es clock) {j j' : Nat} {x y : MapEntry} (hx : es.toList[j]? = some x) (hy : es.toList[j']? = some y) (he : x.key = y.key) : j = j' := by
  have hn : es.toList.Pairwise (fun x y => x.key ≠ y.key) := ((stamped_iff es clock).1 F.stamped).2.2
  rw [List.pairwise_iff_getElem] at hn
  obtain ⟨h1, e1⟩ := List.getElem?_eq_some_iff.1 hx
  obtain ⟨h2, e2⟩ := List.getElem?_eq_some_iff.1 hy
  rcases Nat.lt_trichotomy j j' with h | h | h
  · exact absurd (by rw [e1, e2]; exact he) (hn j j' h1 h2 h)
  · exact h
  · exact absurd (by rw [e1, e2]; exact he.symm) (hn j' j h2 h1 h)
theorem update_all (K : Keyed P k) (ht : P.underlying t = some (.map k E)) (F : Fit P k R es clock) {key val : Value} {kl : Lit} (hkey : keyOf P k key = some kl) :
    ∃ es' clock', ∀ w : World, w.heap[b]? = some (.map es clock) → (Instr.mapUpdate t (.map (some b)) key val).run P w = .ok () (setBlock w b (.map es' clock')) := by
  by_cases hx : ∃ (j : Nat) (e0 : MapEntry), es.toList[j]? = some e0 ∧ e0.key = key
  · obtain ⟨j, e0, h2, h3⟩ := hx
    have hj : es[j]? = some e0 := by simpa using h2
    refine ⟨es.modify j (fun e' => { e' with key := key, val := val }), clock, fun w hb => ?_⟩
    rcases K.find w hkey es.toList F.keys with ⟨_, h⟩ | ⟨j', e1, h1, h2', h3'⟩
    · exact absurd h3 (h e0 (List.mem_of_getElem? h2))
    · obtain rfl : j' = j := keys_one F h2' h2 (h3'.trans h3.symm)
      simp [Instr.mapUpdate, run_underlying ht, MapKept.run_getObj_map hb, K.check w false hkey, h1, hj, h3, K.stays w hkey, MapKept.run_setObj_map _ hb, Result.andThen, setBlock]
  · refine ⟨es.push ⟨key, val, clock⟩, clock + 1, fun w hb => ?_⟩
    rcases K.find w hkey es.toList F.keys with ⟨h1, h2⟩ | ⟨j', e1, h1, h2', h3'⟩
    · simp [Instr.mapUpdate, run_underlying ht, MapKept.run_getObj_map hb, K.check w false hkey, h1, MapKept.run_setObj_map _ hb, Result.andThen, setBlock]
    · exact absurd ⟨_, _, h2', h3'⟩ hx
end
section
variable {H : Type} {P : Program} {k t E e : TypeId} {q : IntKind} {base b n : Nat} {D : DataW H} {w : World}
theorem grownBy_set {o o' : Obj} (_hb : w.heap[b]? = some o') : w.grownBy (setBlock w b o) (some b) := by
  refine ⟨rfl, rfl, rfl, by simp [setBlock], fun i _ hi => ?_⟩
  have hne : i ≠ b := fun e1 => hi (by rw [e1])
  show (w.heap.setIfInBounds b o)[i]? = _
  rw [Array.getElem?_setIfInBounds_ne hne.symm]
theorem set_same {o o' : Obj} (hb : w.heap[b]? = some o') : (setBlock w b o).heap[b]? = some o := by
  have := (Array.getElem?_eq_some_iff.1 hb).1
  show (w.heap.setIfInBounds b o)[b]? = _
  simp [this]
theorem set_set (o o' : Obj) : setBlock (setBlock w b o) b o' = setBlock w b o' := by
  unfold setBlock
  simp
/-- the entry at a key, and the way back by its store -/
theorem groups_entry (h : w.ownsGroups P k base e q b n D) (KL : KeyLaw P k) (ht : P.underlying t = some (.map k E)) (hz : ∀ u : World, (zeroValue E).run P u = .ok (.slice none 0 0) u) (hn : n < maxLen) {key : Value} {kl : Lit} (hkey : keyOf P k key = some kl) :
    ∃ (v : Value) (zs : List Int) (st : Nat) (w1 : World), (Instr.mapEntry t (.map (some b)) key).run P w = .ok (.tuple #[v, .int .i64 st]) w1 ∧ w.grownBy w1 (some b) ∧ D.atKey kl .nil = rowDatum q v zs ∧ w1.ownsInts base e q v zs ∧ zs.length ≤ n ∧
      ∀ (w2 : World) (v' : Value) (zs' : List Int), w1.grownBy w2 v.ownBlock → w2.ownsInts base e q v' zs' → zs'.length ≤ n + 1 → (v'.ownBlock = v.ownBlock ∨ ∃ g, v'.ownBlock = some g ∧ w1.heap.size ≤ g) →
        ∃ w3, (Instr.entryStore t (.map (some b)) (.int .i64 st) v').run P w2 = .ok () w3 ∧ w3.ownsGroups P k base e q b (n + 1) (D.put kl (rowDatum q v' zs')) ∧ w2.grownBy w3 (some b) := by
  have K := Keyed.of_law KL
  obtain ⟨es, clock, hb, F, hs, rfl, hbb, hlen, hap⟩ := h
  obtain ⟨v0, st, es1, clock1, hE, hwho, hS⟩ := WideElems.entry_then_store KL ht hz hb F hkey
  have hrun : ∃ zs, (DataW.map ((es.toList.map (rg P k (rowElem (H := H) w base e q))).foldr DataW.insert [])).atKey kl .nil = rowDatum q v0 zs ∧ w.ownsInts base e q v0 zs ∧ zs.length ≤ n ∧
      w.groupBack P t k base e q b n (.map ((es.toList.map (rg P k (rowElem (H := H) w base e q))).foldr DataW.insert [])) key kl v0 := by
    rcases Maps.fit_look false K ht (hz w) hb F hkey with ⟨_, hno, hat⟩ | ⟨e0, y, hm0, h3, _, hR, hat, _⟩
    · obtain rfl : v0 = .slice none 0 0 := by
        rcases hwho with ⟨e0, hm, h3, _⟩ | ⟨_, h⟩
        · exact absurd h3 (hno e0 hm)
        · exact h
      exact ⟨[], hat _, World.ownsInts_nil _ _ _ _, Nat.zero_le _, groups_back K ht hb F hs hn hbb hlen hap hkey (fun x _ _ => by cases x.val.ownBlock <;> simp [Value.ownBlock]) (by simp [Value.ownBlock])⟩
    · obtain rfl : v0 = e0.val := by
        rcases hwho with ⟨e1, hm, h4, h5⟩ | ⟨h, _⟩
        · obtain ⟨j, hj⟩ := List.getElem?_of_mem hm
          obtain ⟨j', hj'⟩ := List.getElem?_of_mem hm0
          have := keys_one F hj hj' (h4.trans h3.symm)
          subst this
          rw [hj] at hj'
          rw [h5, Option.some.inj hj']
        · exact absurd h3 (h e0 hm0)
      obtain ⟨zs, ho, rfl⟩ := rowElem_inv hR
      refine ⟨zs, hat _, ho, hlen e0 hm0 zs ho, groups_back K ht hb F hs hn hbb hlen hap hkey (fun x hx hne => hap x hx e0 hm0 (by rw [h3]; exact hne)) (fun e1 => ?_)⟩
      have := (ho.1.lt b e1).1
      omega
  obtain ⟨zs, hat, ho, hzl, hback⟩ := hrun
  have hblt : b < w.heap.size := (Array.getElem?_eq_some_iff.1 hb).1
  have hg1 : w.grownBy (setBlock w b (.map es1 clock1)) (some b) := grownBy_set hb
  have hvb : v0.ownBlock ≠ some b := fun e1 => by
    have := (ho.1.lt b e1).1
    omega
  refine ⟨v0, zs, st, _, hE, hg1, hat, ho.kept hg1 (.inr hvb), hzl, fun w2 v' zs' hg2 hown' hl' hloc => ?_⟩
  have hsz1 : (setBlock w b (.map es1 clock1)).heap.size = w.heap.size := by simp [setBlock]
  have hb2 : w2.heap[b]? = some (.map es1 clock1) := (hg2.block b (by rw [hsz1]; exact hblt) (fun e1 => hvb e1.symm)).trans (set_same hb)
  obtain ⟨es', clock', hrS, hrU⟩ := hS w2 v' hb2
  obtain ⟨es'', clock'', hall⟩ := update_all (b := b) (val := v') K ht F hkey
  have e1 := hall w hb
  rw [hrU] at e1
  have hgu : w.grownBy (setBlock w2 b (.map es clock)) v0.ownBlock := by
    refine ⟨hg2.os, hg2.tape, hg2.output, by have := hg2.size; rw [hsz1] at this; simpa [setBlock] using this, fun i hi hne => ?_⟩
    by_cases e2 : i = b
    · subst e2
      exact (set_same hb2).trans hb.symm
    · have h3 := (grownBy_set (o := .map es clock) hb2).block i (by have := hg2.size; rw [hsz1] at this; omega) (fun e3 => e2 (Option.some.inj e3))
      have h4 := hg2.block i (by rw [hsz1]; exact hi) hne
      have h5 := hg1.block i hi (fun e3 => e2 (Option.some.inj e3))
      exact h3.trans (h4.trans h5)
  have own_ne : v'.ownBlock = none ∨ v'.ownBlock ≠ some b := by
    cases hu : v'.ownBlock with
    | none => exact .inl rfl
    | some g =>
      refine .inr (fun e2 => ?_)
      have := (hown'.1.lt g hu).1
      cases e2
      omega
  have hown2 : (setBlock w2 b (.map es clock)).ownsInts base e q v' zs' := hown'.kept (grownBy_set hb2) own_ne
  obtain ⟨w3, r1, r2, _⟩ := hback _ v' zs' hgu hown2 hl' (hloc.imp id (fun ⟨g, h1, h2⟩ => ⟨g, h1, by rw [hsz1] at h2; exact h2⟩))
  have e2 := hall _ (set_same (o := .map es clock) hb2)
  rw [r1] at e2
  have e3 : w3 = setBlock w2 b (.map es'' clock'') := by
    injection e2 with _ e2
    rw [e2, set_set]
  have e4 : (Obj.map es' clock') = .map es'' clock'' := by
    injection e1 with _ e1
    have h1 := set_same (o := .map es' clock') hb
    rw [e1, set_same hb] at h1
    exact (Option.some.inj h1).symm
  refine ⟨_, hrS, ?_, grownBy_set hb2⟩
  rw [e4, ← e3]
  exact r2
end

/-! ### keys of three bytes -/
def u8v (a : UInt8) : Value := .int .u8 (a.toNat : Int)
def tri (a b c : UInt8) : Value := .agg #[u8v a, u8v b, u8v c]
theorem keyLaw : KeyLaw Tryd.prog 104 := deep_law_laid (P := Tryd.prog) (by kernel_rfl) (m := 2) (by omega) (k := 104) (of_decide_eq_true (by kernel_rfl)) (by kernel_rfl) (by rw [Tryd.underlying104])
def kl (a b c : UInt8) : Lit := .string (keyBytes [.int .u8 a.toNat, .int .u8 b.toNat, .int .u8 c.toNat])
theorem cellsW : Tryd.prog.cellsOf 104 = 3 := by kernel_rfl
theorem cells8 : Tryd.prog.cellsOf 5 = 1 := by kernel_rfl
theorem keyTypeW : Tryd.prog.keyType 104 = true := by kernel_rfl
theorem typesW : ∃ m, Tryd.prog.types.size = m + 2 := ⟨Tryd.prog.types.size - 2, by have : 2 ≤ Tryd.prog.types.size := of_decide_eq_true (by kernel_rfl); omega⟩
theorem keyOf_tri (a b c : UInt8) : keyOf Tryd.prog 104 (tri a b c) = some (kl a b c) := by
  obtain ⟨m, hm⟩ := typesW
  have hf : ∀ x : UInt8, (Lit.int .u8 (x.toNat : Int)).wf = true := fun x => by
    have := x.toNat_lt
    have h1 : IntKind.u8.min = 0 := rfl
    have h2 : IntKind.u8.max = 255 := rfl
    simp only [Lit.wf, h1, h2, Bool.and_eq_true, decide_eq_true_eq]
    omega
  unfold keyOf tri u8v
  simp only [Tryd.underlying104]
  rw [if_pos (by simp [keyTypeW, Value.formed, Tryd.underlying104, cellsW]), hm]
  unfold Program.keyLits
  simp only [Tryd.underlying104, Value.cells]
  rw [if_pos (by rw [cellsW]; rfl), show List.range 3 = [0, 1, 2] from rfl, List.mapM_cons, List.mapM_cons, List.mapM_cons, List.mapM_nil]
  simp [cells8, Program.keyLits, Tryd.underlying5, hf, kl]
theorem kl_inj {a b c a' b' c' : UInt8} (h : kl a b c = kl a' b' c') : a = a' ∧ b = b' ∧ c = c' := by
  have h1 := keyOf_tri a b c
  rw [h] at h1
  have h2 := keyLaw.inj h1 (keyOf_tri a' b' c')
  unfold tri u8v at h2
  simp only [Value.agg.injEq, Array.mk.injEq, List.cons.injEq, Value.int.injEq, true_and, and_true, Int.natCast_inj] at h2
  exact ⟨UInt8.toNat_inj.1 h2.1, UInt8.toNat_inj.1 h2.2.1, UInt8.toNat_inj.1 h2.2.2⟩
theorem kl_key (a b c : UInt8) : WideAt.IsKeyLit (kl a b c) := (Keyed.of_law keyLaw).key (keyOf_tri a b c)
theorem zero39 (w : World) : (zeroValue 61).run Tryd.prog w = .ok (.slice none 0 0) w := by kernel_rfl
end Go.Proofs.YthlflcnpmabmbaaDoor
