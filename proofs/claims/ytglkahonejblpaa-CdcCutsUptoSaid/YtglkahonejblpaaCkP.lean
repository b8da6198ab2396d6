/-
  What the law CdcCuts holds between two rounds: the book of pages in its box, the count in its box. Conditions: each lemma's own.
-/
import Derived.Test.YtglkahonejblpaaWsP
import Derived.Test.YtglkahonejblpaaRangeL
namespace Go.Proofs.Ytglkahonejblpaa
open Go.RowKit

section
variable {ι : Type} {C C' : ι → Cmp} {B : Nat} {w w' : World}
theorem SP.frd {F : Nat → Prop} (h : SP C B w) (hF : Fr F w w') (hd : ∀ x g, (C x).S g → ¬ F g) : SP C B w' :=
  ⟨fun x => h.st x w w' (h.hold x) fun g hg => hF.block g (h.inb x g hg).2 (hd x g hg), h.st, fun x g hg => ⟨(h.inb x g hg).1, Nat.lt_of_lt_of_le (h.inb x g hg).2 hF.size⟩, h.sep, Nat.le_trans h.le hF.size⟩
/-- a part that held nothing holds what is new -/
theorem SP.anew {F : Nat → Prop} (h : SP C B w) (hF : Fr F w w') (hd : ∀ x g, (C x).S g → ¬ F g) (i : ι) (hC : ∀ x, x ≠ i → C' x = C x) (hP : (C' i).P w') (hst : (C' i).stable) (hS : ∀ g, (C' i).S g → w.heap.size ≤ g ∧ g < w'.heap.size) : SP C' B w' := by
  have h' := h.frd hF hd
  have dec : ∀ x, x = i ∨ x ≠ i := fun x => Classical.em _
  refine ⟨fun x => ?_, fun x => ?_, fun x g hg => ?_, fun x y hxy g hg hg' => ?_, h'.le⟩
  · rcases dec x with e | e
    · rw [e]; exact hP
    · rw [hC x e]; exact h'.hold x
  · rcases dec x with e | e
    · rw [e]; exact hst
    · rw [hC x e]; exact h'.st x
  · rcases dec x with e | e
    · rw [e] at hg
      exact ⟨Nat.le_trans h.le (hS g hg).1, (hS g hg).2⟩
    · rw [hC x e] at hg; exact h'.inb x g hg
  · have far : ∀ x, x ≠ i → (C' i).S g → ¬ (C' x).S g := fun x hx h1 h2 => by
      rw [hC x hx] at h2
      have := (hS g h1).1
      have := (h.inb x g h2).2
      omega
    rcases dec x with e | e
    · rw [e] at hg
      exact far y (fun e' => hxy (e.trans e'.symm)) hg hg'
    · rcases dec y with e' | e'
      · rw [e'] at hg'
        exact far x e hg' hg
      · rw [hC x e] at hg; rw [hC y e'] at hg'; exact h.sep x y hxy g hg hg'
/-- apart from ten blocks from D on -/
def Out (D : Nat) (C : ι → Cmp) : Prop := ∀ x g, (C x).S g → ¬ (D ≤ g ∧ g < D + 10)
theorem Out.next {D n : Nat} (h : Out D C) (hn : D + 10 ≤ n) (hS : ∀ x g, (C' x).S g → (∃ y, (C y).S g) ∨ n ≤ g) : Out D C' := fun x g hg => by
  rcases hS x g hg with ⟨y, hy⟩ | h1
  · exact h y g hy
  · omega
theorem SP.keeps {D : Nat} {K : Nat → Prop} (h : SP C B w) (hO : Out D C) (hF : Fr (fun k => ∃ x, (C x).S k) w w') (hD : D + 10 ≤ w.heap.size) (hK : ∀ g, K g → (D ≤ g ∧ g < D + 10) ∨ g < B) : KeepAt K w w' := by
  refine ⟨hF.size, fun g hg => hF.block g ?_ ?_⟩
  · have := h.le
    rcases hK g hg with e | e <;> omega
  · rintro ⟨x, hx⟩
    rcases hK g hg with e | e
    · exact hO x g hx e
    · have := (h.inb x g hx).1; omega
end
structure KG where
  bv : Value
  k : Nat
  L : Option Addr
  c : Nat
  pgs : List Pg
  PA : Option Addr
  pc : Nat
  pl : List UInt8
inductive Ik where
  | bb | nn | bk | pg (i : Nat) | p
section
variable (B Bb Bn : Nat)
def famK (g : KG) : Ik → Cmp
  | .bb => blkC Bb 35 #[g.bv]
  | .nn => blkC Bn 3 #[.int .i64 (g.k : Int)]
  | .bk => ownC B 73 3 (.slice g.L g.pgs.length g.c) g.pgs.length (pgv g.pgs)
  | .pg i => optC pgC g.pgs[i]?
  | .p => ownC B 5 1 (.slice g.PA g.pl.length g.pc) g.pl.length (bys g.pl)
end
section
variable {B Bb Bn : Nat} {w w' : World} {g : KG}
/-- the last piece goes into the book -/
theorem SPK.keep (h : SP (famK B Bb Bn g) B w) {O L' : Option Addr} {oc c' : Nat} {mk : UInt8} (hrow : w'.ownsRow B 73 3 (.slice L' (g.pgs.length + 1) c') (g.pgs.length + 1) (pgv (g.pgs ++ [⟨g.PA, g.pc, g.pl.length, O, oc, mk⟩])))
    (hpg : PgIn w' ⟨g.PA, g.pc, g.pl.length, O, oc, mk⟩) (hF : Fr (fun k => some k = (Value.slice g.L g.pgs.length g.c).ownBlock ∨ some k = (Value.slice g.PA g.pl.length g.pc).ownBlock) w w')
    (hL : ∀ k, (Value.slice L' (g.pgs.length + 1) c').ownBlock = some k → some k = (Value.slice g.L g.pgs.length g.c).ownBlock ∨ w.heap.size ≤ k)
    (hO : ∀ k, (Value.slice O (g.pl.length + 1) oc).ownBlock = some k → some k = (Value.slice g.PA g.pl.length g.pc).ownBlock ∨ w.heap.size ≤ k)
    (hap : ∀ k, (Value.slice g.PA g.pl.length g.pc).ownBlock = some k ∨ (Value.slice O (g.pl.length + 1) oc).ownBlock = some k → (Value.slice L' (g.pgs.length + 1) c').ownBlock ≠ some k) :
    SP (famK B Bb Bn { g with L := L', c := c', pgs := g.pgs ++ [⟨g.PA, g.pc, g.pl.length, O, oc, mk⟩], PA := none, pc := 0, pl := [] }) B w' := by
  have hlen : (g.pgs ++ [(⟨g.PA, g.pc, g.pl.length, O, oc, mk⟩ : Pg)]).length = g.pgs.length + 1 := by rw [List.length_append]; rfl
  have hpk : famK B Bb Bn { g with L := L', c := c', pgs := g.pgs ++ [⟨g.PA, g.pc, g.pl.length, O, oc, mk⟩], PA := none, pc := 0, pl := [] } (.pg g.pgs.length) = pgC ⟨g.PA, g.pc, g.pl.length, O, oc, mk⟩ := by simp only [famK, snoc_at, optC]
  have htn := nilC (w := w') B (t := 5) (size := 1)
  have hS := pgC_S hpg (T := fun k => some k = (Value.slice g.PA g.pl.length g.pc).ownBlock ∨ w.heap.size ≤ k) (fun k hk => .inl hk.symm) hO
  have hown : w.ownsRow B 5 1 (.slice g.PA g.pl.length g.pc) g.pl.length (bys g.pl) := h.hold .p
  have hbt : ∀ k, (pgC ⟨g.PA, g.pc, g.pl.length, O, oc, mk⟩).S k → (Value.slice L' (g.pgs.length + 1) c').ownBlock ≠ some k := fun k hk => by
    rcases hk with ⟨h0, ad, ha, rfl⟩ | ⟨ad, ha, rfl⟩
    · exact hap _ (.inl (by simp only [] at ha; rw [ha]; rfl))
    · exact hap _ (.inr (by simp only [] at ha; rw [ha]; rfl))
  refine h.upd (fun x => x = .bk ∨ x = .p ∨ x = .pg g.pgs.length) hF (fun k hk => ?_) (fun x hx => ?_) ?_ ?_
  · rcases hk with hk | hk
    · exact ⟨.bk, .inl rfl, hk.symm⟩
    · exact ⟨.p, .inr (.inl rfl), hk.symm⟩
  · cases x with
    | bk => exact absurd (.inl rfl) hx
    | p => exact absurd (.inr (.inl rfl)) hx
    | pg i => simp only [famK, snoc_get (fun e => hx (.inr (.inr (by rw [e]))) : i ≠ g.pgs.length)]
    | _ => rfl
  · rintro x (rfl | rfl | rfl)
    · refine ⟨by show World.ownsRow _ B 73 3 (.slice L' (g.pgs ++ [_]).length c') (g.pgs ++ [_]).length _; rw [hlen]; exact hrow, ownC_st _ _ _ _ _ _, fun k hk => ?_⟩
      have hk : (Value.slice L' (g.pgs ++ [_]).length c').ownBlock = some k := hk
      rw [hlen] at hk
      refine ⟨?_, (own_lt hrow hk).2⟩
      rcases hL k hk with e | e
      · exact .inl ⟨.bk, .inl rfl, e.symm⟩
      · exact .inr e
    · exact ⟨htn.1, htn.2.1, fun k hk => absurd hk (htn.2.2 k)⟩
    · rw [hpk]
      refine ⟨hpg, pgC_st _, fun k hk => ?_⟩
      obtain ⟨h1, h2⟩ := hS k hk
      refine ⟨?_, h2⟩
      rcases h1 with e | e
      · exact .inl ⟨.p, .inr (.inl rfl), e.symm⟩
      · exact .inr e
  · have hbk : ∀ k, (famK B Bb Bn { g with L := L', c := c', pgs := g.pgs ++ [⟨g.PA, g.pc, g.pl.length, O, oc, mk⟩], PA := none, pc := 0, pl := [] } .bk).S k → (Value.slice L' (g.pgs.length + 1) c').ownBlock = some k := fun k hk => by
      have hk : (Value.slice L' (g.pgs ++ [_]).length c').ownBlock = some k := hk
      rw [hlen] at hk
      exact hk
    rintro x y (rfl | rfl | rfl) (rfl | rfl | rfl) hne k hk hk'
    · exact absurd rfl hne
    · exact htn.2.2 k hk'
    · rw [hpk] at hk'; exact hbt k hk' (hbk k hk)
    · exact htn.2.2 k hk
    · exact absurd rfl hne
    · exact htn.2.2 k hk
    · rw [hpk] at hk; exact hbt k hk (hbk k hk')
    · exact htn.2.2 k hk'
    · exact absurd rfl hne
theorem SPK.bb (h : SP (famK B Bb Bn g) B w) (v : Value) : SP (famK B Bb Bn { g with bv := v }) B (w.setCell ⟨Bb, 0, none⟩ v) := by
  have hb : Blk w Bb 35 #[g.bv] := h.hold .bb
  have hb' : Blk (w.setCell ⟨Bb, 0, none⟩ v) Bb 35 #[v] := hb.set_ 0 v
  refine h.one .bb (F := fun k => k = Bb) ((Fr.refl (fun k => k = Bb) _).setCell (p := ⟨Bb, 0, none⟩) (.inl rfl) _) (fun k hk => hk) (fun x hx => ?_) hb' (blkC_st _ _ _) (fun k hk => ⟨.inl hk, by have hk : k = Bb := hk; rw [hk]; exact hb'.lt⟩)
  cases x with
  | bb => exact absurd rfl hx
  | _ => rfl
theorem SPK.nn (h : SP (famK B Bb Bn g) B w) (n : Nat) : SP (famK B Bb Bn { g with k := n }) B (w.setCell ⟨Bn, 0, none⟩ (.int .i64 (n : Int))) := by
  have hb : Blk w Bn 3 #[.int .i64 (g.k : Int)] := h.hold .nn
  have hb' : Blk (w.setCell ⟨Bn, 0, none⟩ (.int .i64 (n : Int))) Bn 3 #[.int .i64 (n : Int)] := hb.set_ 0 _
  refine h.one .nn (F := fun k => k = Bn) ((Fr.refl (fun k => k = Bn) _).setCell (p := ⟨Bn, 0, none⟩) (.inl rfl) _) (fun k hk => hk) (fun x hx => ?_) hb' (blkC_st _ _ _) (fun k hk => ⟨.inl hk, by have hk : k = Bn := hk; rw [hk]; exact hb'.lt⟩)
  cases x with
  | nn => exact absurd rfl hx
  | _ => rfl
theorem SPK.piece (h : SP (famK B Bb Bn g) B w) {F : Nat → Prop} (hF : Fr F w w') (hd : ∀ x k, (famK B Bb Bn g x).S k → ¬ F k) {O : Option Addr} {oc : Nat} {x : List UInt8} (hO : w'.ownsRow w.heap.size 5 1 (.slice O x.length oc) x.length (bys x)) :
    SP (famK B Bb Bn { g with PA := O, pc := oc, pl := x }) B w' := by
  refine h.anew hF hd .p (fun z hz => ?_) (own_mono hO h.le) (ownC_st _ _ _ _ _ _) (fun k hk => own_lt hO hk)
  cases z with
  | p => exact absurd rfl hz
  | _ => rfl
theorem SPK.pages (h : SP (famK B Bb Bn g) B w) : ∀ p, p ∈ g.pgs → PgIn w p := fun p hp => by
  obtain ⟨i, hi⟩ := List.mem_iff_getElem?.1 hp
  have := h.hold (.pg i)
  simp only [famK, hi, optC] at this
  exact this
theorem KeepK (h : SP (famK B Bb Bn g) B w) (h1 : g.pgs.length ≤ 4294967296) (h2 : g.pl.length ≤ 4294967296) :
    Calls Try.prog 12 #[.slice g.L g.pgs.length g.c, .slice g.PA g.pl.length g.pc] w (fun e w' => ∃ (L : Option Addr) (c : Nat) (pg : Pg), e = .returned (.slice L (g.pgs.length + 1) c) ∧
      SP (famK B Bb Bn { g with L := L, c := c, pgs := g.pgs ++ [pg], PA := none, pc := 0, pl := [] }) B w' ∧ Fr (fun k => ∃ x, (famK B Bb Bn g x).S k) w w' ∧
      ∀ x k, (famK B Bb Bn { g with L := L, c := c, pgs := g.pgs ++ [pg], PA := none, pc := 0, pl := [] } x).S k → (∃ y, (famK B Bb Bn g y).S k) ∨ w.heap.size ≤ k) := by
  refine (keep_any B B g.L g.c g.pgs g.PA g.pl.length g.pc g.pl w (h.hold .bk) (h.hold .p) h.le h.le (by omega) (by omega)).mono ?_
  rintro e w' ⟨O, oc, L, c, rfl, hrow, hpi, hF, hL, hO, hap⟩
  refine ⟨L, c, _, rfl, SPK.keep h hrow hpi hF hL hO hap, hF.mono (fun k _ hk => ?_), fun x k hk => ?_⟩
  · rcases hk with hk | hk
    · exact ⟨.bk, hk.symm⟩
    · exact ⟨.p, hk.symm⟩
  · cases x with
    | bb => exact .inl ⟨.bb, hk⟩
    | nn => exact .inl ⟨.nn, hk⟩
    | bk =>
      have hk : (Value.slice L (g.pgs ++ [_]).length c).ownBlock = some k := hk
      rw [List.length_append] at hk
      rcases hL k hk with e | e
      · exact .inl ⟨.bk, e.symm⟩
      · exact .inr e
    | pg i =>
      by_cases hi : i = g.pgs.length
      · subst hi
        simp only [famK, snoc_at, optC] at hk
        rcases (pgC_S hpi (T := fun k => some k = (Value.slice g.PA g.pl.length g.pc).ownBlock ∨ w.heap.size ≤ k) (fun k hk => .inl hk.symm) hO k hk).1 with e | e
        · exact .inl ⟨.p, e.symm⟩
        · exact .inr e
      · simp only [famK, snoc_get hi] at hk
        exact .inl ⟨.pg i, hk⟩
    | p => exact absurd hk (by simp [famK, ownC, Value.ownBlock])
theorem KeptK (h : SP (famK B Bb Bn g) B w) (hp : g.pgs.length ≤ 4294967296) : Calls Try.prog 17 #[.slice g.L g.pgs.length g.c] w fun e w' => e = .returned (.bool true) ∧ Below w.heap.size w w' := by
  have hb : w.ownsRow B 73 3 (.slice g.L g.pgs.length g.c) g.pgs.length (pgv g.pgs) := h.hold .bk
  exact kept_any g.L g.c g.pgs w (Rd.of_own hb) (fun ad had => (own_lt hb (own_addr hb had)).2) (SPK.pages h) (own_le hb) (by omega)
theorem SPK.start (hb : Blk w Bb 35 #[.slice none 0 0]) (hn : Blk w Bn 3 #[.int .i64 0]) (h1 : B ≤ Bb) (h2 : B ≤ Bn) : SP (famK B Bb Bn ⟨.slice none 0 0, 0, none, 0, [], none, 0, []⟩) B w := by
  have hne : Bb ≠ Bn := BT.ne ⟨_, hb⟩ ⟨_, hn⟩ (by decide)
  have hnl := fun (t : TypeId) (size : Nat) => nilC (w := w) B (t := t) (size := size)
  have hpg : ∀ i, famK B Bb Bn ⟨.slice none 0 0, 0, none, 0, [], none, 0, []⟩ (.pg i) = trivC := fun i => by simp [famK, optC]
  have hS : ∀ z k, (famK B Bb Bn ⟨.slice none 0 0, 0, none, 0, [], none, 0, []⟩ z).S k → (z = .bb ∧ k = Bb) ∨ (z = .nn ∧ k = Bn) := fun z k hk => by
    cases z with
    | bb => exact .inl ⟨rfl, hk⟩
    | nn => exact .inr ⟨rfl, hk⟩
    | bk => exact absurd hk ((hnl _ _).2.2 k)
    | p => exact absurd hk ((hnl _ _).2.2 k)
    | pg i => rw [hpg] at hk; exact hk.elim
  refine ⟨fun z => ?_, fun z => ?_, fun z k hk => ?_, fun z z' hzz k hk hk' => ?_, by have := hb.lt; omega⟩
  · cases z with
    | bb => exact hb
    | nn => exact hn
    | bk => exact (hnl _ _).1
    | p => exact (hnl _ _).1
    | pg i => rw [hpg]; exact trivial
  · cases z with
    | bb => exact blkC_st _ _ _
    | nn => exact blkC_st _ _ _
    | bk => exact ownC_st _ _ _ _ _ _
    | p => exact ownC_st _ _ _ _ _ _
    | pg i => rw [hpg]; exact trivC_st
  · rcases hS z k hk with ⟨_, rfl⟩ | ⟨_, rfl⟩
    · exact ⟨h1, hb.lt⟩
    · exact ⟨h2, hn.lt⟩
  · rcases hS z k hk with ⟨e1, e2⟩ | ⟨e1, e2⟩ <;> rcases hS z' k hk' with ⟨e3, e4⟩ | ⟨e3, e4⟩
    · exact hzz (e1.trans e3.symm)
    · exact hne (e2.symm.trans e4)
    · exact hne (e4.symm.trans e2)
    · exact hzz (e1.trans e3.symm)
end
end Go.Proofs.Ytglkahonejblpaa
