/-
  What the law CdcWrites holds in its loop, in parts that share no block: two cutters, the document's two, the book of pages, what one round makes. Conditions: each lemma's own.
-/
import Derived.Test.YtglkahonejblpaaRef5
namespace Go.Proofs.Ytglkahonejblpaa
open Go.RowKit

section
variable {ι κ : Type} {C C' : ι → Cmp} {D : κ → Cmp} {B B' : Nat} {w w' : World}
/-- a part of the family is held anew, as a family of its own -/
theorem SP.graft {F : Nat → Prop} (h : SP C B w) (f : κ → ι) (k : SP D B' w') (hF : Fr F w w') (hFX : ∀ g, F g → ∃ y, (C (f y)).S g) (hD : ∀ y, C' (f y) = D y) (hC : ∀ x, (∀ y, f y ≠ x) → C' x = C x)
    (hat : ∀ y g, (D y).S g → (∃ z, (C (f z)).S g) ∨ w.heap.size ≤ g) : SP C' B w' := by
  refine h.upd (fun x => ∃ y, f y = x) hF (fun g hg => ?_) (fun x hx => hC x fun y e => hx ⟨y, e⟩) ?_ ?_
  · obtain ⟨y, hy⟩ := hFX g hg
    exact ⟨_, ⟨y, rfl⟩, hy⟩
  · rintro x ⟨y, rfl⟩
    rw [hD]
    refine ⟨k.hold y, k.st y, fun g hg => ⟨?_, (k.inb y g hg).2⟩⟩
    rcases hat y g hg with ⟨z, hz⟩ | h1
    · exact .inl ⟨_, ⟨z, rfl⟩, hz⟩
    · exact .inr h1
  · rintro x x' ⟨y, rfl⟩ ⟨z, rfl⟩ hne g hg hg'
    rw [hD] at hg hg'
    exact k.sep y z (fun e => hne (by rw [e])) g hg hg'
/-- one part changes -/
theorem SP.one {F : Nat → Prop} (h : SP C B w) (i : ι) (hF : Fr F w w') (hFX : ∀ g, F g → (C i).S g) (hC : ∀ x, x ≠ i → C' x = C x) (hP : (C' i).P w') (hst : (C' i).stable) (hS : ∀ g, (C' i).S g → ((C i).S g ∨ w.heap.size ≤ g) ∧ g < w'.heap.size) : SP C' B w' := by
  refine h.upd (fun x => x = i) hF (fun g hg => ⟨i, rfl, hFX g hg⟩) hC ?_ ?_
  · rintro x rfl
    refine ⟨hP, hst, fun g hg => ?_⟩
    obtain ⟨h1, h2⟩ := hS g hg
    refine ⟨?_, h2⟩
    rcases h1 with h1 | h1
    · exact .inl ⟨x, rfl, h1⟩
    · exact .inr h1
  · rintro x y rfl rfl hne
    exact absurd rfl hne
/-- parts are let go -/
theorem SP.drop (h : SP C B w) (hC : ∀ x, C' x = C x ∨ ((C' x).P w ∧ (C' x).stable ∧ ∀ g, ¬ (C' x).S g)) : SP C' B w := by
  refine ⟨fun x => ?_, fun x => ?_, fun x g hg => ?_, fun x y hxy g hg hg' => ?_, h.le⟩
  · rcases hC x with e | e
    · rw [e]; exact h.hold x
    · exact e.1
  · rcases hC x with e | e
    · rw [e]; exact h.st x
    · exact e.2.1
  · rcases hC x with e | e
    · rw [e] at hg; exact h.inb x g hg
    · exact absurd hg (e.2.2 g)
  · rcases hC x with e | e
    · rcases hC y with e' | e'
      · rw [e] at hg; rw [e'] at hg'; exact h.sep x y hxy g hg hg'
      · exact e'.2.2 g hg'
    · exact e.2.2 g hg
end
structure LG where
  LA : Option Addr
  lc : Nat
  left : List UInt8
  sum : Int
  n : Nat
  MA : Option Addr
  mc : Nat
  lefy : List UInt8
  suy : Int
  ny : Nat
  RA : Option Addr
  rc : Nat
  la : List UInt8
  rt : Nat
  SA : Option Addr
  sc : Nat
  ls : List UInt8
  st : Nat
  L : Option Addr
  c : Nat
  pgs : List Pg
  O : Option Addr
  oc : Nat
  ps : List Pc
  done : Nat
  O2 : Option Addr
  oc2 : Nat
  qs : List Pc
  O3 : Option Addr
  oc3 : Nat
  vs : List Pc
  O4 : Option Addr
  oc4 : Nat
  us : List Pc
  IA : Option Addr
  ic : Nat
  il : List UInt8
  PA : Option Addr
  pc : Nat
  pl : List UInt8
  bx : Option (Nat × Array Value)
inductive Iw where
  | wx | l | wy | m | r | ra | s | sa | bk | pg (i : Nat) | o | t (i : Nat) | o2 | t2 (i : Nat) | o3 | o4 | inn | p | bx
def LG.lv (g : LG) : Value := .slice g.LA g.left.length g.lc
def LG.mv (g : LG) : Value := .slice g.MA g.lefy.length g.mc
def pgC (p : Pg) : Cmp := ⟨fun k => (0 < p.n ∧ ∃ ad, p.A = some ad ∧ ad.block = k) ∨ ∃ ad, p.O = some ad ∧ ad.block = k, fun w => PgIn w p⟩
theorem In.same {w w' : World} {A : Option Addr} {n : Nat} {l : List UInt8} (h : In w A n l) (hs : 0 < n → ∀ ad, A = some ad → w'.heap[ad.block]? = w.heap[ad.block]?) : In w' A n l := by
  refine ⟨h.1.keep0 hs, fun h0 ad had => ?_, h.2.2⟩
  have h1 := h.2.1 h0 ad had
  have h2 := hs h0 ad had
  rw [Array.getElem?_eq_getElem h1] at h2
  exact (Array.getElem?_eq_some_iff.1 h2).1
theorem pgC_st (p : Pg) : (pgC p).stable := fun _ _ h k =>
  ⟨h.b.same fun h0 ad had => k _ (.inl ⟨h0, ad, had, rfl⟩), h.on.same fun _ ad had => k _ (.inr ⟨ad, had, rfl⟩), h.bc, h.oc⟩
def blkC (X : Nat) (t : TypeId) (cs : Array Value) : Cmp := ⟨fun g => g = X, fun w => Blk w X t cs⟩
theorem blkC_st (X : Nat) (t : TypeId) (cs : Array Value) : (blkC X t cs).stable := fun _ _ h k => Blk.same h (k X rfl)
section
variable (B X Y R S : Nat) (least most bits : Int)
def famW (g : LG) : Iw → Cmp
  | .wx => blkC X 71 (rollX g.lv least most bits g.sum g.n)
  | .l => ownC B 5 1 g.lv g.left.length (bys g.left)
  | .wy => blkC Y 71 (rollX g.mv 64 100 3 g.suy g.ny)
  | .m => ownC B 5 1 g.mv g.lefy.length (bys g.lefy)
  | .r => blkC R 34 #[.int .i64 least, .int .i64 most, .int .i64 bits, .slice g.RA g.la.length g.rc, .int .i64 (g.rt : Int)]
  | .ra => ownC B 5 1 (.slice g.RA g.la.length g.rc) g.la.length (bys g.la)
  | .s => blkC S 34 #[.int .i64 64, .int .i64 100, .int .i64 3, .slice g.SA g.ls.length g.sc, .int .i64 (g.st : Int)]
  | .sa => ownC B 5 1 (.slice g.SA g.ls.length g.sc) g.ls.length (bys g.ls)
  | .bk => ownC B 73 3 (.slice g.L g.pgs.length g.c) g.pgs.length (pgv g.pgs)
  | .pg i => optC pgC g.pgs[i]?
  | .o => ownC B 32 1 (.slice g.O g.ps.length g.oc) g.ps.length (svs g.ps)
  | .t i => if i < g.done then trivC else optC (pcC B) g.ps[i]?
  | .o2 => ownC B 32 1 (.slice g.O2 g.qs.length g.oc2) g.qs.length (svs g.qs)
  | .t2 i => optC (pcC B) g.qs[i]?
  | .o3 => ownC B 32 1 (.slice g.O3 g.vs.length g.oc3) g.vs.length (svs g.vs)
  | .o4 => ownC B 32 1 (.slice g.O4 g.us.length g.oc4) g.us.length (svs g.us)
  | .inn => ownC B 5 1 (.slice g.IA g.il.length g.ic) g.il.length (bys g.il)
  | .p => ownC B 5 1 (.slice g.PA g.pl.length g.pc) g.pl.length (bys g.pl)
  | .bx => optC (fun q => blkC q.1 37 q.2) g.bx
theorem nilC {t : TypeId} {size : Nat} {w : World} : (ownC B t size (.slice none 0 0) 0 []).P w ∧ (ownC B t size (.slice none 0 0) 0 []).stable ∧ ∀ g, ¬ (ownC B t size (.slice none 0 0) 0 []).S g :=
  ⟨World.ownsRow_nil _ _ _ _, ownC_st _ _ _ _ _ _, fun g h => by simp [ownC, Value.ownBlock] at h⟩
/-- what a round made is let go -/
def LG.clear (g : LG) : LG := { g with O := none, oc := 0, ps := [], done := 0, O2 := none, oc2 := 0, qs := [], O3 := none, oc3 := 0, vs := [], O4 := none, oc4 := 0, us := [], IA := none, ic := 0, il := [], PA := none, pc := 0, pl := [], bx := none }
end
section
variable {B X Y R S : Nat} {least most bits : Int} {w w' : World} {g : LG}
theorem SPW.clear (h : SP (famW B X Y R S least most bits g) B w) : SP (famW B X Y R S least most bits g.clear) B w := by
  refine h.drop fun x => ?_
  cases x with
  | o => exact .inr (nilC B)
  | t i => exact .inr ⟨by simp [famW, LG.clear, optC, trivC], by simp [famW, LG.clear, optC, trivC_st], fun g hg => by simp [famW, LG.clear, optC, trivC] at hg⟩
  | o2 => exact .inr (nilC B)
  | t2 i => exact .inr ⟨by simp [famW, LG.clear, optC, trivC], by simp [famW, LG.clear, optC, trivC_st], fun g hg => by simp [famW, LG.clear, optC, trivC] at hg⟩
  | o3 => exact .inr (nilC B)
  | o4 => exact .inr (nilC B)
  | inn => exact .inr (nilC B)
  | p => exact .inr (nilC B)
  | bx => exact .inr ⟨trivial, trivC_st, fun g hg => hg.elim⟩
  | _ => exact .inl rfl
/-- the first cutter's Write -/
def fx : Iy → Iw | .x => .wx | .l => .l | .o => .o | .e i => .t i
theorem SPW.writeX {F : Nat → Prop} (h : SP (famW B X Y R S least most bits g) B w) {s : CG} (k : SP (famC B X least most bits s) B w') (hF : Fr F w w') (hFX : ∀ k, F k → k = X ∨ some k = g.lv.ownBlock)
    (hat : ∀ y k, (famC B X least most bits s y).S k → k = X ∨ g.lv.ownBlock = some k ∨ w.heap.size ≤ k) :
    SP (famW B X Y R S least most bits { g with LA := s.LA, lc := s.lc, left := s.left, sum := s.sum, n := s.n, O := s.O, oc := s.oc, ps := s.ps, done := 0 }) B w' := by
  refine h.graft fx k hF (fun k hk => ?_) (fun y => ?_) (fun x hx => ?_) (fun y k hk => ?_)
  · rcases hFX k hk with e | e
    · exact ⟨.x, e⟩
    · exact ⟨.l, e.symm⟩
  · cases y with
    | e i => simp only [fx, famW, famC, Nat.not_lt_zero, if_false]
    | _ => rfl
  · cases x with
    | wx => exact absurd rfl (hx .x)
    | l => exact absurd rfl (hx .l)
    | o => exact absurd rfl (hx .o)
    | t i => exact absurd rfl (hx (.e i))
    | _ => rfl
  · rcases hat y k hk with e | e | e
    · exact .inl ⟨.x, e⟩
    · exact .inl ⟨.l, e⟩
    · exact .inr e
/-- the second one's -/
def fy : Iy → Iw | .x => .wy | .l => .m | .o => .o2 | .e i => .t2 i
theorem SPW.writeY {F : Nat → Prop} (h : SP (famW B X Y R S least most bits g) B w) {s : CG} (k : SP (famC B Y 64 100 3 s) B w') (hF : Fr F w w') (hFX : ∀ k, F k → k = Y ∨ some k = g.mv.ownBlock)
    (hat : ∀ y k, (famC B Y 64 100 3 s y).S k → k = Y ∨ g.mv.ownBlock = some k ∨ w.heap.size ≤ k) :
    SP (famW B X Y R S least most bits { g with MA := s.LA, mc := s.lc, lefy := s.left, suy := s.sum, ny := s.n, O2 := s.O, oc2 := s.oc, qs := s.ps }) B w' := by
  refine h.graft fy k hF (fun k hk => ?_) (fun y => ?_) (fun x hx => ?_) (fun y k hk => ?_)
  · rcases hFX k hk with e | e
    · exact ⟨.x, e⟩
    · exact ⟨.l, e.symm⟩
  · cases y with
    | _ => rfl
  · cases x with
    | wy => exact absurd rfl (hx .x)
    | m => exact absurd rfl (hx .l)
    | o2 => exact absurd rfl (hx .o)
    | t2 i => exact absurd rfl (hx (.e i))
    | _ => rfl
  · rcases hat y k hk with e | e | e
    · exact .inl ⟨.x, e⟩
    · exact .inl ⟨.l, e⟩
    · exact .inr e
/-- the document's Write (first) -/
theorem SPW.writeR (h : SP (famW B X Y R S least most bits g) B w) {RA' O3 : Option Addr} {rc' oc3 rt' : Nat} {la' : List UInt8} {vs : List Pc} (hR : RC B R least most bits w' RA' rc' la' rt') (hO : w'.ownsRow w.heap.size 32 1 (.slice O3 vs.length oc3) vs.length (svs vs))
    (hF : Fr (fun k => k = R ∨ some k = (Value.slice g.RA g.la.length g.rc).ownBlock) w w') (hat : ∀ k, (Value.slice RA' la'.length rc').ownBlock = some k → (Value.slice g.RA g.la.length g.rc).ownBlock = some k ∨ w.heap.size ≤ k) :
    SP (famW B X Y R S least most bits { g with RA := RA', rc := rc', la := la', rt := rt', O3 := O3, oc3 := oc3, vs := vs }) B w' := by
  have hle := h.le
  refine h.upd (fun x => x = .r ∨ x = .ra ∨ x = .o3) hF (fun k hk => ?_) (fun x hx => ?_) ?_ ?_
  · rcases hk with hk | hk
    · exact ⟨.r, .inl rfl, hk⟩
    · exact ⟨.ra, .inr (.inl rfl), hk.symm⟩
  · cases x with
    | r => exact absurd (.inl rfl) hx
    | ra => exact absurd (.inr (.inl rfl)) hx
    | o3 => exact absurd (.inr (.inr rfl)) hx
    | _ => rfl
  · rintro x (rfl | rfl | rfl)
    · exact ⟨hR.blk, blkC_st _ _ _, fun k hk => ⟨.inl ⟨.r, .inl rfl, hk⟩, by have hk : k = R := hk; rw [hk]; exact hR.blk.lt⟩⟩
    · refine ⟨hR.own, ownC_st _ _ _ _ _ _, fun k hk => ⟨?_, (own_lt hR.own hk).2⟩⟩
      rcases hat k hk with e | e
      · exact .inl ⟨.ra, .inr (.inl rfl), e⟩
      · exact .inr e
    · exact ⟨own_mono hO hle, ownC_st _ _ _ _ _ _, fun k hk => ⟨.inr (own_lt hO hk).1, (own_lt hO hk).2⟩⟩
  · have d1 : ∀ k, k = R → (Value.slice RA' la'.length rc').ownBlock ≠ some k := fun k e hk => own_ne hR.own hR.blk (by decide) (by rw [hk, e])
    have d2 : ∀ k, k = R → (Value.slice O3 vs.length oc3).ownBlock ≠ some k := fun k e hk => own_ne hO hR.blk (by decide) (by rw [hk, e])
    have d3 : ∀ k, (Value.slice RA' la'.length rc').ownBlock = some k → (Value.slice O3 vs.length oc3).ownBlock ≠ some k := fun k hk hk' => (own_bt hR.own hk).ne (own_bt hO hk') (by decide) rfl
    rintro x y (rfl | rfl | rfl) (rfl | rfl | rfl) hne k hk hk'
    · exact absurd rfl hne
    · exact d1 k hk hk'
    · exact d2 k hk hk'
    · exact d1 k hk' hk
    · exact absurd rfl hne
    · exact d3 k hk hk'
    · exact d2 k hk' hk
    · exact d3 k hk' hk
    · exact absurd rfl hne
/-- the document's Write (second) -/
theorem SPW.writeS (h : SP (famW B X Y R S least most bits g) B w) {SA' O4 : Option Addr} {sc' oc4 st' : Nat} {ls' : List UInt8} {us : List Pc} (hR : RC B S 64 100 3 w' SA' sc' ls' st') (hO : w'.ownsRow w.heap.size 32 1 (.slice O4 us.length oc4) us.length (svs us))
    (hF : Fr (fun k => k = S ∨ some k = (Value.slice g.SA g.ls.length g.sc).ownBlock) w w') (hat : ∀ k, (Value.slice SA' ls'.length sc').ownBlock = some k → (Value.slice g.SA g.ls.length g.sc).ownBlock = some k ∨ w.heap.size ≤ k) :
    SP (famW B X Y R S least most bits { g with SA := SA', sc := sc', ls := ls', st := st', O4 := O4, oc4 := oc4, us := us }) B w' := by
  have hle := h.le
  refine h.upd (fun x => x = .s ∨ x = .sa ∨ x = .o4) hF (fun k hk => ?_) (fun x hx => ?_) ?_ ?_
  · rcases hk with hk | hk
    · exact ⟨.s, .inl rfl, hk⟩
    · exact ⟨.sa, .inr (.inl rfl), hk.symm⟩
  · cases x with
    | s => exact absurd (.inl rfl) hx
    | sa => exact absurd (.inr (.inl rfl)) hx
    | o4 => exact absurd (.inr (.inr rfl)) hx
    | _ => rfl
  · rintro x (rfl | rfl | rfl)
    · exact ⟨hR.blk, blkC_st _ _ _, fun k hk => ⟨.inl ⟨.s, .inl rfl, hk⟩, by have hk : k = S := hk; rw [hk]; exact hR.blk.lt⟩⟩
    · refine ⟨hR.own, ownC_st _ _ _ _ _ _, fun k hk => ⟨?_, (own_lt hR.own hk).2⟩⟩
      rcases hat k hk with e | e
      · exact .inl ⟨.sa, .inr (.inl rfl), e⟩
      · exact .inr e
    · exact ⟨own_mono hO hle, ownC_st _ _ _ _ _ _, fun k hk => ⟨.inr (own_lt hO hk).1, (own_lt hO hk).2⟩⟩
  · have d1 : ∀ k, k = S → (Value.slice SA' ls'.length sc').ownBlock ≠ some k := fun k e hk => own_ne hR.own hR.blk (by decide) (by rw [hk, e])
    have d2 : ∀ k, k = S → (Value.slice O4 us.length oc4).ownBlock ≠ some k := fun k e hk => own_ne hO hR.blk (by decide) (by rw [hk, e])
    have d3 : ∀ k, (Value.slice SA' ls'.length sc').ownBlock = some k → (Value.slice O4 us.length oc4).ownBlock ≠ some k := fun k hk hk' => (own_bt hR.own hk).ne (own_bt hO hk') (by decide) rfl
    rintro x y (rfl | rfl | rfl) (rfl | rfl | rfl) hne k hk hk'
    · exact absurd rfl hne
    · exact d1 k hk hk'
    · exact d2 k hk hk'
    · exact d1 k hk' hk
    · exact absurd rfl hne
    · exact d3 k hk hk'
    · exact d2 k hk' hk
    · exact d3 k hk' hk
    · exact absurd rfl hne
/-- the document's End -/
theorem SPW.endR (h : SP (famW B X Y R S least most bits g) B w) (hR : RC B R least most bits w' none 0 [] 0) (hF : Fr (fun k => k = R) w w') :
    SP (famW B X Y R S least most bits { g with RA := none, rc := 0, la := [], rt := 0 }) B w' := by
  refine h.upd (fun x => x = .r ∨ x = .ra) hF (fun k hk => ⟨.r, .inl rfl, hk⟩) (fun x hx => ?_) ?_ ?_
  · cases x with
    | r => exact absurd (.inl rfl) hx
    | ra => exact absurd (.inr rfl) hx
    | _ => rfl
  · rintro x (rfl | rfl)
    · exact ⟨hR.blk, blkC_st _ _ _, fun k hk => ⟨.inl ⟨.r, .inl rfl, hk⟩, by have hk : k = R := hk; rw [hk]; exact hR.blk.lt⟩⟩
    · exact ⟨World.ownsRow_nil _ _ _ _, ownC_st _ _ _ _ _ _, fun k hk => absurd hk ((nilC (w := w) B (t := 5) (size := 1)).2.2 k)⟩
  · rintro x y (rfl | rfl) (rfl | rfl) hne k hk hk'
    · exact absurd rfl hne
    · exact (nilC (w := w) B (t := 5) (size := 1)).2.2 k hk'
    · exact (nilC (w := w) B (t := 5) (size := 1)).2.2 k hk
    · exact absurd rfl hne
/-- the cutter's End: what was left is a piece now -/
theorem SPW.endX (h : SP (famW B X Y R S least most bits g) B w) (hX : Blk w' X 71 (rollX (.slice none 0 0) least most bits 0 0)) (hF : Fr (fun k => k = X) w w') :
    SP (famW B X Y R S least most bits { g with LA := none, lc := 0, left := [], sum := 0, n := 0, PA := g.LA, pc := g.lc, pl := g.left }) B w' := by
  have hnl := fun k => (nilC (w := w) B (t := 5) (size := 1)).2.2 k
  have hL : w.ownsRow B 5 1 g.lv g.left.length (bys g.left) := h.hold .l
  have hL' : w'.ownsRow B 5 1 g.lv g.left.length (bys g.left) := own_fr hL hF fun k hk e => h.sep .l .wx (by simp) k hk e
  refine h.upd (fun x => x = .wx ∨ x = .l ∨ x = .p) hF (fun k hk => ⟨.wx, .inl rfl, hk⟩) (fun x hx => ?_) ?_ ?_
  · cases x with
    | wx => exact absurd (.inl rfl) hx
    | l => exact absurd (.inr (.inl rfl)) hx
    | p => exact absurd (.inr (.inr rfl)) hx
    | _ => rfl
  · rintro x (rfl | rfl | rfl)
    · exact ⟨hX, blkC_st _ _ _, fun k hk => ⟨.inl ⟨.wx, .inl rfl, hk⟩, by have hk : k = X := hk; rw [hk]; exact hX.lt⟩⟩
    · exact ⟨World.ownsRow_nil _ _ _ _, ownC_st _ _ _ _ _ _, fun k hk => absurd hk (hnl k)⟩
    · exact ⟨hL', ownC_st _ _ _ _ _ _, fun k hk => ⟨.inl ⟨.l, .inr (.inl rfl), hk⟩, (own_lt hL' hk).2⟩⟩
  · have d1 : ∀ k, k = X → g.lv.ownBlock ≠ some k := fun k e hk => own_ne hL' hX (by decide) (by rw [hk, e])
    rintro x y (rfl | rfl | rfl) (rfl | rfl | rfl) hne k hk hk'
    · exact absurd rfl hne
    · exact hnl k hk'
    · exact d1 k hk hk'
    · exact hnl k hk
    · exact absurd rfl hne
    · exact hnl k hk
    · exact d1 k hk' hk
    · exact hnl k hk'
    · exact absurd rfl hne
/-- the document's second End -/
theorem SPW.endS (h : SP (famW B X Y R S least most bits g) B w) (hR : RC B S 64 100 3 w' none 0 [] 0) (hF : Fr (fun k => k = S) w w') :
    SP (famW B X Y R S least most bits { g with SA := none, sc := 0, ls := [], st := 0 }) B w' := by
  refine h.upd (fun x => x = .s ∨ x = .sa) hF (fun k hk => ⟨.s, .inl rfl, hk⟩) (fun x hx => ?_) ?_ ?_
  · cases x with
    | s => exact absurd (.inl rfl) hx
    | sa => exact absurd (.inr rfl) hx
    | _ => rfl
  · rintro x (rfl | rfl)
    · exact ⟨hR.blk, blkC_st _ _ _, fun k hk => ⟨.inl ⟨.s, .inl rfl, hk⟩, by have hk : k = S := hk; rw [hk]; exact hR.blk.lt⟩⟩
    · exact ⟨World.ownsRow_nil _ _ _ _, ownC_st _ _ _ _ _ _, fun k hk => absurd hk ((nilC (w := w) B (t := 5) (size := 1)).2.2 k)⟩
  · rintro x y (rfl | rfl) (rfl | rfl) hne k hk hk'
    · exact absurd rfl hne
    · exact (nilC (w := w) B (t := 5) (size := 1)).2.2 k hk'
    · exact (nilC (w := w) B (t := 5) (size := 1)).2.2 k hk
    · exact absurd rfl hne
/-- the second cutter's End: what was left is a piece now -/
theorem SPW.endY (h : SP (famW B X Y R S least most bits g) B w) (hX : Blk w' Y 71 (rollX (.slice none 0 0) 64 100 3 0 0)) (hF : Fr (fun k => k = Y) w w') :
    SP (famW B X Y R S least most bits { g with MA := none, mc := 0, lefy := [], suy := 0, ny := 0, IA := g.MA, ic := g.mc, il := g.lefy }) B w' := by
  have hnl := fun k => (nilC (w := w) B (t := 5) (size := 1)).2.2 k
  have hL : w.ownsRow B 5 1 g.mv g.lefy.length (bys g.lefy) := h.hold .m
  have hL' : w'.ownsRow B 5 1 g.mv g.lefy.length (bys g.lefy) := own_fr hL hF fun k hk e => h.sep .m .wy (by simp) k hk e
  refine h.upd (fun x => x = .wy ∨ x = .m ∨ x = .inn) hF (fun k hk => ⟨.wy, .inl rfl, hk⟩) (fun x hx => ?_) ?_ ?_
  · cases x with
    | wy => exact absurd (.inl rfl) hx
    | m => exact absurd (.inr (.inl rfl)) hx
    | inn => exact absurd (.inr (.inr rfl)) hx
    | _ => rfl
  · rintro x (rfl | rfl | rfl)
    · exact ⟨hX, blkC_st _ _ _, fun k hk => ⟨.inl ⟨.wy, .inl rfl, hk⟩, by have hk : k = Y := hk; rw [hk]; exact hX.lt⟩⟩
    · exact ⟨World.ownsRow_nil _ _ _ _, ownC_st _ _ _ _ _ _, fun k hk => absurd hk (hnl k)⟩
    · exact ⟨hL', ownC_st _ _ _ _ _ _, fun k hk => ⟨.inl ⟨.m, .inr (.inl rfl), hk⟩, (own_lt hL' hk).2⟩⟩
  · have d1 : ∀ k, k = Y → g.mv.ownBlock ≠ some k := fun k e hk => own_ne hL' hX (by decide) (by rw [hk, e])
    rintro x y (rfl | rfl | rfl) (rfl | rfl | rfl) hne k hk hk'
    · exact absurd rfl hne
    · exact hnl k hk'
    · exact d1 k hk hk'
    · exact hnl k hk
    · exact absurd rfl hne
    · exact hnl k hk
    · exact d1 k hk' hk
    · exact hnl k hk'
    · exact absurd rfl hne
/-- a step of the script, in a box of its own -/
theorem SPW.box (h : SP (famW B X Y R S least most bits g) B w) (cs : Array Value) : SP (famW B X Y R S least most bits { g with bx := some (w.heap.size, cs) }) B (w.alloc (.cells cs 37)) := by
  refine h.one .bx (F := fun _ => False) (Fr.of_below ((Below.refl _ _).alloc (Nat.le_refl _) _)) (fun _ e => e.elim) (fun z hz => ?_) (Blk.new _ _ _) (blkC_st _ _ _) (fun k hk => ?_)
  · cases z with
    | bx => exact absurd rfl hz
    | _ => rfl
  · have hk : k = w.heap.size := hk
    rw [hk]
    exact ⟨.inr (Nat.le_refl _), by simp⟩
/-- a copy of the bytes, with one behind them -/
theorem SPW.room (h : SP (famW B X Y R S least most bits g) B w) {IA : Option Addr} {ic : Nat} {il : List UInt8} (hI : w'.ownsRow w.heap.size 5 1 (.slice IA il.length ic) il.length (bys il)) (hb : Below w.heap.size w w') :
    SP (famW B X Y R S least most bits { g with IA := IA, ic := ic, il := il }) B w' := by
  refine h.one .inn (F := fun _ => False) (Fr.of_below hb) (fun _ e => e.elim) (fun x hx => ?_) (own_mono hI h.le) (ownC_st _ _ _ _ _ _) (fun k hk => ⟨.inr (own_lt hI hk).1, (own_lt hI hk).2⟩)
  cases x with
  | inn => exact absurd rfl hx
  | _ => rfl
/-- it is written over -/
theorem SPW.over (h : SP (famW B X Y R S least most bits g) B w) {il : List UInt8} (hl : il.length = g.il.length) (hI : w'.ownsRow B 5 1 (.slice g.IA g.il.length g.ic) g.il.length (bys il)) (hF : Fr (fun k => (Value.slice g.IA g.il.length g.ic).ownBlock = some k) w w') :
    SP (famW B X Y R S least most bits { g with il := il }) B w' := by
  rw [← hl] at hI hF
  refine h.one .inn hF (fun k hk => ?_) (fun x hx => ?_) hI (ownC_st _ _ _ _ _ _) (fun k hk => ⟨.inl ?_, (own_lt hI hk).2⟩)
  · have hk : (Value.slice g.IA il.length g.ic).ownBlock = some k := hk
    rw [hl] at hk
    exact hk
  · cases x with
    | inn => exact absurd rfl hx
    | _ => rfl
  · have hk : (Value.slice g.IA il.length g.ic).ownBlock = some k := hk
    rw [hl] at hk
    exact hk
theorem pgC_S {w' : World} {p : Pg} (hpg : PgIn w' p) {T : Nat → Prop} (h1 : ∀ k, (Value.slice p.A p.n p.c).ownBlock = some k → T k) (h2 : ∀ k, (Value.slice p.O (p.n + 1) p.oc).ownBlock = some k → T k) : ∀ k, (pgC p).S k → T k ∧ k < w'.heap.size := by
  rintro k (⟨h0, ad, ha, rfl⟩ | ⟨ad, ha, rfl⟩)
  · exact ⟨h1 _ (by rw [ha]; rfl), hpg.b.2.1 h0 ad ha⟩
  · exact ⟨h2 _ (by rw [ha]; rfl), hpg.on.2.1 (by omega) ad ha⟩
/-- a piece of the list goes into the book -/
theorem SPW.keepT (h : SP (famW B X Y R S least most bits g) B w) {p : Pc} (hp : g.ps[g.done]? = some p) {O L' : Option Addr} {oc c' : Nat} {mk : UInt8} (hrow : w'.ownsRow B 73 3 (.slice L' (g.pgs.length + 1) c') (g.pgs.length + 1) (pgv (g.pgs ++ [⟨p.1, p.2.1, p.2.2.length, O, oc, mk⟩])))
    (hpg : PgIn w' ⟨p.1, p.2.1, p.2.2.length, O, oc, mk⟩) (hF : Fr (fun k => some k = (Value.slice g.L g.pgs.length g.c).ownBlock ∨ some k = (Value.slice p.1 p.2.2.length p.2.1).ownBlock) w w')
    (hL : ∀ k, (Value.slice L' (g.pgs.length + 1) c').ownBlock = some k → some k = (Value.slice g.L g.pgs.length g.c).ownBlock ∨ w.heap.size ≤ k)
    (hO : ∀ k, (Value.slice O (p.2.2.length + 1) oc).ownBlock = some k → some k = (Value.slice p.1 p.2.2.length p.2.1).ownBlock ∨ w.heap.size ≤ k)
    (hap : ∀ k, (Value.slice p.1 p.2.2.length p.2.1).ownBlock = some k ∨ (Value.slice O (p.2.2.length + 1) oc).ownBlock = some k → (Value.slice L' (g.pgs.length + 1) c').ownBlock ≠ some k) :
    SP (famW B X Y R S least most bits { g with L := L', c := c', pgs := g.pgs ++ [⟨p.1, p.2.1, p.2.2.length, O, oc, mk⟩], done := g.done + 1 }) B w' := by
  have hlen : (g.pgs ++ [(⟨p.1, p.2.1, p.2.2.length, O, oc, mk⟩ : Pg)]).length = g.pgs.length + 1 := by rw [List.length_append]; rfl
  have htk : famW B X Y R S least most bits g (.t g.done) = pcC B p := by simp only [famW, Nat.lt_irrefl, if_false, hp, optC]
  have hpk : famW B X Y R S least most bits { g with L := L', c := c', pgs := g.pgs ++ [⟨p.1, p.2.1, p.2.2.length, O, oc, mk⟩], done := g.done + 1 } (.pg g.pgs.length) = pgC ⟨p.1, p.2.1, p.2.2.length, O, oc, mk⟩ := by simp only [famW, snoc_at, optC]
  have htn : famW B X Y R S least most bits { g with L := L', c := c', pgs := g.pgs ++ [⟨p.1, p.2.1, p.2.2.length, O, oc, mk⟩], done := g.done + 1 } (.t g.done) = trivC := by simp only [famW, Nat.lt_succ_self, if_true]
  have hS := pgC_S hpg (T := fun k => some k = (Value.slice p.1 p.2.2.length p.2.1).ownBlock ∨ w.heap.size ≤ k) (fun k hk => .inl hk.symm) hO
  have hown : w.ownsRow B 5 1 (.slice p.1 p.2.2.length p.2.1) p.2.2.length (bys p.2.2) := by
    have := h.hold (.t g.done)
    rw [htk] at this
    exact this
  have hbt : ∀ k, (pgC ⟨p.1, p.2.1, p.2.2.length, O, oc, mk⟩).S k → (Value.slice L' (g.pgs.length + 1) c').ownBlock ≠ some k := fun k hk => by
    rcases hk with ⟨h0, ad, ha, rfl⟩ | ⟨ad, ha, rfl⟩
    · exact hap _ (.inl (by simp only [] at ha; rw [ha]; rfl))
    · exact hap _ (.inr (by simp only [] at ha; rw [ha]; rfl))
  refine h.upd (fun x => x = .bk ∨ x = .t g.done ∨ x = .pg g.pgs.length) hF (fun k hk => ?_) (fun x hx => ?_) ?_ ?_
  · rcases hk with hk | hk
    · exact ⟨.bk, .inl rfl, hk.symm⟩
    · exact ⟨.t g.done, .inr (.inl rfl), by rw [htk]; exact hk.symm⟩
  · cases x with
    | bk => exact absurd (.inl rfl) hx
    | t i =>
      have hne : i ≠ g.done := fun e => hx (.inr (.inl (by rw [e])))
      simp only [famW]
      by_cases hi : i < g.done
      · rw [if_pos hi, if_pos (by omega)]
      · rw [if_neg hi, if_neg (by omega)]
    | pg i => simp only [famW, snoc_get (fun e => hx (.inr (.inr (by rw [e]))) : i ≠ g.pgs.length)]
    | _ => rfl
  · rintro x (rfl | rfl | rfl)
    · refine ⟨by show World.ownsRow _ B 73 3 (.slice L' (g.pgs ++ [_]).length c') (g.pgs ++ [_]).length _; rw [hlen]; exact hrow, ownC_st _ _ _ _ _ _, fun k hk => ?_⟩
      have hk : (Value.slice L' (g.pgs ++ [_]).length c').ownBlock = some k := hk
      rw [hlen] at hk
      refine ⟨?_, (own_lt hrow hk).2⟩
      rcases hL k hk with e | e
      · exact .inl ⟨.bk, .inl rfl, e.symm⟩
      · exact .inr e
    · rw [htn]
      exact ⟨trivial, trivC_st, fun k hk => hk.elim⟩
    · rw [hpk]
      refine ⟨hpg, pgC_st _, fun k hk => ?_⟩
      obtain ⟨h1, h2⟩ := hS k hk
      refine ⟨?_, h2⟩
      rcases h1 with e | e
      · exact .inl ⟨.t g.done, .inr (.inl rfl), by rw [htk]; exact e.symm⟩
      · exact .inr e
  · have hbk : ∀ k, (famW B X Y R S least most bits { g with L := L', c := c', pgs := g.pgs ++ [⟨p.1, p.2.1, p.2.2.length, O, oc, mk⟩], done := g.done + 1 } .bk).S k → (Value.slice L' (g.pgs.length + 1) c').ownBlock = some k := fun k hk => by
      have hk : (Value.slice L' (g.pgs ++ [_]).length c').ownBlock = some k := hk
      rw [hlen] at hk
      exact hk
    rintro x y (rfl | rfl | rfl) (rfl | rfl | rfl) hne k hk hk'
    · exact absurd rfl hne
    · rw [htn] at hk'; exact hk'
    · rw [hpk] at hk'; exact hbt k hk' (hbk k hk)
    · rw [htn] at hk; exact hk
    · exact absurd rfl hne
    · rw [htn] at hk; exact hk
    · rw [hpk] at hk; exact hbt k hk (hbk k hk')
    · rw [htn] at hk'; exact hk'
    · exact absurd rfl hne
/-- the last piece goes into the book -/
theorem SPW.keepP (h : SP (famW B X Y R S least most bits g) B w) {O L' : Option Addr} {oc c' : Nat} {mk : UInt8} (hrow : w'.ownsRow B 73 3 (.slice L' (g.pgs.length + 1) c') (g.pgs.length + 1) (pgv (g.pgs ++ [⟨g.PA, g.pc, g.pl.length, O, oc, mk⟩])))
    (hpg : PgIn w' ⟨g.PA, g.pc, g.pl.length, O, oc, mk⟩) (hF : Fr (fun k => some k = (Value.slice g.L g.pgs.length g.c).ownBlock ∨ some k = (Value.slice g.PA g.pl.length g.pc).ownBlock) w w')
    (hL : ∀ k, (Value.slice L' (g.pgs.length + 1) c').ownBlock = some k → some k = (Value.slice g.L g.pgs.length g.c).ownBlock ∨ w.heap.size ≤ k)
    (hO : ∀ k, (Value.slice O (g.pl.length + 1) oc).ownBlock = some k → some k = (Value.slice g.PA g.pl.length g.pc).ownBlock ∨ w.heap.size ≤ k)
    (hap : ∀ k, (Value.slice g.PA g.pl.length g.pc).ownBlock = some k ∨ (Value.slice O (g.pl.length + 1) oc).ownBlock = some k → (Value.slice L' (g.pgs.length + 1) c').ownBlock ≠ some k) :
    SP (famW B X Y R S least most bits { g with L := L', c := c', pgs := g.pgs ++ [⟨g.PA, g.pc, g.pl.length, O, oc, mk⟩], PA := none, pc := 0, pl := [] }) B w' := by
  have hlen : (g.pgs ++ [(⟨g.PA, g.pc, g.pl.length, O, oc, mk⟩ : Pg)]).length = g.pgs.length + 1 := by rw [List.length_append]; rfl
  have hpk : famW B X Y R S least most bits { g with L := L', c := c', pgs := g.pgs ++ [⟨g.PA, g.pc, g.pl.length, O, oc, mk⟩], PA := none, pc := 0, pl := [] } (.pg g.pgs.length) = pgC ⟨g.PA, g.pc, g.pl.length, O, oc, mk⟩ := by simp only [famW, snoc_at, optC]
  have htn := nilC (w := w') B (t := 5) (size := 1)
  have hS := pgC_S hpg (T := fun k => some k = (Value.slice g.PA g.pl.length g.pc).ownBlock ∨ w.heap.size ≤ k) (fun k hk => .inl hk.symm) hO
  have hown : w.ownsRow B 5 1 (.slice g.PA g.pl.length g.pc) g.pl.length (bys g.pl) := h.hold .p
  have hbt : ∀ k, (pgC ⟨g.PA, g.pc, g.pl.length, O, oc, mk⟩).S k → (Value.slice L' (g.pgs.length + 1) c').ownBlock ≠ some k := fun k hk => by
    rcases hk with ⟨h0, ad, ha, rfl⟩ | ⟨ad, ha, rfl⟩
    · exact hap _ (.inl (by simp only [] at ha; rw [ha]; rfl))
    · exact hap _ (.inr (by simp only [] at ha; rw [ha]; rfl))
  refine h.upd (fun x => x = .bk ∨ x = .p ∨ x = .pg g.pgs.length) hF (fun k hk => ?_) (fun x hx => ?_) ?_ ?_
  · rcases hk with hk | hk
    · exact ⟨.bk, .inl rfl, hk.symm⟩
    · exact ⟨.p, .inr (.inl rfl), hk.symm⟩
  · cases x with
    | bk => exact absurd (.inl rfl) hx
    | p => exact absurd (.inr (.inl rfl)) hx
    | pg i => simp only [famW, snoc_get (fun e => hx (.inr (.inr (by rw [e]))) : i ≠ g.pgs.length)]
    | _ => rfl
  · rintro x (rfl | rfl | rfl)
    · refine ⟨by show World.ownsRow _ B 73 3 (.slice L' (g.pgs ++ [_]).length c') (g.pgs ++ [_]).length _; rw [hlen]; exact hrow, ownC_st _ _ _ _ _ _, fun k hk => ?_⟩
      have hk : (Value.slice L' (g.pgs ++ [_]).length c').ownBlock = some k := hk
      rw [hlen] at hk
      refine ⟨?_, (own_lt hrow hk).2⟩
      rcases hL k hk with e | e
      · exact .inl ⟨.bk, .inl rfl, e.symm⟩
      · exact .inr e
    · exact ⟨htn.1, htn.2.1, fun k hk => absurd hk (htn.2.2 k)⟩
    · rw [hpk]
      refine ⟨hpg, pgC_st _, fun k hk => ?_⟩
      obtain ⟨h1, h2⟩ := hS k hk
      refine ⟨?_, h2⟩
      rcases h1 with e | e
      · exact .inl ⟨.p, .inr (.inl rfl), e.symm⟩
      · exact .inr e
  · have hbk : ∀ k, (famW B X Y R S least most bits { g with L := L', c := c', pgs := g.pgs ++ [⟨g.PA, g.pc, g.pl.length, O, oc, mk⟩], PA := none, pc := 0, pl := [] } .bk).S k → (Value.slice L' (g.pgs.length + 1) c').ownBlock = some k := fun k hk => by
      have hk : (Value.slice L' (g.pgs ++ [_]).length c').ownBlock = some k := hk
      rw [hlen] at hk
      exact hk
    rintro x y (rfl | rfl | rfl) (rfl | rfl | rfl) hne k hk hk'
    · exact absurd rfl hne
    · exact htn.2.2 k hk'
    · rw [hpk] at hk'; exact hbt k hk' (hbk k hk)
    · exact htn.2.2 k hk
    · exact absurd rfl hne
    · exact htn.2.2 k hk
    · rw [hpk] at hk; exact hbt k hk (hbk k hk')
    · exact htn.2.2 k hk'
    · exact absurd rfl hne
/-- an element is put behind the list of pieces; what a round made is let go -/
theorem SPW.more (h : SP (famW B X Y R S least most bits g) B w) (hF : Fr (fun k => (Value.slice g.O g.ps.length g.oc).ownBlock = some k) w w') : SP (famW B X Y R S least most bits g.clear) B w' := by
  have h1 : SP (famW B X Y R S least most bits g.clear) B w := SPW.clear h
  refine ⟨fun x => ?_, h1.st, fun x k hk => ⟨(h1.inb x k hk).1, Nat.lt_of_lt_of_le (h1.inb x k hk).2 hF.size⟩, h1.sep, Nat.le_trans h1.le hF.size⟩
  refine h1.st x w w' (h1.hold x) (fun k hk => hF.block k (h1.inb x k hk).2 (fun e => ?_))
  have no : ∀ y, y ≠ .o → (famW B X Y R S least most bits g.clear y = famW B X Y R S least most bits g y ∨ ∀ k, ¬ (famW B X Y R S least most bits g.clear y).S k) → ¬ (famW B X Y R S least most bits g.clear y).S k := fun y hy h2 hk => by
    rcases h2 with e2 | e2
    · rw [e2] at hk; exact h.sep y .o hy k hk e
    · exact e2 k hk
  have hn := fun (t : TypeId) (size : Nat) => (nilC (w := w) B (t := t) (size := size)).2.2
  cases x with
  | o => exact hn _ _ k hk
  | t i => exact no (.t i) (by simp) (.inr (fun k hk => by simp [famW, LG.clear, optC, trivC] at hk)) hk
  | o2 => exact hn _ _ k hk
  | t2 i => exact no (.t2 i) (by simp) (.inr (fun k hk => by simp [famW, LG.clear, optC, trivC] at hk)) hk
  | o3 => exact hn _ _ k hk
  | o4 => exact hn _ _ k hk
  | inn => exact hn _ _ k hk
  | p => exact hn _ _ k hk
  | bx => exact hk.elim
  | wx => exact no .wx (by simp) (.inl rfl) hk
  | l => exact no .l (by simp) (.inl rfl) hk
  | wy => exact no .wy (by simp) (.inl rfl) hk
  | m => exact no .m (by simp) (.inl rfl) hk
  | r => exact no .r (by simp) (.inl rfl) hk
  | ra => exact no .ra (by simp) (.inl rfl) hk
  | s => exact no .s (by simp) (.inl rfl) hk
  | sa => exact no .sa (by simp) (.inl rfl) hk
  | bk => exact no .bk (by simp) (.inl rfl) hk
  | pg i => exact no (.pg i) (by simp) (.inl rfl) hk
def LG.zero : LG := ⟨none, 0, [], 0, 0, none, 0, [], 0, 0, none, 0, [], 0, none, 0, [], 0, none, 0, [], none, 0, [], 0, none, 0, [], none, 0, [], none, 0, [], none, 0, [], none, 0, [], none⟩
theorem SPW.start (hX : Blk w X 71 (rollX (.slice none 0 0) least most bits 0 0)) (hY : Blk w Y 71 (rollX (.slice none 0 0) 64 100 3 0 0)) (hR : Blk w R 34 #[.int .i64 least, .int .i64 most, .int .i64 bits, .slice none 0 0, .int .i64 0])
    (hS : Blk w S 34 #[.int .i64 64, .int .i64 100, .int .i64 3, .slice none 0 0, .int .i64 0]) (hXY : X ≠ Y) (hRS : R ≠ S) (h1 : B ≤ X) (h2 : B ≤ Y) (h3 : B ≤ R) (h4 : B ≤ S) : SP (famW B X Y R S least most bits LG.zero) B w := by
  have hn := fun (t : TypeId) (size : Nat) => nilC (w := w) B (t := t) (size := size)
  have hXR : ∀ (X R : Nat) (cs ds : Array Value), Blk w X 71 cs → Blk w R 34 ds → X ≠ R := fun X R cs ds h h' => BT.ne ⟨cs, h⟩ ⟨ds, h'⟩ (by decide)
  have hw : B ≤ w.heap.size := by have := hX.lt; omega
  have hpg : ∀ i, famW B X Y R S least most bits LG.zero (.pg i) = trivC := fun i => by simp [famW, LG.zero, optC]
  have ht : ∀ i, famW B X Y R S least most bits LG.zero (.t i) = trivC := fun i => by simp [famW, LG.zero, optC]
  have ht2 : ∀ i, famW B X Y R S least most bits LG.zero (.t2 i) = trivC := fun i => by simp [famW, LG.zero, optC]
  have hS' : ∀ z k, (famW B X Y R S least most bits LG.zero z).S k → (z = .wx ∧ k = X) ∨ (z = .wy ∧ k = Y) ∨ (z = .r ∧ k = R) ∨ (z = .s ∧ k = S) := fun z k hk => by
    cases z with
    | wx => exact .inl ⟨rfl, hk⟩
    | wy => exact .inr (.inl ⟨rfl, hk⟩)
    | r => exact .inr (.inr (.inl ⟨rfl, hk⟩))
    | s => exact .inr (.inr (.inr ⟨rfl, hk⟩))
    | pg i => rw [hpg] at hk; exact hk.elim
    | t i => rw [ht] at hk; exact hk.elim
    | t2 i => rw [ht2] at hk; exact hk.elim
    | l => exact absurd hk ((hn _ _).2.2 k)
    | m => exact absurd hk ((hn _ _).2.2 k)
    | ra => exact absurd hk ((hn _ _).2.2 k)
    | sa => exact absurd hk ((hn _ _).2.2 k)
    | bk => exact absurd hk ((hn _ _).2.2 k)
    | o => exact absurd hk ((hn _ _).2.2 k)
    | o2 => exact absurd hk ((hn _ _).2.2 k)
    | o3 => exact absurd hk ((hn _ _).2.2 k)
    | o4 => exact absurd hk ((hn _ _).2.2 k)
    | inn => exact absurd hk ((hn _ _).2.2 k)
    | p => exact absurd hk ((hn _ _).2.2 k)
    | bx => exact hk.elim
  refine ⟨fun z => ?_, fun z => ?_, fun z k hk => ?_, fun z z' hne k hk hk' => ?_, hw⟩
  · cases z with
    | wx => exact hX
    | wy => exact hY
    | r => exact hR
    | s => exact hS
    | pg i => rw [hpg]; exact trivial
    | t i => rw [ht]; exact trivial
    | t2 i => rw [ht2]; exact trivial
    | bx => exact trivial
    | _ => exact (hn _ _).1
  · cases z with
    | wx => exact blkC_st _ _ _
    | wy => exact blkC_st _ _ _
    | r => exact blkC_st _ _ _
    | s => exact blkC_st _ _ _
    | pg i => rw [hpg]; exact trivC_st
    | t i => rw [ht]; exact trivC_st
    | t2 i => rw [ht2]; exact trivC_st
    | bx => exact trivC_st
    | _ => exact ownC_st _ _ _ _ _ _
  · rcases hS' z k hk with ⟨_, rfl⟩ | ⟨_, rfl⟩ | ⟨_, rfl⟩ | ⟨_, rfl⟩
    · exact ⟨h1, hX.lt⟩
    · exact ⟨h2, hY.lt⟩
    · exact ⟨h3, hR.lt⟩
    · exact ⟨h4, hS.lt⟩
  · rcases hS' z k hk with ⟨e1, e2⟩ | ⟨e1, e2⟩ | ⟨e1, e2⟩ | ⟨e1, e2⟩ <;> rcases hS' z' k hk' with ⟨e3, e4⟩ | ⟨e3, e4⟩ | ⟨e3, e4⟩ | ⟨e3, e4⟩
    · exact hne (e1.trans e3.symm)
    · exact hXY (e2.symm.trans e4)
    · exact hXR _ _ _ _ hX hR (e2.symm.trans e4)
    · exact hXR _ _ _ _ hX hS (e2.symm.trans e4)
    · exact hXY (e4.symm.trans e2)
    · exact hne (e1.trans e3.symm)
    · exact hXR _ _ _ _ hY hR (e2.symm.trans e4)
    · exact hXR _ _ _ _ hY hS (e2.symm.trans e4)
    · exact hXR _ _ _ _ hX hR (e4.symm.trans e2)
    · exact hXR _ _ _ _ hY hR (e4.symm.trans e2)
    · exact hne (e1.trans e3.symm)
    · exact hRS (e2.symm.trans e4)
    · exact hXR _ _ _ _ hX hS (e4.symm.trans e2)
    · exact hXR _ _ _ _ hY hS (e4.symm.trans e2)
    · exact hRS (e4.symm.trans e2)
    · exact hne (e1.trans e3.symm)
/-- the book's pages lie in w -/
theorem SPW.pages (h : SP (famW B X Y R S least most bits g) B w) : ∀ p, p ∈ g.pgs → PgIn w p := fun p hp => by
  obtain ⟨i, hi⟩ := List.mem_iff_getElem?.1 hp
  have := h.hold (.pg i)
  simp only [famW, hi, optC] at this
  exact this
theorem SPW.piece (h : SP (famW B X Y R S least most bits g) B w) {i : Nat} {p : Pc} (hi : g.ps[i]? = some p) (hd : g.done ≤ i) : w.ownsRow B 5 1 (.slice p.1 p.2.2.length p.2.1) p.2.2.length (bys p.2.2) := by
  have := h.hold (.t i)
  simp only [famW, hi, optC, if_neg (show ¬ i < g.done by omega)] at this
  exact this
theorem SPW.piece2 (h : SP (famW B X Y R S least most bits g) B w) {i : Nat} {p : Pc} (hi : g.qs[i]? = some p) : w.ownsRow B 5 1 (.slice p.1 p.2.2.length p.2.1) p.2.2.length (bys p.2.2) := by
  have := h.hold (.t2 i)
  simp only [famW, hi, optC] at this
  exact this
end
end Go.Proofs.Ytglkahonejblpaa
