/-
  What each step of CdcWrites does to the parts of memory that the law holds. Conditions: the parts, legal cuts, sizes.
-/
import Derived.Test.YtglkahonejblpaaWsP
namespace Go.Proofs.Ytglkahonejblpaa
open Go.RowKit

/-- a script that lies in memory; tot i: how many bytes its first i steps have at the most -/
def InScr (w : World) (A : Option Addr) (n : Nat) (tot : Nat → Nat) : Prop :=
  ∀ i, i < n → ∃ (b off : Nat) (L : Option Addr) (m c : Nat) (l : List UInt8) (e : Bool), A = some ⟨b, off, none⟩ ∧ b < w.heap.size ∧ w.cell? ⟨b, off + i * 2, none⟩ = some (.slice L m c) ∧ w.cell? ⟨b, off + i * 2 + 1, none⟩ = some (.bool e) ∧ In w L m l ∧ m ≤ c ∧ tot i + m ≤ tot (i + 1) ∧ tot (i + 1) ≤ 1048576
theorem InScr.below {w w' : World} {A : Option Addr} {n : Nat} {tot : Nat → Nat} (h : InScr w A n tot) (hb : Below w.heap.size w w') : InScr w' A n tot := fun i hi => by
  obtain ⟨b, off, L, m, c, l, e, rfl, hlt, h1, h2, h3, h4, h5⟩ := h i hi
  exact ⟨b, off, L, m, c, l, e, rfl, Nat.lt_of_lt_of_le hlt hb.size, (hb.cell (p := ⟨b, _, none⟩) hlt).trans h1, (hb.cell (p := ⟨b, _, none⟩) hlt).trans h2, h3.below hb, h4, h5⟩
theorem ok2 : CutsOk 64 100 3 := ⟨by decide, by decide, by decide, by decide, by decide⟩
theorem left_le {least most bits : Int} {la lf : List UInt8} {W : List (List UInt8)} {s : Int} {k : Nat} (h : wrL least most bits 0 0 [] la = (W, s, k, lf)) : lf.length ≤ la.length ∧ k ≤ la.length := by
  obtain ⟨h1, h2, _⟩ := wrL_bd least most bits la 0 0 []
  rw [h] at h1 h2
  have := congrArg List.length h2
  simp only [List.length_append, List.length_nil] at this
  exact ⟨by omega, by simpa using h1⟩
/-- what a write makes whole -/
theorem wr_next {least most bits : Int} {la l lf : List UInt8} {s : Int} {k t : Nat} (h : wrL least most bits 0 0 [] la = ((wrL least most bits 0 0 [] la).1, s, k, lf)) (ht : t = (wrL least most bits 0 0 [] la).1.length) :
    (wrL least most bits 0 0 [] (la ++ l)).1.drop t = (wrL least most bits s k lf l).1 ∧ wrL least most bits 0 0 [] (la ++ l) = ((wrL least most bits 0 0 [] (la ++ l)).1, (wrL least most bits s k lf l).2) ∧ t ≤ (wrL least most bits 0 0 [] (la ++ l)).1.length := by
  have h1 := wrL_append least most bits la l 0 0 []
  have h2 : (wrL least most bits 0 0 [] la).2.1 = s := by rw [h]
  have h3 : (wrL least most bits 0 0 [] la).2.2.1 = k := by rw [h]
  have h4 : (wrL least most bits 0 0 [] la).2.2.2 = lf := by rw [h]
  rw [h2, h3, h4] at h1
  refine ⟨by rw [h1, ht]; simp, by rw [h1], by rw [h1, ht]; simp⟩
section
variable {B X Y R S : Nat} {least most bits : Int} {w w' : World} {g : LG}
theorem SPW.inn (h : SP (famW B X Y R S least most bits g) B w) {l : List UInt8} {m : Nat} (hil : g.il = l ++ [77]) (hl : l.length = m) (hm : m ≤ 1099511627776) : In w g.IA m l ∧ In w g.IA (m + 1) (l ++ [77]) ∧ m + 1 ≤ g.ic := by
  have h1 : w.ownsRow B 5 1 (.slice g.IA g.il.length g.ic) g.il.length (bys g.il) := h.hold .inn
  have h2 : g.il.length = m + 1 := by rw [hil, List.length_append, hl]; rfl
  rw [h2, hil] at h1
  have h3 := In.of_own h1 (by omega)
  have h4 := h3.take (k := m) (by omega)
  rw [List.take_append_of_le_length (by omega), List.take_of_length_le (by omega)] at h4
  exact ⟨h4, h3, own_le h1⟩
theorem SPW.inn_lt (h : SP (famW B X Y R S least most bits g) B w) (ad : Addr) (had : g.IA = some ad) : (famW B X Y R S least most bits g .inn).S ad.block := by
  show (Value.slice g.IA g.il.length g.ic).ownBlock = some ad.block
  rw [had]; rfl
def WXPost (B X Y R S : Nat) (least most bits : Int) (g : LG) (l : List UInt8) (w : World) (e : Ending) (w' : World) : Prop :=
  ∃ s : CG, e = .returned (.slice s.O s.ps.length s.oc) ∧ wrL least most bits g.sum g.n g.left l = (byP s.ps, s.sum, s.n, s.left) ∧
    SP (famW B X Y R S least most bits { g with LA := s.LA, lc := s.lc, left := s.left, sum := s.sum, n := s.n, O := s.O, oc := s.oc, ps := s.ps, done := 0 }) B w' ∧ Below B w w'
theorem WriteX (h : SP (famW B X Y R S least most bits g) B w) {l : List UInt8} {m : Nat} (hil : g.il = l ++ [77]) (hl : l.length = m) (hm : m ≤ 1048576) (hok : CutsOk least most bits) (h1 : g.left.length ≤ 1048576) (h2 : g.n ≤ 1048576) :
    Calls Try.prog 14 #[.pointer (some ⟨X, 0, none⟩), .slice g.IA m g.ic] w (WXPost B X Y R S least most bits g l w) := by
  obtain ⟨hI, _, hic⟩ := SPW.inn h hil hl (by omega)
  refine (Write_any B X least most bits ⟨g.LA, g.lc, g.left, g.sum, g.n, none, 0, []⟩ g.IA m g.ic l w (sp_start (h.hold .wx) (h.inb .wx X rfl).1 (h.hold .l)) ⟨rfl, rfl, rfl⟩ hI (by omega) (fun ad had => ?_) hok (by show g.left.length + m ≤ _; omega) (by show g.n + m ≤ _; omega)).mono ?_
  · have h3 := SPW.inn_lt h ad had
    exact ⟨(h.inb .inn _ h3).2, fun e => h.sep .inn .wx (by simp) _ h3 e, fun e => h.sep .inn .l (by simp) _ h3 e⟩
  · rintro e w' ⟨s, rfl, hS, hF, hat, _, hres⟩
    exact ⟨s, rfl, hres, SPW.writeX h hS hF (fun k hk => hk) (fun y k hk => hat y k hk), h.to_below (fun z => z = .wx ∨ z = .l) hF (fun k hk => by
      rcases hk with hk | hk
      · exact ⟨.wx, .inl rfl, hk⟩
      · exact ⟨.l, .inr rfl, hk.symm⟩)⟩
def WYPost (B X Y R S : Nat) (least most bits : Int) (g : LG) (l : List UInt8) (w : World) (e : Ending) (w' : World) : Prop :=
  ∃ s : CG, e = .returned (.slice s.O s.ps.length s.oc) ∧ wrL 64 100 3 g.suy g.ny g.lefy l = (byP s.ps, s.sum, s.n, s.left) ∧
    SP (famW B X Y R S least most bits { g with MA := s.LA, mc := s.lc, lefy := s.left, suy := s.sum, ny := s.n, O2 := s.O, oc2 := s.oc, qs := s.ps }) B w' ∧ Below B w w'
theorem WriteY (h : SP (famW B X Y R S least most bits g) B w) {l : List UInt8} {m : Nat} (hil : g.il = l ++ [77]) (hl : l.length = m) (hm : m ≤ 1048576) (h1 : g.lefy.length ≤ 1048576) (h2 : g.ny ≤ 1048576) :
    Calls Try.prog 14 #[.pointer (some ⟨Y, 0, none⟩), .slice g.IA m g.ic] w (WYPost B X Y R S least most bits g l w) := by
  obtain ⟨hI, _, hic⟩ := SPW.inn h hil hl (by omega)
  refine (Write_any B Y 64 100 3 ⟨g.MA, g.mc, g.lefy, g.suy, g.ny, none, 0, []⟩ g.IA m g.ic l w (sp_start (h.hold .wy) (h.inb .wy Y rfl).1 (h.hold .m)) ⟨rfl, rfl, rfl⟩ hI (by omega) (fun ad had => ?_) ok2 (by show g.lefy.length + m ≤ _; omega) (by show g.ny + m ≤ _; omega)).mono ?_
  · have h3 := SPW.inn_lt h ad had
    exact ⟨(h.inb .inn _ h3).2, fun e => h.sep .inn .wy (by simp) _ h3 e, fun e => h.sep .inn .m (by simp) _ h3 e⟩
  · rintro e w' ⟨s, rfl, hS, hF, hat, _, hres⟩
    exact ⟨s, rfl, hres, SPW.writeY h hS hF (fun k hk => hk) (fun y k hk => hat y k hk), h.to_below (fun z => z = .wy ∨ z = .m) hF (fun k hk => by
      rcases hk with hk | hk
      · exact ⟨.wy, .inl rfl, hk⟩
      · exact ⟨.m, .inr rfl, hk.symm⟩)⟩
/-- s, k, lf: the cutter's own sum and what is left in it, ahead of its write -/
theorem WriteR (h : SP (famW B X Y R S least most bits g) B w) {L : Option Addr} {m c : Nat} {l lf : List UInt8} {s : Int} {k : Nat} (hI : In w L m l) (hm : m ≤ 1048576) (hok : CutsOk least most bits) (h1 : g.la.length ≤ 1048576)
    (e1 : wrL least most bits 0 0 [] g.la = ((wrL least most bits 0 0 [] g.la).1, s, k, lf)) (e2 : g.rt = (wrL least most bits 0 0 [] g.la).1.length) :
    Calls Try.prog 15 #[.pointer (some ⟨R, 0, none⟩), .slice L m c] w (fun e w' => ∃ (O : Option Addr) (oc : Nat) (vs : List Pc) (RA : Option Addr) (rc : Nat), e = .returned (.slice O vs.length oc) ∧ byP vs = (wrL least most bits s k lf l).1 ∧ (∀ p, p ∈ vs → PcIn RA (g.la ++ l).length (g.la ++ l) p) ∧
    SP (famW B X Y R S least most bits { g with RA := RA, rc := rc, la := g.la ++ l, rt := (wrL least most bits 0 0 [] (g.la ++ l)).1.length, O3 := O, oc3 := oc, vs := vs }) B w' ∧ Below B w w') := by
  obtain ⟨n1, _, n3⟩ := wr_next (l := l) e1 e2
  refine (RWrite_any B R least most bits g.RA g.rc g.la g.rt L m c l w ⟨h.hold .r, h.hold .ra, (h.inb .r R rfl).1⟩ hI hok (by omega) n3).mono ?_
  rintro e w' ⟨O, oc, vs, RA, rc, rfl, hvs, hO, hpc, hRC, hF, hat⟩
  exact ⟨O, oc, vs, RA, rc, rfl, hvs.trans n1, hpc, SPW.writeR h hRC hO hF hat, h.to_below (fun z => z = .r ∨ z = .ra) hF (fun k hk => by
    rcases hk with hk | hk
    · exact ⟨.r, .inl rfl, hk⟩
    · exact ⟨.ra, .inr rfl, hk.symm⟩)⟩
theorem WriteS (h : SP (famW B X Y R S least most bits g) B w) {L : Option Addr} {m c : Nat} {l lf : List UInt8} {s : Int} {k : Nat} (hI : In w L m l) (hm : m ≤ 1048576) (h1 : g.ls.length ≤ 1048576)
    (e1 : wrL 64 100 3 0 0 [] g.ls = ((wrL 64 100 3 0 0 [] g.ls).1, s, k, lf)) (e2 : g.st = (wrL 64 100 3 0 0 [] g.ls).1.length) :
    Calls Try.prog 15 #[.pointer (some ⟨S, 0, none⟩), .slice L m c] w (fun e w' => ∃ (O : Option Addr) (oc : Nat) (us : List Pc) (SA : Option Addr) (sc : Nat), e = .returned (.slice O us.length oc) ∧ byP us = (wrL 64 100 3 s k lf l).1 ∧ (∀ p, p ∈ us → PcIn SA (g.ls ++ l).length (g.ls ++ l) p) ∧
    SP (famW B X Y R S least most bits { g with SA := SA, sc := sc, ls := g.ls ++ l, st := (wrL 64 100 3 0 0 [] (g.ls ++ l)).1.length, O4 := O, oc4 := oc, us := us }) B w' ∧ Below B w w') := by
  obtain ⟨n1, _, n3⟩ := wr_next (l := l) e1 e2
  refine (RWrite_any B S 64 100 3 g.SA g.sc g.ls g.st L m c l w ⟨h.hold .s, h.hold .sa, (h.inb .s S rfl).1⟩ hI ok2 (by omega) n3).mono ?_
  rintro e w' ⟨O, oc, us, SA, sc, rfl, hus, hO, hpc, hRC, hF, hat⟩
  exact ⟨O, oc, us, SA, sc, rfl, hus.trans n1, hpc, SPW.writeS h hRC hO hF hat, h.to_below (fun z => z = .s ∨ z = .sa) hF (fun k hk => by
    rcases hk with hk | hk
    · exact ⟨.s, .inl rfl, hk⟩
    · exact ⟨.sa, .inr rfl, hk.symm⟩)⟩
theorem Room (h : SP (famW B X Y R S least most bits g) B w) {L : Option Addr} {m c : Nat} {l : List UInt8} (hI : In w L m l) (hm : m ≤ 1048576) :
    Calls Try.prog 13 #[.slice L m c] w (fun e w' => ∃ (IA : Option Addr) (ic : Nat), e = .returned (.slice IA m ic) ∧ SP (famW B X Y R S least most bits { g with IA := IA, ic := ic, il := l ++ [77] }) B w' ∧ Below B w w') := by
  refine (room_any L m c l w hI (by omega)).mono ?_
  rintro e w' ⟨IA, ic, rfl, hic, hO, hb⟩
  have hil : (l ++ [77]).length = m + 1 := by rw [List.length_append, hI.len]; rfl
  rw [← hil] at hO
  exact ⟨IA, ic, rfl, SPW.room h hO hb, hb.mono h.le⟩
/-- a piece of the list goes into the book -/
theorem KeepT (h : SP (famW B X Y R S least most bits g) B w) {p : Pc} (hp : g.ps[g.done]? = some p) (h1 : g.pgs.length ≤ 4294967296) (h2 : p.2.2.length ≤ 4294967296) :
    Calls Try.prog 12 #[.slice g.L g.pgs.length g.c, .slice p.1 p.2.2.length p.2.1] w (fun e w' => ∃ (L : Option Addr) (c : Nat) (pg : Pg), e = .returned (.slice L (g.pgs.length + 1) c) ∧
      SP (famW B X Y R S least most bits { g with L := L, c := c, pgs := g.pgs ++ [pg], done := g.done + 1 }) B w' ∧ Below B w w') := by
  refine (keep_any B B g.L g.c g.pgs p.1 p.2.2.length p.2.1 p.2.2 w (h.hold .bk) (SPW.piece h hp (Nat.le_refl _)) h.le h.le (by omega) (by omega)).mono ?_
  rintro e w' ⟨O, oc, L, c, rfl, hrow, hpi, hF, hL, hO, hap⟩
  refine ⟨L, c, _, rfl, SPW.keepT h hp hrow hpi hF hL hO hap, h.to_below (fun z => z = .bk ∨ z = .t g.done) hF (fun k hk => ?_)⟩
  rcases hk with hk | hk
  · exact ⟨.bk, .inl rfl, hk.symm⟩
  · exact ⟨.t g.done, .inr rfl, by simp only [famW, Nat.lt_irrefl, if_false, hp, optC]; exact hk.symm⟩
theorem row_at {ps : List Pc} {O : Option Addr} {oc k : Nat} {p : Pc} (h : w.ownsRow B 32 1 (.slice O ps.length oc) ps.length (svs ps)) (hp : ps[k]? = some p) : ∃ b, O = some ⟨b, 0, none⟩ ∧ b < w.heap.size ∧ w.cell? ⟨b, k, none⟩ = some (.slice p.1 p.2.2.length p.2.1) := by
  have hk := (List.getElem?_eq_some_iff.1 hp).1
  obtain ⟨b, cap, hv, _, hlt⟩ := h.form (by omega)
  injection hv with hO _ hcap
  subst hO
  subst hcap
  have z1 := h.cellAt k (by omega)
  rw [svs_at hp] at z1
  exact ⟨b, rfl, hlt, z1⟩
theorem EndX (h : SP (famW B X Y R S least most bits g) B w) :
    Calls Try.prog 10 #[.pointer (some ⟨X, 0, none⟩)] w fun e w' => e = .returned g.lv ∧ SP (famW B X Y R S least most bits { g with LA := none, lc := 0, left := [], sum := 0, n := 0, PA := g.LA, pc := g.lc, pl := g.left }) B w' ∧ Below B w w' := by
  refine (End_any X g.lv least most bits g.sum g.n w (h.hold .wx)).mono ?_
  rintro e w' ⟨rfl, hX, hF⟩
  exact ⟨rfl, SPW.endX h hX hF, h.to_below (fun z => z = .wx) hF (fun k hk => ⟨.wx, rfl, hk⟩)⟩
theorem EndY (h : SP (famW B X Y R S least most bits g) B w) :
    Calls Try.prog 10 #[.pointer (some ⟨Y, 0, none⟩)] w fun e w' => e = .returned g.mv ∧ SP (famW B X Y R S least most bits { g with MA := none, mc := 0, lefy := [], suy := 0, ny := 0, IA := g.MA, ic := g.mc, il := g.lefy }) B w' ∧ Below B w w' := by
  refine (End_any Y g.mv 64 100 3 g.suy g.ny w (h.hold .wy)).mono ?_
  rintro e w' ⟨rfl, hX, hF⟩
  exact ⟨rfl, SPW.endY h hX hF, h.to_below (fun z => z = .wy) hF (fun k hk => ⟨.wy, rfl, hk⟩)⟩
theorem EndR (h : SP (famW B X Y R S least most bits g) B w) {lf : List UInt8} {s : Int} {k : Nat} (hok : CutsOk least most bits) (h1 : g.la.length ≤ 1048576)
    (e1 : wrL least most bits 0 0 [] g.la = ((wrL least most bits 0 0 [] g.la).1, s, k, lf)) (e2 : g.rt = (wrL least most bits 0 0 [] g.la).1.length) :
    Calls Try.prog 11 #[.pointer (some ⟨R, 0, none⟩)] w fun e w' => ∃ (F : Option Addr) (fc : Nat), e = .returned (.slice F lf.length fc) ∧ In w' F lf.length lf ∧ SP (famW B X Y R S least most bits { g with RA := none, rc := 0, la := [], rt := 0 }) B w' ∧ Below B w w' := by
  have hlf : (wrL least most bits 0 0 [] g.la).2.2.2 = lf := by rw [e1]
  refine (REnd_any B R least most bits g.RA g.rc g.la g.rt w ⟨h.hold .r, h.hold .ra, (h.inb .r R rfl).1⟩ hok (by omega) e2).mono ?_
  rw [hlf]
  rintro e w' ⟨F, fc, rfl, hF, hRC, hFr⟩
  exact ⟨F, fc, rfl, hF, SPW.endR h hRC hFr, h.to_below (fun z => z = .r) hFr (fun k hk => ⟨.r, rfl, hk⟩)⟩
theorem EndS (h : SP (famW B X Y R S least most bits g) B w) {lf : List UInt8} {s : Int} {k : Nat} (h1 : g.ls.length ≤ 1048576)
    (e1 : wrL 64 100 3 0 0 [] g.ls = ((wrL 64 100 3 0 0 [] g.ls).1, s, k, lf)) (e2 : g.st = (wrL 64 100 3 0 0 [] g.ls).1.length) :
    Calls Try.prog 11 #[.pointer (some ⟨S, 0, none⟩)] w fun e w' => ∃ (F : Option Addr) (fc : Nat), e = .returned (.slice F lf.length fc) ∧ In w' F lf.length lf ∧ SP (famW B X Y R S least most bits { g with SA := none, sc := 0, ls := [], st := 0 }) B w' ∧ Below B w w' := by
  have hlf : (wrL 64 100 3 0 0 [] g.ls).2.2.2 = lf := by rw [e1]
  refine (REnd_any B S 64 100 3 g.SA g.sc g.ls g.st w ⟨h.hold .s, h.hold .sa, (h.inb .s S rfl).1⟩ ok2 (by omega) e2).mono ?_
  rw [hlf]
  rintro e w' ⟨F, fc, rfl, hF, hRC, hFr⟩
  exact ⟨F, fc, rfl, hF, SPW.endS h hRC hFr, h.to_below (fun z => z = .s) hFr (fun k hk => ⟨.s, rfl, hk⟩)⟩
theorem Kept (h : SP (famW B X Y R S least most bits g) B w) (hp : g.pgs.length ≤ 4294967296) : Calls Try.prog 17 #[.slice g.L g.pgs.length g.c] w fun e w' => e = .returned (.bool true) ∧ Below B w w' := by
  have hb : w.ownsRow B 73 3 (.slice g.L g.pgs.length g.c) g.pgs.length (pgv g.pgs) := h.hold .bk
  refine (kept_any g.L g.c g.pgs w (Rd.of_own hb) (fun ad had => (own_lt hb (own_addr hb had)).2) (SPW.pages h) (own_le hb) (by omega)).mono ?_
  rintro e w' ⟨rfl, hb⟩
  exact ⟨rfl, hb.mono h.le⟩
/-- what the parts hold behind a round's writes -/
structure GF (least most bits : Int) (g G : LG) (s8 s9 : CG) (l : List UInt8) (vs us : List Pc) (O3 : Option Addr) (oc3 : Nat) (O4 : Option Addr) (oc4 : Nat) (RA SA IA : Option Addr) (ic : Nat) : Prop where
  L : G.L = g.L
  c : G.c = g.c
  pgs : G.pgs = g.pgs
  ps : G.ps = s8.ps
  dn : G.done = 0
  O : G.O = s8.O
  oc : G.oc = s8.oc
  qs : G.qs = s9.ps
  O2 : G.O2 = s9.O
  oc2 : G.oc2 = s9.oc
  vs : G.vs = vs
  O3 : G.O3 = O3
  oc3 : G.oc3 = oc3
  us : G.us = us
  O4 : G.O4 = O4
  oc4 : G.oc4 = oc4
  IA : G.IA = IA
  ic : G.ic = ic
  RA : G.RA = RA
  SA : G.SA = SA
  la : G.la = g.la ++ l
  rt : G.rt = (wrL least most bits 0 0 [] (g.la ++ l)).1.length
  ls : G.ls = g.ls ++ l
  st : G.st = (wrL 64 100 3 0 0 [] (g.ls ++ l)).1.length
  lf : G.left = s8.left
  sm : G.sum = s8.sum
  n : G.n = s8.n
  lg : G.lefy = s9.left
  sy : G.suy = s9.sum
  ny : G.ny = s9.n
end
end Go.Proofs.Ytglkahonejblpaa
