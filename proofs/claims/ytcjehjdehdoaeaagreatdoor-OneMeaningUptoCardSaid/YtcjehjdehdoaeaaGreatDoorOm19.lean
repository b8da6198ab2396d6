/-
  Laws on the way to the claim (OqJ). Conditions: those that each theorem states.
-/
import Derived.Test.YtcjehjdehdoaeaaGreatDoorOm18
set_option linter.unusedVariables false
set_option linter.unusedSimpArgs false
set_option maxRecDepth 1000000
set_option maxHeartbeats 16000000
namespace Go.Proofs.YtcjehjdehdoaeaaGreatDoor
open Go.RowKit
def afterR (n : Nat) : Code → Option Code
 | .seq (.region k _ _) b => if k = n then some b else afterR n b
 | .seq a b => match afterR n b with
  | some c => some c
  | none => match afterR n a with
   | some c => some (.seq c b)
   | none => none
 | _ => none
noncomputable def tail11 : Code := ((Tryz.f194.body.bind (afterR 11)).getD .skip)
noncomputable def tail20 : Code := ((Tryz.f194.body.bind (afterR 20)).getD .skip)
theorem ckF_len (l : List UInt8) (he : (ckF l).e = 0) : 1 ≤ (ckF l).n ∧ (ckF l).n ≤ l.length ∧ (ckF l).n ≤ 6 := by
 cases l with
 | nil => simp [ckF] at he
 | cons f t =>
  have hc : (f :: t).length = t.length + 1 := rfl;unfold ckF ckProps at he ⊢;simp only [] at he ⊢
  (repeat' split at he) <;> (repeat' split) <;> simp_all <;> omega
theorem ckF_bd (l : List UInt8) : (ckF l).n ≤ 6 ∧ (ckF l).c.p ≤ 65536 ∧ (ckF l).c.n ≤ 2097152 := by
 have h1 : hi2 l 1 ≤ 65535 := by unfold hi2; have := (l.getD 1 0).toNat_lt; have := (l.getD (1 + 1) 0).toNat_lt; omega
 have h3 : hi2 l 3 ≤ 65535 := by unfold hi2; have := (l.getD 3 0).toNat_lt; have := (l.getD (3 + 1) 0).toNat_lt; omega
 unfold ckF;cases l with
 | nil => simp [Ck.zero]
 | cons f t =>
  simp only [ckProps]
  (repeat' split) <;> simp [Ck.zero] <;> omega
theorem Rw.setAt {x : RwX} {s : RwS} {w : World} (h : Rw x s w) (k : Nat) (hk : k ≤ x.l.length) : Rw x ⟨k, s.plain, s.ord⟩ (w.setCell ⟨x.b, 1, none⟩ (.int .i64 (k : Int))) := by
 refine ⟨?_, h.o.far (p := ⟨x.b, 1, none⟩) (fun e => h.ne e.symm) _, h.d.fr (Fr.set1 (Fr.refl (fun k => k = x.b) _) 1 _) (fun h0 ad had => (h.n ad had h0).1), h.c, hk, h.p, h.r, h.n, h.z⟩
 have := h.b.set_ 1 (.int .i64 (k : Int));simpa using this
theorem Rw.setPlain {x : RwX} {s : RwS} {w : World} (h : Rw x s w) (k : Nat) (hk : k ≤ 4398046511104) : Rw x ⟨s.at_, k, s.ord⟩ (w.setCell ⟨x.b, 2, none⟩ (.int .i64 (k : Int))) := by
 refine ⟨?_, h.o.far (p := ⟨x.b, 2, none⟩) (fun e => h.ne e.symm) _, h.d.fr (Fr.set1 (Fr.refl (fun k => k = x.b) _) 2 _) (fun h0 ad had => (h.n ad had h0).1), h.c, h.i, hk, h.r, h.n, h.z⟩
 have := h.b.set_ 2 (.int .i64 (k : Int));simpa using this
theorem nx_ok {x : RwX} {s : RwS} {R N : Nat} {w w12 : World} (h : NxW x s R N w w12) (fr : Nat) (c : Ck) {ab ao : Nat} (hA : x.A = some ⟨ab, ao, none⟩) (h1 : fr + c.p ≤ x.l.length) (A' : Option Addr) (c' : Nat)
 (hA' : A' = (if x.c = fr then x.A else x.A.map (·.add fr))) (hc' : c.p ≤ c') (r : NxR) (hr : r = ⟨c, fr, 0, fr, s⟩) (z : Int) (hz : z = (fr : Int)) {a : Act}
 (ht : a.tmps[2]? = some (.pointer (some ⟨R, 0, none⟩)) ∧ a.tmps[3]? = some (.slice A' c.p c') ∧ a.tmps[4]? = some (.int .i64 z) ∧ a.tmps[5]? = some (.int .i64 0)) (hd : a.defers = []) {w9 : World} (hw9 : w9 = (six w12 R c).drew) :
 bodyPost Tryz.prog Tryz.f194 (NxPost x r w) .ret a w9 := by
 subst hw9;obtain ⟨o1, o2, o3, _⟩ := h.out c;obtain ⟨wz, hwz⟩ : ∃ wz, (six w12 R c).drew = wz := ⟨_, rfl⟩;have hB : Blk wz R 223 c.cs := by rw [← hwz]; exact o1.drew
 have hF : Fr (fun k => k = x.b ∨ k = x.o) w wz := by rw [← hwz]; exact o2.drew
 have hJ : Rw x s wz := by rw [← hwz]; exact o3.below (Below.refl _ _).drew
 rw [hwz];clear o1 o2 o3 hwz h;have hI := (hJ.d.cut (k := fr) (by omega) hJ.c).take (k := c.p) (by omega)
 rw [← hA'] at hI;have hbk : ∀ ad, A' = some ad → ad.block = ab := fun ad had => by
  rw [hA', hA] at had;by_cases hx : x.c = fr
  · rw [if_pos hx] at had; injection had with had; rw [← had]
  · rw [if_neg hx, Option.map_some] at had; injection had with had; rw [← had]; exact block_add _ _
 clear hA';have p0 := hB.cell 0;have p1 := hB.cell 1;have p2 := hB.cell 2;have p3 := hB.cell 3;have p4 := hB.cell 4;have p5 := hB.cell 5;simp [Ck.cs] at p0 p1 p2 p3 p4 p5;subst hz hr;exact bodyPost_ret (v := .tuple #[.agg c.cs, .slice A' c.p c', .int .i64 (fr : Int), .int .i64 0]) (by simp [results, Tryz.results194, go_sem, Ck.cs, ht.1, ht.2.1, ht.2.2.1, ht.2.2.2, p0, p1, p2, p3, p4, p5]) hd ⟨hF, by rw [if_pos rfl]; exact ⟨A', c', rfl, hI, hc', fun ad had => ⟨_, hA, hbk ad had⟩, hJ⟩⟩
theorem tail_end (x : RwX) (at_ plain mv R C m : Nat) (P Z : Int) (qk qn qp ql qlp qpb n9 : Nat) (r : NxR) (w w12 : World) (h12 : NxW x ⟨at_ + n9 + qp, plain + qn, mv⟩ R (R + 1) w w12)
 (hC : Blk w12 C 223 #[.int .i64 qk, .int .i64 qn, .int .i64 qp, .int .i64 ql, .int .i64 qlp, .int .i64 qpb]) (hCR : ¬ C = R) (hbR : ¬ x.b = R) (hbC : ¬ x.b = C)
 (HC : Hid (∀ (s : RwS) (W : World), NxW x s R (R + 1) w W → W.cell? ⟨x.b, 0, none⟩ = some (.slice x.A m x.c) ∧ W.cell? ⟨x.b, 1, none⟩ = some (.int .i64 s.at_) ∧ W.cell? ⟨x.b, 2, none⟩ = some (.int .i64 s.plain) ∧ W.cell? ⟨x.b, 3, none⟩ = some (.int .i64 P) ∧ W.cell? ⟨x.b, 4, none⟩ = some (.int .i64 Z) ∧ W.cell? ⟨x.b, 5, none⟩ = some (.pointer (some ⟨x.o, 0, none⟩))))
 (HPZ : Hid (x.packed = P ∧ x.size = Z ∧ x.l.length = m)) (HR4 : Hid ((⟨⟨qk, qn, qp, ql, qlp, qpb⟩, at_ + n9, 0, at_ + n9, ⟨at_ + n9 + qp, plain + qn, mv⟩⟩ : NxR) = r)) (hat : at_ + n9 ≤ m) (h0 : at_ < m) (hle : at_ + n9 + qp ≤ m) (hc : m ≤ x.c) (hz : m ≤ 1099511627776)
 (u1 u3 u4 u5 u7 u9 u10 u12 u13 u14 u15 u16 u17 u18 u19 u20 u21 u22 u23 u24 u25 u26 u27 u28 u29 u30 u31 u32 u33 u34 u35 u36 u37 u38 u39 u40 u41 u42 u43 u44 u45 u46 u47 u48 u49 u50 u51 u52 u53 u54 u55 u56 u57 u58 u59 u60 u61 u62 u63 u64 u65 u66 u67 u68 u69 u70 u71 u72 u73 u74 u75 u76 u77 u78 u79 u80 u81 u82 u83 u84 u85 u86 u87 u88 u89 u90 u91 u92 u93 u94 u95 u96 u97 u98 u99 u100 u101 u102 u103 u104 u105 u106 u107 u108 u109 u110 u111 u112 u113 u114 u115 u116 u117 u118 u119 u120 u121 u122 u123 u124 u125 u126 u127 u128 u129 u130 u131 u132 u133 u134 u135 u136 u137 u138 u139 u140 u141 u142 u143 u144 u145 u146 u147 u148 u149 u150 u151 u152 u153 u154 u155 u156 u157 u158 u159 u160 u161 u162 u163 u164 u165 u166 u167 u168 u169 u170 u171 u172 u173 u174 u175 u176 u177 : Value) :
 Code.wp Tryz.prog tail20 (bodyPost Tryz.prog Tryz.f194 (NxPost x r w)) ⟨#[.pointer (some ⟨x.b, 0, none⟩), u1, .pointer (some ⟨R, 0, none⟩), u3, u4, u5, .pointer (some ⟨R + 1, 0, none⟩), u7, .pointer (some ⟨C, 0, none⟩), u9, u10, .int .i64 ((at_ : Int) + (n9 : Int)), u12, u13, u14, u15, u16, u17, u18, u19, u20, u21, u22, u23, u24, u25, u26, u27, u28, u29, u30, u31, u32, u33, u34, u35, u36, u37, u38, u39, u40, u41, u42, u43, u44, u45, u46, u47, u48, u49, u50, u51, u52, u53, u54, u55, u56, u57, u58, u59, u60, u61, u62, u63, u64, u65, u66, u67, u68, u69, u70, u71, u72, u73, u74, u75, u76, u77, u78, u79, u80, u81, u82, u83, u84, u85, u86, u87, u88, u89, u90, u91, u92, u93, u94, u95, u96, u97, u98, u99, u100, u101, u102, u103, u104, u105, u106, u107, u108, u109, u110, u111, u112, u113, u114, u115, u116, u117, u118, u119, u120, u121, u122, u123, u124, u125, u126, u127, u128, u129, u130, u131, u132, u133, u134, u135, u136, u137, u138, u139, u140, u141, u142, u143, u144, u145, u146, u147, u148, u149, u150, u151, u152, u153, u154, u155, u156, u157, u158, u159, u160, u161, u162, u163, u164, u165, u166, u167, u168, u169, u170, u171, u172, u173, u174, u175, u176, u177], []⟩ w12 := by
 have H12 := Lib.hid h12;have HC12 := Lib.hid hC;clear h12 hC
 conv => arg 2; whnf
 obtain ⟨c0, c1, c2, c3, c4, c5⟩ := HC.out _ w12 H12.out;simp only [] at c1 c2;have c1 : w12.cell? ⟨x.b, 1, none⟩ = some (.int .i64 ((at_ : Int) + (n9 : Int) + (qp : Int))) := by rw [c1, show ((at_ + n9 + qp : Nat) : Int) = (at_ : Int) + (n9 : Int) + (qp : Int) by omega]
 obtain ⟨ab, ao, hA, _⟩ := H12.out.j.d.1.cells_at (by rw [HPZ.out.2.2]; omega)
 have HA := Lib.hid hA;rw [hA] at c0;obtain ⟨⟨r0, r1, r2, r3, r4, r5⟩, ⟨f0, f1, f2, f3, f4, f5⟩, _⟩ := H12.out.cells;have d0 : w12.cell? ⟨C, 0, none⟩ = some (.int .i64 qk) := HC12.out.cell 0;have d1 : w12.cell? ⟨C, 1, none⟩ = some (.int .i64 qn) := HC12.out.cell 1;have d2 : w12.cell? ⟨C, 2, none⟩ = some (.int .i64 qp) := HC12.out.cell 2;have d3 : w12.cell? ⟨C, 3, none⟩ = some (.int .i64 ql) := HC12.out.cell 3
 have d4 : w12.cell? ⟨C, 4, none⟩ = some (.int .i64 qlp) := HC12.out.cell 4;have d5 : w12.cell? ⟨C, 5, none⟩ = some (.int .i64 qpb) := HC12.out.cell 5;have e1 : (0 : Int) ≤ (at_ : Int) + (n9 : Int) := by omega
 have e2 : (at_ : Int) + (n9 : Int) ≤ (at_ : Int) + (n9 : Int) + (qp : Int) := by omega
 have e3 : (at_ : Int) + (n9 : Int) + (qp : Int) ≤ (x.c : Int) := by omega
 have e4 : ((at_ : Int) + (n9 : Int)).toNat = at_ + n9 := by omega
 have e5 : ((at_ : Int) + (n9 : Int) + (qp : Int)).toNat = at_ + n9 + qp := by omega
 have e6 : at_ + n9 + qp - (at_ + n9) = qp := by omega
 by_cases hcf : x.c = at_ + n9
 · have HCF := Lib.hid hcf;clear hcf;go_wp2_with fail
   go_region
   all_goals
    go_wp2_with fail;exact nx_ok H12.out (at_ + n9) ⟨qk, qn, qp, ql, qlp, qpb⟩ HA.out (by rw [HPZ.out.2.2]; exact hle) (some ⟨ab, ao, none⟩) 0 (by rw [if_pos HCF.out, HA.out]) (by show qp ≤ 0; have := HCF.out; omega) r HR4.out.symm ((at_ : Int) + (n9 : Int)) (by omega) ⟨rfl, rfl, rfl, rfl⟩ rfl rfl
 · have HCF := Lib.hid hcf;go_wp2_with fail
   go_region
   all_goals
    go_wp2_with fail;exact nx_ok H12.out (at_ + n9) ⟨qk, qn, qp, ql, qlp, qpb⟩ HA.out (by rw [HPZ.out.2.2]; exact hle) (some ⟨ab, ao + (at_ + n9), none⟩) (x.c - (at_ + n9)) (by rw [if_neg HCF.out, HA.out]; simp only [Option.map_some]; congr 1; unfold Addr.add; split <;> simp_all) (by show qp ≤ x.c - (at_ + n9); omega) r HR4.out.symm ((at_ : Int) + (n9 : Int)) (by omega) ⟨rfl, rfl, rfl, rfl⟩ rfl rfl
theorem tail_row (x : RwX) (at_ plain ord mv R C : Nat) (qk qn qp ql qlp qpb n9 e9 : Nat) (r : NxR) (w w8 : World) (h8 : NxW x ⟨at_, plain, mv⟩ R (R + 1) w w8)
 (hC : Blk w8 C 223 #[.int .i64 qk, .int .i64 qn, .int .i64 qp, .int .i64 ql, .int .i64 qlp, .int .i64 qpb]) (hCo : R + 1 < C) (hp : plain + 2097152 ≤ 4398046511104) (hqn : qn ≤ 2097152) (hqp : qp ≤ 65536) (hn9 : n9 ≤ 6)
 (hat : e9 = 0 → at_ + n9 ≤ x.l.length) (h0 : e9 = 0 → at_ < x.l.length)
 (hr : nextC x.l x.packed x.size ⟨at_, plain, ord⟩ mv ⟨⟨qk, qn, qp, ql, qlp, qpb⟩, n9, e9⟩ = r)
 (u1 u3 u4 u5 u7 u11 u12 u13 u14 u15 u16 u17 u18 u19 u20 u21 u22 u23 u24 u25 u26 u27 u28 u29 u30 u31 u32 u33 u34 u35 u36 u37 u38 u39 u40 u41 u42 u43 u44 u45 u46 u47 u48 u49 u50 u51 u52 u53 u54 u55 u56 u57 u58 u59 u60 u61 u62 u63 u64 u65 u66 u67 u68 u69 u70 u71 u72 u73 u74 u75 u76 u77 u78 u79 u80 u81 u82 u83 u84 u85 u86 u87 u88 u89 u90 u91 u92 u93 u94 u95 u96 u97 u98 u99 u100 u101 u102 u103 u104 u105 u106 u107 u108 u109 u110 u111 u112 u113 u114 u115 u116 u117 u118 u119 u120 u121 u122 u123 u124 u125 u126 u127 u128 u129 u130 u131 u132 u133 u134 u135 u136 u137 u138 u139 u140 u141 u142 u143 u144 u145 u146 u147 u148 u149 u150 u151 u152 u153 u154 u155 u156 u157 u158 u159 u160 u161 u162 u163 u164 u165 u166 u167 u168 u169 u170 u171 u172 u173 u174 u175 u176 u177 : Value) :
 Code.wp Tryz.prog tail11 (bodyPost Tryz.prog Tryz.f194 (NxPost x r w)) ⟨#[.pointer (some ⟨x.b, 0, none⟩), u1, .pointer (some ⟨R, 0, none⟩), u3, u4, u5, .pointer (some ⟨R + 1, 0, none⟩), u7, .pointer (some ⟨C, 0, none⟩), .int .i64 n9, .int .i64 e9, u11, u12, u13, u14, u15, u16, u17, u18, u19, u20, u21, u22, u23, u24, u25, u26, u27, u28, u29, u30, u31, u32, u33, u34, u35, u36, u37, u38, u39, u40, u41, u42, u43, u44, u45, u46, u47, u48, u49, u50, u51, u52, u53, u54, u55, u56, u57, u58, u59, u60, u61, u62, u63, u64, u65, u66, u67, u68, u69, u70, u71, u72, u73, u74, u75, u76, u77, u78, u79, u80, u81, u82, u83, u84, u85, u86, u87, u88, u89, u90, u91, u92, u93, u94, u95, u96, u97, u98, u99, u100, u101, u102, u103, u104, u105, u106, u107, u108, u109, u110, u111, u112, u113, u114, u115, u116, u117, u118, u119, u120, u121, u122, u123, u124, u125, u126, u127, u128, u129, u130, u131, u132, u133, u134, u135, u136, u137, u138, u139, u140, u141, u142, u143, u144, u145, u146, u147, u148, u149, u150, u151, u152, u153, u154, u155, u156, u157, u158, u159, u160, u161, u162, u163, u164, u165, u166, u167, u168, u169, u170, u171, u172, u173, u174, u175, u176, u177], []⟩ w8 := by
 obtain ⟨P, hP⟩ : ∃ P, x.packed = P := ⟨_, rfl⟩;obtain ⟨Z, hZ⟩ : ∃ Z, x.size = Z := ⟨_, rfl⟩;obtain ⟨m, hmm⟩ : ∃ m, x.l.length = m := ⟨_, rfl⟩;have hz : m ≤ 1099511627776 := by rw [← hmm]; exact h8.j.z
 have hi : at_ ≤ m := by rw [← hmm]; exact h8.j.i
 have hc : m ≤ x.c := by rw [← hmm]; exact h8.j.c
 have HC : Hid (∀ (s : RwS) (W : World), NxW x s R (R + 1) w W → W.cell? ⟨x.b, 0, none⟩ = some (.slice x.A m x.c) ∧ W.cell? ⟨x.b, 1, none⟩ = some (.int .i64 s.at_) ∧ W.cell? ⟨x.b, 2, none⟩ = some (.int .i64 s.plain) ∧ W.cell? ⟨x.b, 3, none⟩ = some (.int .i64 P) ∧ W.cell? ⟨x.b, 4, none⟩ = some (.int .i64 Z) ∧ W.cell? ⟨x.b, 5, none⟩ = some (.pointer (some ⟨x.o, 0, none⟩))) := fun s W hW => by
  have := hW.j.six;rw [hP, hZ, hmm] at this;exact this
 have HR := Lib.hid (show (if e9 ≠ 0 then NxR.no ⟨at_, plain, ord⟩ e9 at_ else if (beyondB P ((at_ + n9 + qp : Nat) : Int) || beyondB Z ((plain + qn : Nat) : Int)) = true then .no ⟨at_, plain, ord⟩ 2 at_ else if m - (at_ + n9) < qp then .no ⟨at_, plain, ord⟩ 1 (at_ + n9) else ⟨⟨qk, qn, qp, ql, qlp, qpb⟩, at_ + n9, 0, at_ + n9, ⟨at_ + n9 + qp, plain + qn, mv⟩⟩) = r by rw [← hP, ← hZ, ← hmm]; exact hr)
 have HPZ := Lib.hid (And.intro hP (And.intro hZ hmm));rw [hmm] at hat h0;have H8 := Lib.hid h8;have HC8 := Lib.hid hC;have hbR : ¬ x.b = R := BT.ne ⟨_, h8.j.b⟩ ⟨_, h8.r⟩ (by decide)
 have hbN : ¬ x.b = R + 1 := BT.ne ⟨_, h8.j.b⟩ ⟨_, h8.n⟩ (by decide)
 have hNR : ¬ R + 1 = R := by omega
 have hbC : ¬ x.b = C := BT.ne ⟨_, h8.j.b⟩ ⟨_, hC⟩ (by decide)
 have hCR : ¬ C = R := by omega
 have hCN : ¬ C = R + 1 := by omega
 obtain ⟨c0, c1, c2, c3, c4, c5⟩ := HC.out _ w8 h8;simp only [] at c1 c2;have d1 : w8.cell? ⟨C, 1, none⟩ = some (.int .i64 qn) := hC.cell 1;have d2 : w8.cell? ⟨C, 2, none⟩ = some (.int .i64 qp) := hC.cell 2;clear hP hZ hmm h8 hC hr
 conv => arg 2; whnf
 by_cases he9 : e9 = 0
 · subst he9;have hat1 := hat rfl;have h01 := h0 rfl;clear hat h0;have HR2 := Lib.hid (by have := HR.out; rw [if_neg (by decide)] at this; exact this)
   have hw1 : IntKind.i64.wrap ((at_ : Int) + (n9 : Int)) = (at_ : Int) + (n9 : Int) := IntWalk.i64_in _ (by omega)
   have hw2 : IntKind.i64.wrap ((at_ : Int) + (n9 : Int) + (qp : Int)) = (at_ : Int) + (n9 : Int) + (qp : Int) := IntWalk.i64_in _ (by omega)
   have hw3 : IntKind.i64.wrap ((plain : Int) + (qn : Int)) = (plain : Int) + (qn : Int) := IntWalk.i64_in _ (by omega)
   have HB1 := Lib.hid (fun W => beyond_any P ((at_ : Int) + (n9 : Int) + (qp : Int)) W)
   have HB2 := Lib.hid (fun W => beyond_any Z ((plain : Int) + (qn : Int)) W)
   rw [show ((at_ + n9 + qp : Nat) : Int) = (at_ : Int) + (n9 : Int) + (qp : Int) by omega, show ((plain + qn : Nat) : Int) = (plain : Int) + (qn : Int) by omega] at HR2
   obtain ⟨b1, hb1⟩ : ∃ z, beyondB P ((at_ : Int) + (n9 : Int) + (qp : Int)) = z := ⟨_, rfl⟩;obtain ⟨b2, hb2⟩ : ∃ z, beyondB Z ((plain : Int) + (qn : Int)) = z := ⟨_, rfl⟩;rw [hb1] at HB1 HR2;rw [hb2] at HB2 HR2;clear HR hb1 hb2;go_wp2_with fail;cases b1
   · cases b2
     · have HR3 := Lib.hid (by have := HR2.out; rw [if_neg (by decide)] at this; exact this)
       clear HR2
       go_quiet ((go_at_call 202; first | (with_reducible exact Calls.quiet_of_same (HB1.out _)) | (with_reducible exact Calls.quiet_of_same (HB2.out _))))
       have H9 := Lib.hid (H8.out.drewN nq);have HC9 := Lib.hid (HC8.out.drewN nq);obtain ⟨w9, hw9⟩ : ∃ z, w8.drewN nq = z := ⟨_, rfl⟩;rw [hw9] at H9 HC9 ⊢;clear hw9 HB1 HB2 c0 c1 c2 c3 c4 c5 d1 d2 HC8 H8;obtain ⟨c0, c1, c2, c3, c4, c5⟩ := HC.out _ w9 H9.out;simp only [] at c1 c2;have d1 : w9.cell? ⟨C, 1, none⟩ = some (.int .i64 qn) := HC9.out.cell 1;have d2 : w9.cell? ⟨C, 2, none⟩ = some (.int .i64 qp) := HC9.out.cell 2
       have hw5 : IntKind.i64.wrap ((m : Int) - ((at_ : Int) + (n9 : Int))) = (m : Int) - ((at_ : Int) + (n9 : Int)) := IntWalk.i64_in _ (by omega)
       by_cases hpp : m - (at_ + n9) < qp
       · have HRr := Lib.hid (by have := HR3.out; rw [if_pos hpp] at this; exact this)
         have k1 : (m : Int) - ((at_ : Int) + (n9 : Int)) < (qp : Int) := by omega
         have k2 : decide ((m : Int) - ((at_ : Int) + (n9 : Int)) < (qp : Int)) = true := decide_eq_true k1;clear HR3 hpp;go_wp2_with fail
         go_quiet (fail)
         have H10 := Lib.hid (H9.out.drewN nq);obtain ⟨w10, hw10⟩ : ∃ z, w9.drewN nq = z := ⟨_, rfl⟩;rw [hw10] at H10 ⊢;clear hw10 c0 c1 c2 c3 c4 c5 d1 d2 k1 k2 hw5;obtain ⟨⟨r0, r1, r2, r3, r4, r5⟩, ⟨f0, f1, f2, f3, f4, f5⟩, ⟨n0, n1, n2, n3, n4, n5⟩⟩ := H10.out.cells;go_wp2_with fail;exact nx_err H10.out (at_ + n9) 1 ⟨by rw [← HRr.out]; rfl, by rw [← HRr.out]; rfl⟩ (by decide) (.inl rfl) ⟨rfl, rfl, by simp, rfl⟩
       · have HR4 := Lib.hid (by have := HR3.out; rw [if_neg hpp] at this; exact this)
         have k1 : ¬ (m : Int) - ((at_ : Int) + (n9 : Int)) < (qp : Int) := by omega
         have k2 : decide ((m : Int) - ((at_ : Int) + (n9 : Int)) < (qp : Int)) = false := decide_eq_false k1;have hle : at_ + n9 + qp ≤ m := by omega
         clear HR3 hpp;go_wp2_with fail
         go_quiet (fail)
         have H10 := Lib.hid (H9.out.drewN nq);have HC10 := Lib.hid (HC9.out.drewN nq);obtain ⟨w10, hw10⟩ : ∃ z, w9.drewN nq = z := ⟨_, rfl⟩;rw [hw10] at H10 HC10 ⊢;clear hw10 c0 c1 c2 c3 c4 c5 d1 d2 k1 k2 hw5 HC9 H9;obtain ⟨c0, c1, c2, c3, c4, c5⟩ := HC.out _ w10 H10.out;simp only [] at c1 c2;have d1 : w10.cell? ⟨C, 1, none⟩ = some (.int .i64 qn) := HC10.out.cell 1;have d2 : w10.cell? ⟨C, 2, none⟩ = some (.int .i64 qp) := HC10.out.cell 2
         have g1 := H10.out.j.b.frozen 1;have g2 := H10.out.j.b.frozen 2;go_upto_region 20 with (fail);have hc1 : ((at_ : Int) + (n9 : Int) + (qp : Int)) = ((at_ + n9 + qp : Nat) : Int) := by omega
         have H11 := Lib.hid (show NxW x ⟨at_ + n9 + qp, plain, mv⟩ R (R + 1) w (w10.setCell ⟨x.b, 1, none⟩ (.int .i64 ((at_ : Int) + (n9 : Int) + (qp : Int)))) by
          rw [hc1];exact H10.out.to (H10.out.j.setAt _ (by rw [HPZ.out.2.2]; exact hle)) ((Fr.refl (fun k => k = x.b ∨ k = x.o) w10).setCell (p := ⟨x.b, 1, none⟩) (.inl (.inl rfl)) _))
         have HC11 := Lib.hid (show Blk (w10.setCell ⟨x.b, 1, none⟩ (.int .i64 ((at_ : Int) + (n9 : Int) + (qp : Int)))) C 223 _ from HC10.out.far (p := ⟨x.b, 1, none⟩) (fun e => hbC e.symm) _)
         obtain ⟨w11, hw11⟩ : ∃ z, w10.setCell ⟨x.b, 1, none⟩ (.int .i64 ((at_ : Int) + (n9 : Int) + (qp : Int))) = z := ⟨_, rfl⟩;rw [hw11] at H11 HC11 ⊢;clear hw11 hc1 c0 c1 c2 c3 c4 c5 d1 d2 HC10 H10 g1 g2;obtain ⟨c0, c1, c2, c3, c4, c5⟩ := HC.out _ w11 H11.out;simp only [] at c1 c2;have d1 : w11.cell? ⟨C, 1, none⟩ = some (.int .i64 qn) := HC11.out.cell 1;have g2 := H11.out.j.b.frozen 2;go_cut [] (fun wx => wx = (w11.setCell ⟨x.b, 2, none⟩ (.int .i64 ((plain : Int) + (qn : Int)))).drew)
         case first =>
          go_region
          all_goals
           go_wp2_with fail
           go_meet
           rfl
         case rest =>
          subst hcut;have hc2 : ((plain : Int) + (qn : Int)) = ((plain + qn : Nat) : Int) := by omega
          have H12 := Lib.hid (show NxW x ⟨at_ + n9 + qp, plain + qn, mv⟩ R (R + 1) w (w11.setCell ⟨x.b, 2, none⟩ (.int .i64 ((plain : Int) + (qn : Int)))).drew by
           rw [hc2];exact (H11.out.to (H11.out.j.setPlain _ (by omega)) ((Fr.refl (fun k => k = x.b ∨ k = x.o) w11).setCell (p := ⟨x.b, 2, none⟩) (.inl (.inl rfl)) _)).drewN 1)
          have HC12 := Lib.hid (show Blk (w11.setCell ⟨x.b, 2, none⟩ (.int .i64 ((plain : Int) + (qn : Int)))).drew C 223 _ from (HC11.out.far (p := ⟨x.b, 2, none⟩) (fun e => hbC e.symm) _).drew)
          obtain ⟨w12, hw12⟩ : ∃ z, (w11.setCell ⟨x.b, 2, none⟩ (.int .i64 ((plain : Int) + (qn : Int)))).drew = z := ⟨_, rfl⟩;rw [hw12] at H12 HC12 ⊢;clear hw12 hc2 c0 c1 c2 c3 c4 c5 d1 g2 HC11 H11;go_step;exact tail_end x at_ plain mv R C m P Z qk qn qp ql qlp qpb n9 r w w12 H12.out HC12.out hCR hbR hbC HC HPZ HR4 hat1 h01 hle hc hz _ _ _ _ _ _ _ _ _ _ _ _ _ _ _ _ _ _ _ _ _ _ _ _ _ _ _ _ _ _ _ _ _ _ _ _ _ _ _ _ _ _ _ _ _ _ _ _ _ _ _ _ _ _ _ _ _ _ _ _ _ _ _ _ _ _ _ _ _ _ _ _ _ _ _ _ _ _ _ _ _ _ _ _ _ _ _ _ _ _ _ _ _ _ _ _ _ _ _ _ _ _ _ _ _ _ _ _ _ _ _ _ _ _ _ _ _ _ _ _ _ _ _ _ _ _ _ _ _ _ _ _ _ _ _ _ _ _ _ _ _ _ _ _ _ _ _ _ _ _ _ _ _ _ _ _ _ _ _ _ _ _ _ _ _ _ _ _ _ _ _ _ _
     · have HRr := Lib.hid (by have := HR2.out; rw [if_pos (by decide)] at this; exact this)
       clear HR2
       go_quiet ((go_at_call 202; first | (with_reducible exact Calls.quiet_of_same (HB1.out _)) | (with_reducible exact Calls.quiet_of_same (HB2.out _))))
       have H9 := Lib.hid (H8.out.drewN nq);have HC9 := Lib.hid (HC8.out.drewN nq);obtain ⟨w9, hw9⟩ : ∃ z, w8.drewN nq = z := ⟨_, rfl⟩;rw [hw9] at H9 HC9 ⊢;clear hw9 HB1 HB2 c0 c1 c2 c3 c4 c5 d1 d2 HC8 H8;obtain ⟨c0, c1, c2, c3, c4, c5⟩ := HC.out _ w9 H9.out;simp only [] at c1 c2;obtain ⟨⟨r0, r1, r2, r3, r4, r5⟩, ⟨f0, f1, f2, f3, f4, f5⟩, ⟨n0, n1, n2, n3, n4, n5⟩⟩ := H9.out.cells;go_wp2_with fail
       go_region
       all_goals
        go_wp2_with fail;exact nx_err H9.out at_ 2 ⟨by rw [← HRr.out]; rfl, by rw [← HRr.out]; rfl⟩ (by decide) (.inr rfl) ⟨rfl, rfl, rfl, rfl⟩
   · have HRr := Lib.hid (by have := HR2.out; rw [if_pos (by cases b2 <;> rfl)] at this; exact this)
     clear HR2
     go_quiet ((go_at_call 202; first | (with_reducible exact Calls.quiet_of_same (HB1.out _)) | (with_reducible exact Calls.quiet_of_same (HB2.out _))))
     have H9 := Lib.hid (H8.out.drewN nq);have HC9 := Lib.hid (HC8.out.drewN nq);obtain ⟨w9, hw9⟩ : ∃ z, w8.drewN nq = z := ⟨_, rfl⟩;rw [hw9] at H9 HC9 ⊢;clear hw9 HB1 HB2 c0 c1 c2 c3 c4 c5 d1 d2 HC8 H8;obtain ⟨c0, c1, c2, c3, c4, c5⟩ := HC.out _ w9 H9.out;simp only [] at c1 c2;obtain ⟨⟨r0, r1, r2, r3, r4, r5⟩, ⟨f0, f1, f2, f3, f4, f5⟩, ⟨n0, n1, n2, n3, n4, n5⟩⟩ := H9.out.cells;go_wp2_with fail
     go_region
     all_goals
      go_wp2_with fail;exact nx_err H9.out at_ 2 ⟨by rw [← HRr.out]; rfl, by rw [← HRr.out]; rfl⟩ (by decide) (.inr rfl) ⟨rfl, rfl, rfl, rfl⟩
 · have HRr := Lib.hid (by have := HR.out; rw [if_pos he9] at this; exact this)
   have q1 : ((e9 : Int) != 0) = true := by rw [bne_iff_ne]; omega
   have q2 : (e9 != 0) = true := by rw [bne_iff_ne]; exact he9
   have q3 : ((e9 : Int) == 0) = false := beq_eq_false_iff_ne.2 (by omega)
   have q4 : (e9 == 0) = false := beq_eq_false_iff_ne.2 he9;have HE9 := Lib.hid he9;clear he9 HR hat h0;obtain ⟨⟨r0, r1, r2, r3, r4, r5⟩, ⟨f0, f1, f2, f3, f4, f5⟩, ⟨n0, n1, n2, n3, n4, n5⟩⟩ := H8.out.cells;go_wp2_with fail
   go_region
   all_goals
    go_wp2_with fail;exact nx_err H8.out at_ e9 ⟨by rw [← HRr.out]; rfl, by rw [← HRr.out]; rfl⟩ HE9.out (.inr rfl) ⟨rfl, rfl, rfl, rfl⟩
end Go.Proofs.YtcjehjdehdoaeaaGreatDoor
