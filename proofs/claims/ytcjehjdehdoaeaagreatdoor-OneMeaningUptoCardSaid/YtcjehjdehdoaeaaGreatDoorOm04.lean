/-
  Laws on the way to the claim (OpB OpC). Conditions: those that each theorem states.
-/
import Derived.Test.YtcjehjdehdoaeaaGreatDoorOm03
import Derived.Recover
import Derived.Deep.RegionWith
set_option linter.unusedVariables false
set_option linter.unusedSimpArgs false
set_option maxRecDepth 1000000
set_option maxHeartbeats 16000000
namespace Go.Proofs.YtcjehjdehdoaeaaGreatDoor
open Go.RowKit
structure RcX where
 db : Nat
 A : Option Addr
 n : Nat
 c : Nat
 l : List UInt8
structure RcS where
 rd : Nat
 rng : Int
 now : Int
structure Rc (x : RcX) (s : RcS) (w : World) : Prop where
 b : Blk w x.db 388 #[.slice x.A x.n x.c, .int .i64 s.rd, .int .u32 s.rng, .int .u32 s.now]
 d : In w x.A x.n x.l
 c : x.n ≤ x.c
 ad : 0 < x.n → ∀ ad, x.A = some ad → ad.block < x.db
 bt : 0 < x.n → ∀ ad, x.A = some ad → BT w ad.block 5
 rd : s.rd ≤ x.n
 r : 0 ≤ s.rng ∧ s.rng ≤ 4294967295
 v : 0 ≤ s.now ∧ s.now ≤ 4294967295
section
variable {x : RcX} {s : RcS} {w w' : World}
theorem Rc.len (h : Rc x s w) : x.l.length = x.n := h.d.len
theorem BT.fr {S : Nat → Prop} {k : Nat} {t : TypeId} (h : BT w k t) (hf : Fr S w w') (hS : ¬ S k) : BT w' k t := by obtain ⟨cs, h⟩ := h; exact ⟨cs, h.fr hf hS⟩
theorem Rc.below (h : Rc x s w) (hb : Below w.heap.size w w') : Rc x s w' := ⟨h.b.below hb, h.d.below hb, h.c, h.ad, fun h0 ad had => (h.bt h0 ad had).fr (Fr.of_below (S := fun _ => False) hb) id, h.rd, h.r, h.v⟩
theorem Rc.fr (h : Rc x s w) {S : Nat → Prop} (hf : Fr S w w') (hd : ¬ S x.db) (hA : ∀ g, BT w g 5 → ¬ S g) : Rc x s w' :=
 ⟨h.b.fr hf hd, h.d.fr hf (fun h0 ad had => hA _ (h.bt h0 ad had)), h.c, h.ad, fun h0 ad had => (h.bt h0 ad had).fr hf (hA _ (h.bt h0 ad had)), h.rd, h.r, h.v⟩
theorem Rc.to (h : Rc x s w) (t : RcS) (hf : Fr (fun k => k = x.db) w w') (hb : Blk w' x.db 388 #[.slice x.A x.n x.c, .int .i64 t.rd, .int .u32 t.rng, .int .u32 t.now]) (h1 : t.rd ≤ x.n) (h2 : 0 ≤ t.rng ∧ t.rng ≤ 4294967295) (h3 : 0 ≤ t.now ∧ t.now ≤ 4294967295) : Rc x t w' :=
 ⟨hb, h.d.fr hf (fun h0 ad had e => absurd (h.ad h0 ad had) (by rw [e]; omega)), h.c, h.ad, fun h0 ad had => (h.bt h0 ad had).fr hf fun e => absurd (h.ad h0 ad had) (by rw [e]; omega), h1, h2, h3⟩
end
def upperF (s : RcS) (cut : Int) : RcS := if s.now < cut then ⟨s.rd, cut, s.now⟩ else ⟨s.rd, (s.rng - cut) % 4294967296, s.now - cut⟩
theorem upper_any (x : RcX) (s : RcS) (cut : Int) (w : World) (h : Rc x s w) (hc : 0 ≤ cut ∧ cut ≤ 4294967295) :
 Calls Tryz.prog 233 #[.pointer (some ⟨x.db, 0, none⟩), .int .u32 cut] w fun e w' => e = .returned (.bool (decide (¬ s.now < cut))) ∧ Rc x (upperF s cut) w' ∧ Fr (fun k => k = x.db) w w' := by
 have c2 : w.cell? ⟨x.db, 2, none⟩ = some (.int .u32 s.rng) := h.b.cell 2;have c3 : w.cell? ⟨x.db, 3, none⟩ = some (.int .u32 s.now) := h.b.cell 3;have f2 := h.b.frozen 2;have f3 := h.b.frozen 3;have HR := Lib.hid h;obtain ⟨rd, rng, now⟩ := s;have hr := h.r;have hv := h.v;clear h;unfold upperF;simp only [] at c2 c3 hr hv ⊢;by_cases hlt : now < cut
 · rw [if_pos hlt, decide_eq_false (by omega)]
   go_enter Tryz.func233, Tryz.ntmps233;go_wp2_with fail;go_ret;exact ⟨rfl, HR.out.to ⟨rd, cut, now⟩ (Fr.set1 (Fr.refl _ _) 2 _) (HR.out.b.set_ 2 _) HR.out.rd hc hv, Fr.set1 (Fr.refl _ _) 2 _⟩
 · rw [if_neg hlt, decide_eq_true hlt];go_enter Tryz.func233, Tryz.ntmps233;go_wp2_with fail;go_ret;exact ⟨rfl, HR.out.to ⟨rd, (rng - cut) % 4294967296, now - cut⟩ (Fr.set1 (Fr.set1 (Fr.refl _ _) 3 _) 2 _) ((HR.out.b.set_ 3 _).set_ 2 _) HR.out.rd (by show 0 ≤ (rng - cut) % 4294967296 ∧ (rng - cut) % 4294967296 ≤ 4294967295; omega) (by show 0 ≤ now - cut ∧ now - cut ≤ 4294967295; omega), Fr.set1 (Fr.set1 (Fr.refl _ _) 3 _) 2 _⟩
theorem or32_bd (a b : Int) : 0 ≤ bits .or .u32 a b ∧ bits .or .u32 a b ≤ 4294967295 := by
 have h := (BitVec.ofInt 32 a ||| BitVec.ofInt 32 b).isLt
 show 0 ≤ IntKind.u32.wrap ((BitVec.ofInt 32 a ||| BitVec.ofInt 32 b).toNat : Int) ∧ IntKind.u32.wrap ((BitVec.ofInt 32 a ||| BitVec.ofInt 32 b).toNat : Int) ≤ 4294967295
 rw [IntKind.wrap_u32];omega
def widenF (l : List UInt8) (s : RcS) : RcS := ⟨s.rd + 1, s.rng * 256, bits .or .u32 (s.now * 256 % 4294967296) (((l.getD s.rd 0).toNat : Int) % 4294967296)⟩
theorem widen_idle (x : RcX) (s : RcS) (w : World) (h : Rc x s w) (hr : 16777216 ≤ s.rng) : Calls Tryz.prog 235 #[.pointer (some ⟨x.db, 0, none⟩)] w fun e w' => e = .returned (.tuple #[]) ∧ w' = w := by
 have c2 : w.cell? ⟨x.db, 2, none⟩ = some (.int .u32 s.rng) := h.b.cell 2;clear h;go_enter Tryz.func235, Tryz.ntmps235;go_wp2_with fail
 first | go_end0 | refine bodyPost_ret (results_none rfl _ _ _) rfl ?_
 exact ⟨rfl, rfl⟩
theorem widen_step (x : RcX) (s : RcS) (w : World) (h : Rc x s w) (hr : s.rng < 16777216) (hrd : s.rd < x.n) : Calls Tryz.prog 235 #[.pointer (some ⟨x.db, 0, none⟩)] w fun e w' => e = .returned (.tuple #[]) ∧ Rc x (widenF x.l s) w' ∧ Fr (fun k => k = x.db) w w' := by
 have c0 : w.cell? ⟨x.db, 0, none⟩ = some (.slice x.A x.n x.c) := h.b.cell 0;have c1 : w.cell? ⟨x.db, 1, none⟩ = some (.int .i64 s.rd) := h.b.cell 1;have c2 : w.cell? ⟨x.db, 2, none⟩ = some (.int .u32 s.rng) := h.b.cell 2;have c3 : w.cell? ⟨x.db, 3, none⟩ = some (.int .u32 s.now) := h.b.cell 3;have f1 := h.b.frozen 1;have f2 := h.b.frozen 2;have f3 := h.b.frozen 3;have hr' : ¬ 16777216 ≤ s.rng := by omega
 have hcap := h.c;have hm := h.d.2.2;have hne : ¬ (s.rd : Int) = (x.n : Int) := by omega
 obtain ⟨ad, hA, c4⟩ := h.d.at_ hrd;have hadb := h.ad (by omega) ad hA
 rw [hA] at c0;have hrd' : (s.rd : Int) < (x.n : Int) := by omega
 have hr0 := h.r;have hv0 := h.v;have HR := Lib.hid h;obtain ⟨rd, rng, now⟩ := s;simp only [widenF] at *;obtain ⟨z, hz⟩ : ∃ z, x.l.getD rd 0 = z := ⟨_, rfl⟩;rw [hz] at c4 ⊢;have HA := Lib.hid hA;clear h hr hne hrd hz hA;go_enter Tryz.func235, Tryz.ntmps235;go_wp2_with fail
 go_quiet (fail)
 go_wp2_with fail;obtain ⟨w1, hw1⟩ : ∃ w1, (w.drewN nq).setCell ⟨x.db, 2, none⟩ (.int .u32 (rng * 256)) = w1 := ⟨_, rfl⟩;have hF1 : Fr (fun k => k = x.db) w w1 := by rw [← hw1]; exact Fr.set1 ((Fr.refl _ _).drewN nq) 2 _
 have hB1 : Blk w1 x.db 388 #[.slice x.A x.n x.c, .int .i64 rd, .int .u32 (rng * 256), .int .u32 now] := by rw [← hw1]; exact (HR.out.b.drewN nq).set_ 2 _
 rw [hw1];have d0 : w1.cell? ⟨x.db, 0, none⟩ = some (.slice (some ad) x.n x.c) := by rw [← HA.out]; exact hB1.cell 0
 have d1 : w1.cell? ⟨x.db, 1, none⟩ = some (.int .i64 rd) := hB1.cell 1;have d3 : w1.cell? ⟨x.db, 3, none⟩ = some (.int .u32 now) := hB1.cell 3;have d4 : w1.cell? (ad.add rd) = some (.int .u8 z.toNat) := by
  rw [← c4];refine hF1.cell ?_ ?_
  · rw [block_add]; exact Nat.lt_trans hadb HR.out.b.lt
  · rw [block_add]; omega
 have g1 := hB1.frozen 1;have g3 := hB1.frozen 3;have HB1 := Lib.hid hB1;have HF1 := Lib.hid hF1;clear hw1 c0 c1 c2 c3 c4 f1 f2 f3 hB1 hF1
 go_region
 all_goals
  go_wp2_with fail
  first | go_end0 | refine bodyPost_ret (results_none rfl _ _ _) rfl ?_
  have hF2 := (Fr.set1 (Fr.set1 HF1.out 3 (.int .u32 (bits BinOp.or IntKind.u32 (now * 256 % 4294967296) ((z.toNat : Int) % 4294967296)))) 1 (.int .i64 ((rd : Int) + 1))).drew;exact ⟨rfl, HR.out.to _ hF2 ((HB1.out.set_ 3 _).set_ 1 _).drew (by show rd + 1 ≤ x.n; omega) (by show 0 ≤ rng * 256 ∧ rng * 256 ≤ 4294967295; omega) (or32_bd _ _), hF2⟩
theorem widen_end (x : RcX) (s : RcS) (w : World) (h : Rc x s w) (hr : s.rng < 16777216) (hrd : s.rd = x.n) : Calls Tryz.prog 235 #[.pointer (some ⟨x.db, 0, none⟩)] w fun e w' => e = .panicked [{ v := .iface 400 (.int .i64 1), recovered := false }] ∧ ∃ n, w' = w.drewN n := by
 have c0 : w.cell? ⟨x.db, 0, none⟩ = some (.slice x.A x.n x.c) := h.b.cell 0;have c1 : w.cell? ⟨x.db, 1, none⟩ = some (.int .i64 s.rd) := h.b.cell 1;have c2 : w.cell? ⟨x.db, 2, none⟩ = some (.int .u32 s.rng) := h.b.cell 2;have hr' : ¬ 16777216 ≤ s.rng := by omega
 have hm := h.d.2.2;obtain ⟨rd, rng, now⟩ := s;simp only [] at c1 c2 hr hr' hrd;subst hrd;clear h;go_enter Tryz.func235, Tryz.ntmps235;go_wp2_with fail
 go_quiet (fail)
 go_wp2_with fail;exact ⟨rfl, rfl, _, rfl⟩
end Go.Proofs.YtcjehjdehdoaeaaGreatDoor
namespace Go.Proofs.YtcjehjdehdoaeaaGreatDoor
open Go.RowKit
def enumL (md : Region.Mode) (ops : Array Oper) : Nat → Array Bool → List (List Nat)
 | 0, _ => [[]]
 | fuel + 1, listed => if Region.ready md ops listed = [] then [[]] else (Region.ready md ops listed).flatMap fun i => (enumL md ops fuel (listed.setIfInBounds i true)).map (i :: ·)
theorem enumL_sound (md : Region.Mode) (ops : Array Oper) : ∀ (fuel t : Nat) (listed : Array Bool), Region.linearise.go md ops fuel t listed [] ∈ enumL md ops fuel listed := by
 intro fuel;induction fuel with
 | zero => intro t listed; simp [Region.linearise.go, enumL]
 | succ fuel ih =>
  intro t listed;simp only [Region.linearise.go, enumL];change (match (Region.ready md ops listed)[t % (Region.ready md ops listed).length]? with
   | some i => Region.linearise.go md ops fuel (t / (Region.ready md ops listed).length) (listed.setIfInBounds i true) [i]
   | none => [].reverse) ∈ _
  cases hi : (Region.ready md ops listed)[t % (Region.ready md ops listed).length]? with
  | none =>
   have hnil : Region.ready md ops listed = [] := by
    cases hr : Region.ready md ops listed with
    | nil => rfl
    | cons x xs =>
     rw [hr] at hi;have hlt : t % (x :: xs).length < (x :: xs).length := Nat.mod_lt _ (by simp)
     simp at hi;simp at hlt;omega
   rw [if_pos hnil];simp
  | some i =>
   have hm := List.mem_of_getElem? hi;rw [if_neg (by intro h; rw [h] at hm; cases hm)]
   simp only [];rw [linearise_go_acc, List.reverse_singleton, List.singleton_append, List.mem_flatMap];exact ⟨i, hm, List.mem_map.2 ⟨_, ih _ _, rfl⟩⟩
theorem wpS_region_draw {P : Program} {id : Nat} {ops : Array Oper} {Q : Exit → Act → List Frame → World → Prop} {a : Act} {cs : List Frame} {w : World} (L : List (List Nat)) (hm : P.follows .mixedOrders = true)
 (hL : enumL .any ops ops.size (Array.replicate ops.size false) = L) (h : ∀ l ∈ L, wpOpsS P ops Q l a cs w.drew) : (Code.region id ops true).wpS P Q a cs w :=
 fun b k hb hr => by
  let t := (w.tape w.drawn (.order b.fn id));have hs : Region.schedule (P.follows .mixedOrders) ops t ∈ enumL .any ops ops.size (Array.replicate ops.size false) := by
   simp only [Region.schedule, hm, Bool.true_or, if_true];exact enumL_sound .any ops ops.size _ _
  rw [hL] at hs;obtain ⟨e, a', cs', w', q, r⟩ := wp_opsS _ a cs _ (h _ hs) b k hb hr;exact ⟨e, a', cs', w', q, .of_steps (.one step_region_draw) r⟩
theorem run_typeAssert_int {P : Program} {t : TypeId} {k : IntKind} (hu : P.underlying t = some (.int k)) (v : Value) (xT : TypeId) (w : World) : (Instr.typeAssert (.iface t v) xT t true).run P w = .ok (.tuple #[v, .bool true]) w := by
 simp [Instr.typeAssert, run_underlying hu, go_sem, Result.andThen]
theorem rback_nil (db : Nat) (s : RcS) (w : World) : Calls Tryz.prog 231 #[.pointer (some ⟨db, 0, none⟩), .agg #[.int .i64 s.rd, .int .u32 s.rng, .int .u32 s.now], .nilIface] w fun e w' => e = .returned (.int .i64 0) ∧ w' = w.alloc (.cells #[.int .i64 s.rd, .int .u32 s.rng, .int .u32 s.now] 386) := by
 go_enter Tryz.func231, Tryz.ntmps231;go_wp2_with fail;go_ret;exact ⟨rfl, rfl⟩
theorem rback_err (x : RcX) (s t : RcS) (k : Int) (w : World) (hb : Blk w x.db 388 #[.slice x.A x.n x.c, .int .i64 t.rd, .int .u32 t.rng, .int .u32 t.now]) :
 Calls Tryz.prog 231 #[.pointer (some ⟨x.db, 0, none⟩), .agg #[.int .i64 s.rd, .int .u32 s.rng, .int .u32 s.now], .iface 400 (.int .i64 k)] w fun e w' => e = .returned (.int .i64 k) ∧ Blk w' x.db 388 #[.slice x.A x.n x.c, .int .i64 s.rd, .int .u32 s.rng, .int .u32 s.now] ∧ Fr (fun g => g = x.db) w w' := by
 have f1 := hb.frozen 1;have f2 := hb.frozen 2;have f3 := hb.frozen 3;have c1 : w.cell? ⟨x.db, 1, none⟩ = some (.int .i64 t.rd) := hb.cell 1;have c2 : w.cell? ⟨x.db, 2, none⟩ = some (.int .u32 t.rng) := hb.cell 2;have c3 : w.cell? ⟨x.db, 3, none⟩ = some (.int .u32 t.now) := hb.cell 3;have hta : ∀ w, (Instr.typeAssert (.iface 400 (.int .i64 k)) 20 400 true).run Tryz.prog w = .ok (.tuple #[.int .i64 k, .bool true]) w := fun w => run_typeAssert_int Tryz.underlying400 _ _ w
 have hlt := hb.lt;have HB := Lib.hid hb;clear hb;go_enter Tryz.func231, Tryz.ntmps231;go_wp2_with fail;go_ret;exact ⟨rfl, (((HB.out.set_ 1 _).set_ 2 _).set_ 3 _).alloc _, (Fr.set1 (Fr.set1 (Fr.set1 (Fr.refl _ _) 1 _) 2 _) 3 _).alloc _⟩
theorem Bit1_panics (x : RcX) (s t : RcS) (k e0 b0 : Int) (D E B : Nat) (vS vI : Value) (older : List PanicEntry) (w : World) (hb : Blk w x.db 388 #[.slice x.A x.n x.c, .int .i64 t.rd, .int .u32 t.rng, .int .u32 t.now])
 (hD : Blk w D 371 #[.pointer (some ⟨x.db, 0, none⟩)]) (hE : Blk w E 54 #[.int .i64 e0]) (hB : Blk w B 3 #[.int .i64 b0]) (hk : ¬ k = 0) :
 CallsD Tryz.prog 230 #[.agg #[.int .i64 s.rd, .int .u32 s.rng, .int .u32 s.now], .pointer (some ⟨D, 0, none⟩), .pointer (some ⟨E, 0, none⟩), .pointer (some ⟨B, 0, none⟩), vS, vI] (.panicking ({ v := .iface 400 (.int .i64 k), recovered := false } :: older)) w fun e u' w' =>
  e = .returned (.tuple #[]) ∧ u' = .panicking ({ v := .iface 400 (.int .i64 k), recovered := true } :: older) ∧ Blk w' x.db 388 #[.slice x.A x.n x.c, .int .i64 s.rd, .int .u32 s.rng, .int .u32 s.now] ∧ Blk w' E 54 #[.int .i64 k] ∧ Blk w' B 3 #[.int .i64 0] ∧ Fr (fun g => g = x.db ∨ g = E ∨ g = B) w w' := by
 have hsz : ∀ {g t cs}, Blk w g t cs → ¬ g = w.heap.size := fun h e => by have := h.lt; omega
 obtain ⟨w1, hw1⟩ : ∃ w1, w.alloc (.cells #[.int .i64 s.rd, .int .u32 s.rng, .int .u32 s.now] 386) = w1 := ⟨_, rfl⟩;have hF1 : Fr (fun g => g = x.db ∨ g = E ∨ g = B) w w1 := by rw [← hw1]; exact (Fr.refl _ _).alloc _
 have hb1 := hb.alloc (.cells #[.int .i64 s.rd, .int .u32 s.rng, .int .u32 s.now] 386);have hD1 := hD.alloc (.cells #[.int .i64 s.rd, .int .u32 s.rng, .int .u32 s.now] 386);have hE1 := hE.alloc (.cells #[.int .i64 s.rd, .int .u32 s.rng, .int .u32 s.now] 386);have hB1 := hB.alloc (.cells #[.int .i64 s.rd, .int .u32 s.rng, .int .u32 s.now] 386);rw [hw1] at hb1 hD1 hE1 hB1;obtain ⟨W, hW⟩ : ∃ W, w.heap.size = W := ⟨_, rfl⟩
 have hN1 : Blk w1 W 386 #[.int .i64 s.rd, .int .u32 s.rng, .int .u32 s.now] := by rw [← hw1, ← hW]; exact Blk.new _ _ _
 have n0 := hN1.three.1;have n1 := hN1.three.2.1;have n2 := hN1.three.2.2;have d0 := hD1.one;have e1 := hE1.one;have b1 := hB1.one;have f1 := hE1.frozen 0;have f2 := hB1.frozen 0;refine callsD_of_wpS Tryz.func230 rfl fun c₀ cs hu => ?_
 apply wpS_seq;apply wpS_region;simp [wpOpsS, go_sem, Exit.thenS, Tryz.ntmps230, hw1, hW];apply wpS_seq;apply wpS_region_draw [[0, 1, 2, 3, 4], [0, 2, 1, 3, 4], [1, 0, 2, 3, 4], [1, 2, 0, 3, 4], [2, 0, 1, 3, 4], [2, 1, 0, 3, 4]] (by kernel_rfl) (by kernel_rfl)
 intro l hl;simp only [List.mem_cons, List.not_mem_nil, or_false] at hl;rcases hl with rfl | rfl | rfl | rfl | rfl | rfl
 all_goals
  simp [wpOpsS, go_sem, Exit.thenS, recoverD, hu, d0, n0, n1, n2];refine (rback_err x s t k w1.drew hb1).mono ?_;rintro e w2 ⟨rfl, hb2, hF2⟩;have hF12 : Fr (fun g => g = x.db ∨ g = E ∨ g = B) w w2 := hF1.drew.trans' hF2 (fun i _ h => .inl h)
  have hEd : ¬ E = x.db := fun e => by subst e; unfold Blk at hE hb; rw [hE] at hb; injection hb with hb; injection hb with _ h2; exact absurd h2 (by decide)
  have hBd : ¬ B = x.db := fun e => by subst e; unfold Blk at hB hb; rw [hB] at hb; injection hb with hb; injection hb with _ h2; exact absurd h2 (by decide)
  have hEB : ¬ E = B := fun e => by subst e; unfold Blk at hB hE; rw [hE] at hB; injection hB with hb; injection hb with _ h2; exact absurd h2 (by decide)
  have hE2 := Blk.fr hE1.drew hF2 hEd;have hB2 := Blk.fr hB1.drew hF2 hBd;have e2 := hE2.one;have b2 := hB2.one;have g1 := hE2.frozen 0;have g2 := hB2.frozen 0;simp [go_sem, e2, g1];obtain ⟨w3, hw3⟩ : ∃ w3, w2.setCell ⟨E, 0, none⟩ (.int .i64 k) = w3 := ⟨_, rfl⟩;have hE3 := hE2.set_ 0 (.int .i64 k);have hB3 := hB2.far (p := ⟨E, 0, none⟩) (fun e => hEB e.symm) (.int .i64 k)
  have hb3 := hb2.far (p := ⟨E, 0, none⟩) (fun e => hEd e.symm) (.int .i64 k)
  have hF3 := hF12.setCell (p := ⟨E, 0, none⟩) (.inl (.inr (.inl rfl))) (.int .i64 k);rw [hw3] at hE3 hB3 hb3 hF3 ⊢;have e3 : w3.cell? ⟨E, 0, none⟩ = some (.int .i64 k) := hE3.cell 0;have b3 := hB3.one;have g3 := hB3.frozen 0;apply wpS_seq;apply wpS_region;simp [wpOpsS, go_sem, e3, hk, Exit.thenS];refine wpS_cond (t := true) (by simp [Act.eval, Array.replicate, hk]) ?_
  simp only [if_true];apply wpS_region;simp [wpOpsS, go_sem, b3, g3, bodyPostS, results, Tryz.results230];exact ⟨hb3.far (p := ⟨B, 0, none⟩) (fun e => hBd e.symm) _, hE3.far (p := ⟨B, 0, none⟩) hEB _, hB3.set_ 0 _, hF3.setCell (p := ⟨B, 0, none⟩) (.inl (.inr (.inr rfl))) _⟩
theorem Bit1_idle (db sb rb : Nat) (s : RcS) (ps : List Int) (i : Nat) (e0 b0 : Int) (D E B S I : Nat) (w : World) (hp : Ps sb rb ps w) (hi : i < ps.length)
 (hD : Blk w D 371 #[.pointer (some ⟨db, 0, none⟩)]) (hE : Blk w E 54 #[.int .i64 e0]) (hB : Blk w B 3 #[.int .i64 b0]) (hS : Blk w S 248 #[.pointer (some ⟨sb, 0, none⟩)]) (hI : Blk w I 3 #[.int .i64 i]) (hR : ¬ rb = E ∧ ¬ rb = B) :
 CallsD Tryz.prog 230 #[.agg #[.int .i64 s.rd, .int .u32 s.rng, .int .u32 s.now], .pointer (some ⟨D, 0, none⟩), .pointer (some ⟨E, 0, none⟩), .pointer (some ⟨B, 0, none⟩), .pointer (some ⟨S, 0, none⟩), .pointer (some ⟨I, 0, none⟩)] .returning w fun e u' w' =>
  e = .returned (.tuple #[]) ∧ u' = .returning ∧ Ps sb rb (ps.set i (pnext (ps.getD i 0) b0)) w' ∧ Blk w' E 54 #[.int .i64 0] ∧ Blk w' B 3 #[.int .i64 b0] ∧ Fr (fun g => g = rb ∨ g = E) w w' := by
 obtain ⟨w1, hw1⟩ : ∃ w1, w.alloc (.cells #[.int .i64 s.rd, .int .u32 s.rng, .int .u32 s.now] 386) = w1 := ⟨_, rfl⟩;have hF1 : Fr (fun g => g = rb ∨ g = E) w w1 := by rw [← hw1]; exact (Fr.refl _ _).alloc _
 have hp1 := hp.below ((Below.refl _ _).alloc (Nat.le_refl _) (.cells #[.int .i64 s.rd, .int .u32 s.rng, .int .u32 s.now] 386));have hD1 := hD.alloc (.cells #[.int .i64 s.rd, .int .u32 s.rng, .int .u32 s.now] 386);have hE1 := hE.alloc (.cells #[.int .i64 s.rd, .int .u32 s.rng, .int .u32 s.now] 386);have hB1 := hB.alloc (.cells #[.int .i64 s.rd, .int .u32 s.rng, .int .u32 s.now] 386);have hS1 := hS.alloc (.cells #[.int .i64 s.rd, .int .u32 s.rng, .int .u32 s.now] 386)
 have hI1 := hI.alloc (.cells #[.int .i64 s.rd, .int .u32 s.rng, .int .u32 s.now] 386);rw [hw1] at hp1 hD1 hE1 hB1 hS1 hI1;obtain ⟨W, hW⟩ : ∃ W, w.heap.size = W := ⟨_, rfl⟩;have hN1 : Blk w1 W 386 #[.int .i64 s.rd, .int .u32 s.rng, .int .u32 s.now] := by rw [← hw1, ← hW]; exact Blk.new _ _ _
 have n0 := hN1.three.1;have n1 := hN1.three.2.1;have n2 := hN1.three.2.2;have d0 := hD1.one;have hne : ∀ {g j : Nat} {t u : TypeId} {cs ds : Array Value}, Blk w g t cs → Blk w j u ds → t ≠ u → ¬ g = j := fun h h' hn => BT.ne ⟨_, h⟩ ⟨_, h'⟩ hn
 have hEB : ¬ E = B := hne hE hB (by decide)
 have hES : ¬ E = S := hne hE hS (by decide)
 have hEI : ¬ E = I := hne hE hI (by decide)
 have hsE : ¬ sb = E := hne hp.s hE (by decide)
 refine callsD_of_wpS Tryz.func230 rfl fun c₀ cs hu => ?_
 apply wpS_seq;apply wpS_region;simp [wpOpsS, go_sem, Exit.thenS, Tryz.ntmps230, hw1, hW];apply wpS_seq;apply wpS_region_draw [[0, 1, 2, 3, 4], [0, 2, 1, 3, 4], [1, 0, 2, 3, 4], [1, 2, 0, 3, 4], [2, 0, 1, 3, 4], [2, 1, 0, 3, 4]] (by kernel_rfl) (by kernel_rfl)
 intro l hl;simp only [List.mem_cons, List.not_mem_nil, or_false] at hl;rcases hl with rfl | rfl | rfl | rfl | rfl | rfl
 all_goals
  simp [wpOpsS, go_sem, Exit.thenS, recoverD, hu, d0, n0, n1, n2];refine (rback_nil db s w1.drew).mono ?_;rintro e w2 ⟨rfl, hw2⟩;have hb2 : Below w1.heap.size w1 w2 := by rw [hw2]; exact (below_drewN (Below.refl _ _) 1).alloc (Nat.le_refl _) _
  clear hw2;have hF12 := hF1.of_below' hb2;have hE2 := hE1.below hb2;have g1 := hE2.frozen 0;have e2 := hE2.one;simp [go_sem, e2, g1];obtain ⟨w3, hw3⟩ : ∃ w3, w2.setCell ⟨E, 0, none⟩ (.int .i64 0) = w3 := ⟨_, rfl⟩;have hE3 := hE2.set_ 0 (.int .i64 0);have hB3 := (hB1.below hb2).far (p := ⟨E, 0, none⟩) (fun e => hEB e.symm) (.int .i64 0)
  have hS3 := (hS1.below hb2).far (p := ⟨E, 0, none⟩) (fun e => hES e.symm) (.int .i64 0)
  have hI3 := (hI1.below hb2).far (p := ⟨E, 0, none⟩) (fun e => hEI e.symm) (.int .i64 0)
  have hp3 := (hp1.below hb2).fr (Fr.set1 (Fr.refl (fun k => k = E) _) 0 (.int .i64 0)) hsE hR.1
  have hF3 := hF12.setCell (p := ⟨E, 0, none⟩) (.inl (.inr rfl)) (.int .i64 0);rw [hw3] at hE3 hB3 hS3 hI3 hp3 hF3 ⊢;have e3 : w3.cell? ⟨E, 0, none⟩ = some (.int .i64 0) := hE3.cell 0;have b3 := hB3.one;have s3 := hS3.one;have i3 := hI3.one;apply wpS_seq;apply wpS_region;simp [wpOpsS, go_sem, e3, Exit.thenS];refine wpS_cond (t := false) (by simp [Act.eval, Array.replicate]) ?_
  simp only [Bool.false_eq_true, if_false];apply wpS_region;simp [wpOpsS, go_sem, b3, s3, i3];refine (Turn_yes sb rb ps i b0 w3 hp3 hi).mono ?_;rintro e w4 ⟨rfl, hp4, hF4⟩;simp [bodyPostS, results, Tryz.results230, hu];refine ⟨.returning, by cases c₀; simp_all, rfl, hp4, hE3.fr hF4 (fun e => hR.1 e.symm), hB3.fr hF4 (fun e => hR.2 e.symm), hF3.trans' hF4 (fun _ _ h => .inl h)⟩
end Go.Proofs.YtcjehjdehdoaeaaGreatDoor
