/-
  Laws on the way to the claim (OsH). Conditions: those that each theorem states.
-/
import Derived.Test.YtcjehjdehdoaeaaGreatDoorOm34
import Derived.Laws.EntriesVeiled
set_option linter.unusedVariables false
set_option linter.unusedSimpArgs false
set_option maxRecDepth 1000000
set_option maxHeartbeats 16000000
namespace Go.Proofs.YtcjehjdehdoaeaaGreatDoor
open Go.RowKit
theorem GSt.cells {w0 : World} {H E R m : Nat} {pk sz : Int} {Fl : Option Addr} {i fc : Nat} {A2 : Option Addr} {n2 c2 : Nat} {r2 : List UInt8} {w : World} (h : GSt w0 H E R m pk sz Fl i fc A2 n2 c2 r2 w) :
 (w.cell? ⟨H, 0, none⟩ = some (.int .i64 pk) ∧ w.cell? ⟨H, 1, none⟩ = some (.int .i64 sz) ∧ w.cell? ⟨H, 2, none⟩ = some (.slice Fl i fc) ∧ w.cell? ⟨H, 3, none⟩ = some (.int .i64 m)) ∧
 (w.frozen? ⟨H, 0, none⟩ = false ∧ w.frozen? ⟨H, 1, none⟩ = false ∧ w.frozen? ⟨H, 2, none⟩ = false ∧ w.frozen? ⟨H, 3, none⟩ = false) ∧
 w.cell? ⟨E, 0, none⟩ = some (.int .i64 0) ∧ w.frozen? ⟨E, 0, none⟩ = false ∧ w.cell? ⟨R, 0, none⟩ = some (.slice A2 n2 c2) :=
 ⟨⟨h.h.cell 0, h.h.cell 1, h.h.cell 2, h.h.cell 3⟩, ⟨h.h.frozen 0, h.h.frozen 1, h.h.frozen 2, h.h.frozen 3⟩, h.e.cell 0, h.e.frozen 0, h.r.cell 0⟩
section
variable {w0 : World} {H E R m : Nat} {pk sz : Int} {Fl : Option Addr} {i fc : Nat} {A2 : Option Addr} {n2 c2 : Nat} {r2 : List UInt8} {w : World}
theorem hdV_far (p s : Int) (A : Option Addr) (n c m : Nat) : ∀ (j : Nat) (v : Value), (hdV p s A n c m)[j]? = some v → (match v with | .int .u8 _ => false | _ => true) = true := by
 intro j v hv;rcases j with _ | _ | _ | _ | j <;> simp [hdV] at hv <;> subst hv <;> rfl
theorem one_far (x : Value) (hx : (match x with | .int .u8 _ => false | _ => true) = true) : ∀ (j : Nat) (v : Value), (#[x] : Array Value)[j]? = some v → (match v with | .int .u8 _ => false | _ => true) = true := by
 intro j v hv;rcases j with _ | j <;> simp at hv
 subst hv;exact hx
theorem GSt.put (h : GSt w0 H E R m pk sz Fl i fc A2 n2 c2 r2 w) (hE : E = H + 1) (hx : w0.heap.size ≤ H) (hR : H + 1 < R) :
 (∀ v : Int, GSt w0 H E R m v sz Fl i fc A2 n2 c2 r2 (w.setCell ⟨H, 0, none⟩ (.int .i64 v))) ∧ (∀ v : Int, GSt w0 H E R m pk v Fl i fc A2 n2 c2 r2 (w.setCell ⟨H, 1, none⟩ (.int .i64 v))) ∧ (∀ (F2 : Option Addr) (i2 fc2 : Nat), GSt w0 H E R m pk sz F2 i2 fc2 A2 n2 c2 r2 (w.setCell ⟨H, 2, none⟩ (.slice F2 i2 fc2))) := by
 subst hE;have key : ∀ (k : Nat) (v : Value), Blk (w.setCell ⟨H, k, none⟩ v) (H + 1) 54 #[.int .i64 0] ∧ Blk (w.setCell ⟨H, k, none⟩ v) R 282 #[.slice A2 n2 c2] ∧ In (w.setCell ⟨H, k, none⟩ v) A2 n2 r2 ∧ Below w0.heap.size w0 (w.setCell ⟨H, k, none⟩ v) := fun k v => by
  have hf : Fr (fun g => g = H) w (w.setCell ⟨H, k, none⟩ v) := Fr.set1 (Fr.refl _ _) k _
  exact ⟨h.e.fr hf (by omega), h.r.fr hf (by omega), h.i.fr hf (fun h0 ad had => in_far h.i h0 had h.h (hdV_far _ _ _ _ _ _)), h.b.setCell (p := ⟨H, k, none⟩) hx _⟩
 exact ⟨fun v => ⟨h.h.set_ 0 _, (key 0 _).1, (key 0 _).2.1, (key 0 _).2.2.1, h.c, (key 0 _).2.2.2, h.a⟩, fun v => ⟨h.h.set_ 1 _, (key 1 _).1, (key 1 _).2.1, (key 1 _).2.2.1, h.c, (key 1 _).2.2.2, h.a⟩, fun F2 i2 fc2 => ⟨h.h.set_ 2 _, (key 2 _).1, (key 2 _).2.1, (key 2 _).2.2.1, h.c, (key 2 _).2.2.2, h.a⟩⟩
theorem GSt.fr (h : GSt w0 H E R m pk sz Fl i fc A2 n2 c2 r2 w) (hE : E = H + 1) (hx : w0.heap.size ≤ H) (hR : H + 1 < R) {w' : World} (hf : Fr (fun g => g = R) w w') :
 Blk w' H 91 (hdV pk sz Fl i fc m) ∧ Blk w' E 54 #[.int .i64 0] ∧ In w' A2 n2 r2 ∧ Below w0.heap.size w0 w' :=
 ⟨h.h.fr hf (by omega), h.e.fr hf (by omega), h.i.fr hf (fun h0 ad had => in_far h.i h0 had h.r (one_far _ rfl)), h.b.trans (hf.below h.b.size (fun g hg => by have hg : g = R := hg; omega))⟩
theorem GSt.ate (h : GSt w0 H E R m pk sz Fl i fc A2 n2 c2 r2 w) (hE : E = H + 1) (hx : w0.heap.size ≤ H) (hR : H + 1 < R) {w' : World} (hf : Fr (fun g => g = R) w w') {k : Nat} (hk : k ≤ n2) (hb : Blk w' R 282 #[.slice (if c2 = k then A2 else A2.map (·.add k)) (n2 - k) (c2 - k)]) :
 GSt w0 H E R m pk sz Fl i fc (if c2 = k then A2 else A2.map (·.add k)) (n2 - k) (c2 - k) (r2.drop k) w' :=
 ⟨(h.fr hE hx hR hf).1, (h.fr hE hx hR hf).2.1, hb, (h.fr hE hx hR hf).2.2.1.cut hk h.c.1, by have := h.c; omega, (h.fr hE hx hR hf).2.2.2, by have := h.a; omega, fun ad had => by
  split at had
  · exact h.a.2 _ had
  · obtain ⟨x, hx1, hx2⟩ := Option.map_eq_some_iff.1 had;rw [← hx2, block_add];exact h.a.2 _ hx1⟩
end
theorem infofl : (Tryz.prog.info? 116).map (fun i => (i.zero, i.size, i.bytes)) = some (some (.agg #[.int .u64 0, .slice none 0 0]), 2, 32) := by kernel_rfl
theorem rd_new (w : World) (cs : Array Value) (t : TypeId) (size : Nat) (h : cs.size = size) : Rd (w.alloc (.cells cs t)) size (some ⟨w.heap.size, 0, none⟩) 1 cs.toList :=
 ⟨by simp [h], fun _ => ⟨_, rfl, fun j u hu => by
  have := (Blk.new w t cs).cell j;rw [add_none, Nat.zero_add, this];simpa using hu⟩⟩
structure GLp (w0 : World) (H E R m K : Nat) (pk sz : Int) (X : HR) (i : Nat) (Fl : Option Addr) (fc : Nat) (A2 : Option Addr) (n2 m2 : Nat) (r2 : List UInt8) (done : List FE) (w : World) : Prop where
 g : GSt w0 H E R m pk sz Fl i fc A2 n2 m2 r2 w
 l : done.length = i
 o : w.ownsRow w0.heap.size 116 2 (.slice Fl i fc) i (fesC done)
 f : FesIn w0.heap.size w done
 x : X = match filsF (K - i) r2 with | none => HR.no 2 | some (fl, t) => hdEnd pk sz (fesF done ++ fl) t
theorem filsF_step {K i : Nat} (h : i < K) (r : List UInt8) : filsF (K - i) r = if (fiF r).e ≠ 0 then none else match filsF (K - (i + 1)) (r.drop (fiF r).n) with | none => none | some (l, t) => some (((fiF r).id, (fiF r).ps) :: l, t) := by
 rw [show K - i = (K - (i + 1)) + 1 by omega, filsF]
 rfl
theorem GLp.step {w0 : World} {H E R m K : Nat} {pk sz : Int} {X : HR} {i : Nat} {Fl : Option Addr} {fc : Nat} {A2 : Option Addr} {n2 m2 : Nat} {r2 : List UInt8} {done : List FE} {w : World} (h : GLp w0 H E R m K pk sz X i Fl fc A2 n2 m2 r2 done w) (hi : i < K)
 (hE : E = H + 1) (hx : w0.heap.size ≤ H) (hR : H + 1 < R) {Ap : Option Addr} {cp : Nat} {w6 w8 : World} {a1 : Option Addr} {c1 : Nat} (he : (fiF r2).e = 0)
 (ho6 : w6.ownsRow w.heap.size 5 1 (.slice Ap (fiF r2).ps.length cp) (fiF r2).ps.length (bys (fiF r2).ps)) (hR6 : Blk w6 R 282 #[.slice (if m2 = (fiF r2).n then A2 else A2.map (·.add (fiF r2).n)) (n2 - (fiF r2).n) (m2 - (fiF r2).n)]) (hf6 : Fr (fun k => k = R) w w6)
 (ho8 : w8.ownsRow w0.heap.size 116 2 (.slice a1 (i + 1) c1) (i + 1) (fesC done ++ feC ⟨(fiF r2).id, (fiF r2).ps, Ap, cp⟩)) (hg8 : (w6.alloc (.cells #[.int .u64 (fiF r2).id, .slice Ap (fiF r2).ps.length cp] 116)).grownBy w8 (Value.slice Fl i fc).ownBlock) :
 GLp w0 H E R m K pk sz X (i + 1) a1 c1 (if m2 = (fiF r2).n then A2 else A2.map (·.add (fiF r2).n)) (n2 - (fiF r2).n) (m2 - (fiF r2).n) (r2.drop (fiF r2).n) (done ++ [⟨(fiF r2).id, (fiF r2).ps, Ap, cp⟩]) (w8.setCell ⟨H, 2, none⟩ (.slice a1 (i + 1) c1)) ∧
  w8.cell? ⟨H, 2, none⟩ = some (.slice Fl i fc) ∧ w8.frozen? ⟨H, 2, none⟩ = false := by
 obtain ⟨hn, hps⟩ := (fiF_ok r2).2 he;rw [h.g.i.len] at hn hps;have hg6 := h.g.ate hE hx hR hf6 hn hR6;have hb7 : Below w6.heap.size w6 (w6.alloc (.cells #[.int .u64 (fiF r2).id, .slice Ap (fiF r2).ps.length cp] 116)) := (Below.refl _ _).alloc (Nat.le_refl _) _;generalize w6.alloc (.cells #[.int .u64 (fiF r2).id, .slice Ap (fiF r2).ps.length cp] 116) = w7 at *;have hH7 := hg6.h.below hb7;have hE7 := hg6.e.below hb7
 have hR7 := hR6.below hb7;have ho7 : w7.ownsRow w0.heap.size 116 2 (.slice Fl i fc) i (fesC done) := own_below (own_fr h.o hf6 (fun g hg e => own_ne h.o h.g.r (by decide) (by rw [hg]; exact congrArg some e.symm))) hb7
 have s7 : w0.heap.size ≤ w7.heap.size := Nat.le_trans hg6.b.size hb7.size;have hf8 : Fr (fun k => some k = (Value.slice Fl i fc).ownBlock) w7 w8 := (Fr.refl _ _).grown hg8 (fun g hg => .inl hg.symm)
 have hH8 := hH7.fr hf8 (own_ne ho7 hH7 (by decide))
 have hE8 := hE7.fr hf8 (own_ne ho7 hE7 (by decide))
 have hR8 := hR7.fr hf8 (own_ne ho7 hR7 (by decide))
 have hb8 : Below w0.heap.size w0 w8 := (hg6.b.trans (hb7.mono hg6.b.size)).trans (hf8.below s7 (fun k hk => (own_lt ho7 hk.symm).1))
 have hf9 : Fr (fun g => g = H) w8 (w8.setCell ⟨H, 2, none⟩ (.slice a1 (i + 1) c1)) := Fr.set1 (Fr.refl _ _) 2 _
 have bt : ∀ {W : World} {v : Value} {k : Nat} {q : Nat} {xs : List Value}, W.ownsRow q 5 1 v k xs → ∀ g, v.ownBlock = some g → BT W g 5 := fun o g hg => own_bt o hg
 have keep : ∀ (f : FE) (q : Nat) (hq : w0.heap.size ≤ q), w7.ownsRow q 5 1 (.slice f.A f.ps.length f.c) f.ps.length (bys f.ps) → (w8.setCell ⟨H, 2, none⟩ (.slice a1 (i + 1) c1)).ownsRow w0.heap.size 5 1 (.slice f.A f.ps.length f.c) f.ps.length (bys f.ps) := fun f q hq o => by
  have o8 := own_fr o hf8 (fun g hg e => BT.ne (bt o g hg) (own_bt ho7 e.symm) (by decide) rfl)
  exact own_mono (own_fr o8 hf9 (fun g hg e => own_ne o8 hH8 (by decide) (by rw [hg]; exact congrArg some e.symm))) hq
 refine ⟨⟨⟨hH8.set_ 2 _, hE8.fr hf9 (by omega), hR8.fr hf9 (by omega), ?_, hg6.c, hb8.setCell (p := ⟨H, 2, none⟩) hx _, hg6.a⟩, by simp [h.l], ?_, ?_, ?_⟩, hH8.cell 2, hH8.frozen 2⟩
 · have hi8 := (hg6.i.below hb7).fr hf8 (fun h0 ad had e => by
    have h1 := (own_lt ho7 e.symm).1;have h2 := hg6.a.2 _ had;omega)
   exact hi8.fr hf9 (fun h0 ad had => in_far hi8 h0 had hH8 (hdV_far _ _ _ _ _ _))
 · rw [fesC_snoc];exact own_far ho8 (p := ⟨H, 2, none⟩) (own_ne ho8 hH8 (by decide)) _
 · intro f hf;rcases List.mem_append.1 hf with hf | hf
   · have o := (h.f f hf).1;exact ⟨keep f _ (Nat.le_refl _) (own_below (own_fr o hf6 (fun g hg e => own_ne o h.g.r (by decide) (by rw [hg]; exact congrArg some e.symm))) hb7), (h.f f hf).2⟩
   · simp at hf;subst hf;exact ⟨keep ⟨(fiF r2).id, (fiF r2).ps, Ap, cp⟩ w.heap.size h.g.b.size (own_below ho6 hb7), by have := h.g.a; show (fiF r2).ps.length ≤ _; omega⟩
 · rw [h.x, filsF_step hi, if_neg (fun h => h he)]
   cases filsF (K - (i + 1)) (r2.drop (fiF r2).n) with
   | none => rfl
   | some p => simp [fesF, List.append_assoc]
theorem GLp.mid {w0 : World} {H E R m K : Nat} {pk sz : Int} {X : HR} {i : Nat} {Fl : Option Addr} {fc : Nat} {A2 : Option Addr} {n2 m2 : Nat} {r2 : List UInt8} {done : List FE} {w : World} (h : GLp w0 H E R m K pk sz X i Fl fc A2 n2 m2 r2 done w)
 (hE : E = H + 1) (hx : w0.heap.size ≤ H) (hR : H + 1 < R) {w6 : World} (hf6 : Fr (fun k => k = R) w w6) (o : Obj) :
 (w6.alloc o).ownsRow w0.heap.size 116 2 (.slice Fl i fc) i (fesC done) ∧ w6.cell? ⟨H, 2, none⟩ = some (.slice Fl i fc) ∧ (w6.alloc o).cell? ⟨H, 2, none⟩ = some (.slice Fl i fc) ∧ w0.heap.size ≤ (w6.alloc o).heap.size := by
 have hb7 : Below w6.heap.size w6 (w6.alloc o) := (Below.refl _ _).alloc (Nat.le_refl _) _;have h6 := h.g.fr hE hx hR hf6;exact ⟨own_below (own_fr h.o hf6 (fun g hg e => own_ne h.o h.g.r (by decide) (by rw [hg]; exact congrArg some e.symm))) hb7, h6.1.cell 2, (h6.1.below hb7).cell 2, Nat.le_trans h6.2.2.2.size hb7.size⟩
theorem GLp.fin {w0 : World} {H E R m K : Nat} {pk sz : Int} {X : HR} {i : Nat} {Fl : Option Addr} {fc : Nat} {A2 : Option Addr} {n2 m2 : Nat} {r2 : List UInt8} {done : List FE} {w : World} (h : GLp w0 H E R m K pk sz X i Fl fc A2 n2 m2 r2 done w)
 (hE : E = H + 1) (hx : w0.heap.size ≤ H) {w9 : World} (hb9 : Below w.heap.size w w9) :
 Blk (((((w9.setCell ⟨H, 0, none⟩ (.int .i64 pk)).setCell ⟨H, 1, none⟩ (.int .i64 sz)).setCell ⟨H, 2, none⟩ (.slice Fl i fc)).setCell ⟨H, 3, none⟩ (.int .i64 m)).setCell ⟨H + 1, 0, none⟩ (.int .i64 0)) H 91 (hdV pk sz Fl i fc m) ∧
 Blk (((((w9.setCell ⟨H, 0, none⟩ (.int .i64 pk)).setCell ⟨H, 1, none⟩ (.int .i64 sz)).setCell ⟨H, 2, none⟩ (.slice Fl i fc)).setCell ⟨H, 3, none⟩ (.int .i64 m)).setCell ⟨H + 1, 0, none⟩ (.int .i64 0)) (H + 1) 54 #[.int .i64 0] ∧
 FlsIn Fl i (fesF done) (((((w9.setCell ⟨H, 0, none⟩ (.int .i64 pk)).setCell ⟨H, 1, none⟩ (.int .i64 sz)).setCell ⟨H, 2, none⟩ (.slice Fl i fc)).setCell ⟨H, 3, none⟩ (.int .i64 m)).setCell ⟨H + 1, 0, none⟩ (.int .i64 0)) ∧
 Below w0.heap.size w0 (((((w9.setCell ⟨H, 0, none⟩ (.int .i64 pk)).setCell ⟨H, 1, none⟩ (.int .i64 sz)).setCell ⟨H, 2, none⟩ (.slice Fl i fc)).setCell ⟨H, 3, none⟩ (.int .i64 m)).setCell ⟨H + 1, 0, none⟩ (.int .i64 0)) := by
 subst hE;have h9 := h.g.h.below hb9;have e9 := h.g.e.below hb9;have o9 := own_below h.o hb9;have f9 : FesIn w0.heap.size w9 done := fun f hf => ⟨own_below (h.f f hf).1 hb9, (h.f f hf).2⟩
 have hb := h.g.b.trans (hb9.mono h.g.b.size);have hf : Fr (fun g => g = H ∨ g = H + 1) w9 (((((w9.setCell ⟨H, 0, none⟩ (.int .i64 pk)).setCell ⟨H, 1, none⟩ (.int .i64 sz)).setCell ⟨H, 2, none⟩ (.slice Fl i fc)).setCell ⟨H, 3, none⟩ (.int .i64 m)).setCell ⟨H + 1, 0, none⟩ (.int .i64 0)) :=
  (((((Fr.refl _ _).setCell (p := ⟨H, 0, none⟩) (.inl (.inl rfl)) _).setCell (p := ⟨H, 1, none⟩) (.inl (.inl rfl)) _).setCell (p := ⟨H, 2, none⟩) (.inl (.inl rfl)) _).setCell (p := ⟨H, 3, none⟩) (.inl (.inl rfl)) _).setCell (p := ⟨H + 1, 0, none⟩) (.inl (.inr rfl)) _
 have hne : H ≠ H + 1 := by omega
 refine ⟨?_, ?_, fls_of_own (B := w0.heap.size) (own_fr o9 hf fun g hg e => ?_) h.l (fun f hf2 => ⟨own_fr (f9 f hf2).1 hf fun g hg e => ?_, (f9 f hf2).2⟩), hb.trans (hf.below hb.size (fun g hg => by rcases hg with rfl | rfl <;> omega))⟩
 · have := (((h9.set_ 0 (.int .i64 pk)).set_ 1 (.int .i64 sz)).set_ 2 (.slice Fl i fc)).set_ 3 (.int .i64 m);exact this.far (p := ⟨H + 1, 0, none⟩) hne _
 · exact ((((e9.far (p := ⟨H, 0, none⟩) (Ne.symm hne) _).far (p := ⟨H, 1, none⟩) (Ne.symm hne) _).far (p := ⟨H, 2, none⟩) (Ne.symm hne) _).far (p := ⟨H, 3, none⟩) (Ne.symm hne) _).set_ 0 _
 · rcases e with e | e
   · exact own_ne o9 h9 (by decide) (by rw [hg, e])
   · exact own_ne o9 e9 (by decide) (by rw [hg, e])
 · rcases e with e | e
   · exact own_ne (f9 f hf2).1 h9 (by decide) (by rw [hg, e])
   · exact own_ne (f9 f hf2).1 e9 (by decide) (by rw [hg, e])
theorem hGet_any (S : Sums) (hS : S.c32 = crc32) (A : Option Addr) (m c : Nat) (l : List UInt8) (w : World) (hI : In w A m l) (hc : m ≤ c) (hc63 : c ≤ 9223372036854775807) (hm : m = hdLen l) (h0 : (l.getD 0 0).toNat ≠ 0) (hl : LaidC w) :
 Calls Tryz.prog 112 #[.slice A m c] w (HdPost (headF S l) m w) := by
 obtain ⟨i0, hi0, hz0, hz1, hz2⟩ := info_parts infofl;have hlm := hI.len;have hl0 := (l.getD 0 0).toNat_lt;have hm8 : 8 ≤ m ∧ m ≤ 1024 := by rw [hm]; unfold hdLen; omega
 obtain ⟨X, hX⟩ : ∃ z, headF S l = z := ⟨_, rfl⟩;rw [hX];rw [headF_wh, hlm] at hX;have HX := Lib.hid hX;have hmf : ∀ (fn : Fn) (first cap : Array Value) (w : World), (Instr.makeFunc fn first cap).run Tryz.prog w = .ok (.func fn first cap) w := fun _ _ _ _ => rfl
 obtain ⟨H, hH⟩ : ∃ z, w.heap.size = z := ⟨_, rfl⟩;obtain ⟨w1, hw1⟩ : ∃ z, (w.alloc (.cells #[.int .i64 0, .int .i64 0, .slice none 0 0, .int .i64 0] 91)).alloc (.cells #[.int .i64 0] 54) = z := ⟨_, rfl⟩;have hb1 : Below w.heap.size w w1 := by rw [← hw1]; exact ((Below.refl _ _).alloc (Nat.le_refl _) _).alloc (by simp) _
 have hH1 : Blk w1 H 91 (hdV 0 0 none 0 0 0) := by rw [← hw1]; exact (Blk.new_at hH.symm).alloc _
 have hE1 : Blk w1 (H + 1) 54 #[.int .i64 0] := by rw [← hw1]; exact Blk.new_at (by simp [hH])
 have HWh := Lib.hid (hwhole_any S hS A m c l w1 (hI.below hb1) hc hm h0 (hl.below hb1));have H1 := Lib.hid (And.intro hb1 (And.intro hH1 (And.intro hE1 (hI.below hb1))));have HW := Lib.hid (And.intro hw1 hH);have HC := Lib.hid (And.intro hc (And.intro hm8 hc63));obtain ⟨k, hk⟩ : ∃ z, whE S l = z := ⟨_, rfl⟩;rw [hk] at HWh HX;have hk3 : k = 0 ∨ k = 3 := by rw [← hk]; unfold whE; split; exact .inr rfl; exact .inl rfl
 have H0 := Lib.hid hI;clear hI hc hm h0 hl hlm hl0 hX hH hw1 hb1 hH1 hE1 hk hm8 hc63
 go_enter_defers Tryz.func112, Tryz.ntmps112
 go_upto_region 1 with (fail);rw [HW.out.1, HW.out.2];go_wp2_with fail;refine HWh.out.mono ?_;rintro e w2 ⟨hb2, he⟩;have hH2 := H1.out.2.1.below hb2;have hE2 := H1.out.2.2.1.below hb2;have e0 := hE2.cell 0;have f0 := hE2.frozen 0;have H2 := Lib.hid (And.intro (H1.out.1.trans (hb2.mono H1.out.1.size)) (And.intro hH2 (And.intro hE2 (H1.out.2.2.2.below hb2))));have HHE := Lib.hid (show w.heap.size ≤ H ∧ w.heap.size ≤ H + 1 ∧ H ≠ H + 1 by have := HW.out.2; omega)
 clear hH2 hE2 hb2 HWh;rcases hk3 with rfl | rfl
 · have he : e = .returned (.tuple #[.slice A (m - 4) c, .int .i64 0]) := by rw [if_neg (fun h => h rfl)] at he; exact he
   subst he;have HX2 := Lib.hid (by have := HX.out; rw [if_neg (fun h => h rfl)] at this; exact this)
   clear HX;obtain ⟨ab, ao, rfl, hcell⟩ := H2.out.2.2.2.1.cells_at (by have := HC.out.2.1; omega)
   obtain ⟨z, hz⟩ : ∃ z, l[1]? = some z := ⟨_, List.getElem?_eq_getElem (by have := H1.out.2.2.2.len; have := HC.out.2.1; omega)⟩
   have b1 : w2.cell? ⟨ab, ao + 1, none⟩ = some (.int .u8 (z.toNat : Int)) := hcell 1 z hz;have HX3 := Lib.hid (show (if z.toNat / 4 % 16 ≠ 0 then HR.no 4 else hdPacked z.toNat ((l.take (m - 4)).drop 2)) = X by have := HX2.out; rw [show l.getD 1 0 = z by simp [List.getD, hz]] at this; exact this)
   have hb1w : w.cell? ⟨ab, ao + 1, none⟩ = some (.int .u8 (z.toNat : Int)) := by
    obtain ⟨ab', ao', e1, hc'⟩ := H0.out.1.cells_at (by have := HC.out.2.1; omega)
    injection e1 with e1;injection e1 with e2 e3;subst e2 e3;exact hc' 1 z hz
   have hab : ab < w.heap.size := block_lt_of_cell hb1w;have hz8 := z.toNat_lt;obtain ⟨y, hy⟩ : ∃ y, z.toNat = y := ⟨_, rfl⟩;rw [hy] at b1 HX3 hz8 hb1w;have Hb1 : Hid (∀ W, Below w.heap.size w W → W.cell? ⟨ab, ao + 1, none⟩ = some (.int .u8 (y : Int))) := Lib.hid (fun W hW => (hW.cell (p := ⟨ab, ao + 1, none⟩) hab).trans hb1w)
   obtain ⟨a60, a64, a128, a3⟩ := flag_and y hz8;obtain ⟨n, hn⟩ : ∃ n, m - 4 = n := ⟨_, rfl⟩;rw [hn] at HX3 ⊢;have HN := Lib.hid (show m = n + 4 by have := HC.out.2.1; omega)
   have hn4 : 4 ≤ n ∧ n ≤ 1020 := by have := HC.out.2.1; omega
   have hn1 : (1 : Int) < (n : Int) := by omega
   have hn2 : (2 : Int) ≤ (n : Int) := by omega
   have HAB := Lib.hid hab;clear hcell hz hy hn HX2 hb1w hab;by_cases h60 : y / 4 % 16 = 0
   · have HX4 := Lib.hid (show hdPacked y ((l.take n).drop 2) = X by have := HX3.out; rw [if_neg (fun h => h h60)] at this; exact this)
     have g60 : (((y / 4 % 16 * 4 : Nat) : Int) != 0) = false := by rw [bne_eq_false_iff_eq]; omega
     have H60 := Lib.hid h60;clear h60 HX3;obtain ⟨w3, hw3⟩ : ∃ x, w2.setCell ⟨H + 1, 0, none⟩ (.int .i64 0) = x := ⟨_, rfl⟩;obtain ⟨R, hR⟩ : ∃ x, w3.heap.size = x := ⟨_, rfl⟩;obtain ⟨w4, hw4⟩ : ∃ x, w3.alloc (.cells #[.slice (some ⟨ab, ao + 2, none⟩) (n - 2) (c - 2)] 282) = x := ⟨_, rfl⟩;have hf3 : Fr (fun g => g = H + 1) w2 w3 := by rw [← hw3]; exact Fr.set1 (Fr.refl _ _) 0 _
     have hE3 : Blk w3 (H + 1) 54 #[.int .i64 0] := by rw [← hw3]; exact H2.out.2.2.1.set_ 0 _
     have hH3 : Blk w3 H 91 (hdV 0 0 none 0 0 0) := H2.out.2.1.fr hf3 (by omega)
     have hb4 : Below w3.heap.size w3 w4 := by rw [← hw4]; exact (Below.refl _ _).alloc (Nat.le_refl _) _
     have hI3 := H2.out.2.2.2.fr hf3 (fun h0 ad had => in_far H2.out.2.2.2 h0 had H2.out.2.2.1 (by intro j v hv; rcases j with _ | j <;> simp at hv <;> subst hv <;> rfl))
     have hcm : (m : Int) ≤ (c : Int) ∧ ¬ c = 2 := by have := HC.out; omega
     have hn4' : n ≤ c := by have := HC.out; have := HN.out; omega
     have hI4 := ((hI3.take (k := n) (by have := HN.out; omega)).cut (k := 2) (c := c) (by omega) hn4').below hb4
     rw [if_neg hcm.2, Option.map_some, add_none] at hI4;have hR4 : Blk w4 R 282 #[.slice (some ⟨ab, ao + 2, none⟩) (n - 2) (c - 2)] := by rw [← hw4]; exact Blk.new_at hR.symm
     have hH4 := hH3.below hb4;unfold hdV at hH4;have c0 := hH4.cell 0;have c1 := hH4.cell 1;have c2 := hH4.cell 2;have c3 := hH4.cell 3;have q0 := hH4.frozen 0;have q1 := hH4.frozen 1;have q2 := hH4.frozen 2;have q3 := hH4.frozen 3;have wm : IntKind.i64.wrap ((n : Int) + 4) = (m : Int) := by have := HN.out; rw [IntWalk.i64_in _ (by omega)]; omega
     have HG : Hid (GSt w H (H + 1) R m (-1) (-1) none 0 0 (some ⟨ab, ao + 2, none⟩) (n - 2) (c - 2) ((l.take n).drop 2) ((((w4.setCell ⟨H, 0, none⟩ (.int .i64 (-1))).setCell ⟨H, 1, none⟩ (.int .i64 (-1))).setCell ⟨H, 2, none⟩ (.slice none 0 0)).setCell ⟨H, 3, none⟩ (.int .i64 m))) := by
      have hHl := H2.out.2.1.lt;have hs3 := hf3.size;have hHE := HHE.out;have hx := HC.out;have hRH : R ≠ H := by omega
      have hf : Fr (fun g => g = H) w4 ((((w4.setCell ⟨H, 0, none⟩ (.int .i64 (-1))).setCell ⟨H, 1, none⟩ (.int .i64 (-1))).setCell ⟨H, 2, none⟩ (.slice none 0 0)).setCell ⟨H, 3, none⟩ (.int .i64 m)) := Fr.set1 (Fr.set1 (Fr.set1 (Fr.set1 (Fr.refl _ _) 0 _) 1 _) 2 _) 3 _
      have hb3 := H2.out.1.trans (hf3.below H2.out.1.size (fun g hg => by have hg : g = H + 1 := hg; omega))
      refine Lib.hid ⟨(((hH4.set_ 0 _).set_ 1 _).set_ 2 _).set_ 3 _, (hE3.below hb4).fr hf (by omega), hR4.fr hf hRH, hI4.fr hf (fun h0 ad had => in_far hI4 h0 had hH4 (by intro j v hv; rcases j with _ | _ | _ | _ | j <;> simp at hv <;> subst hv <;> rfl)), by omega, (hb3.trans (hb4.mono hb3.size)).trans (hf.below (Nat.le_trans hb3.size hb4.size) (fun g hg => by have hg : g = H := hg; omega)), by omega, fun ad had => by injection had with had; rw [← had]; exact HAB.out⟩
     have HRm := Lib.hid (show w.heap.size ≤ H ∧ H + 1 < R by have := H2.out.2.2.1.lt; have := hf3.size; have := HHE.out; omega)
     have HW4 := Lib.hid (And.intro hw3 (And.intro hR hw4));clear hw3 hR hw4 hf3 hE3 hH3 hb4 hI3 hI4 hR4 hH4;go_upto_region 7 with (fail);rw [HW4.out.1];go_upto_region 8 with (fail);rw [HW4.out.2.1, HW4.out.2.2];go_cut [] from 11 (fun wy => Hid (GSt w H (H + 1) R m (-1) (-1) none 0 0 (some ⟨ab, ao + 2, none⟩) (n - 2) (c - 2) ((l.take n).drop 2) wy))
     case first =>
      go_wp2_with fail
      go_meet
      exact HG
     case rest =>
      clear HG c0 c1 c2 c3 q0 q1 q2 q3 e0 f0 b1;obtain ⟨⟨c0, c1, c2, c3⟩, ⟨q0, q1, q2, q3⟩, e0, f0, r0⟩ := hcut.out.cells;have b1 := Hb1.out _ hcut.out.b;generalize hr0 : (l.take n).drop 2 = rr at *;clear hr0;obtain ⟨n2, hn2'⟩ : ∃ x, n - 2 = x := ⟨_, rfl⟩;obtain ⟨c2', hc2'⟩ : ∃ x, c - 2 = x := ⟨_, rfl⟩;rw [hn2', hc2'] at hcut r0;clear hn2' hc2';go_step;go_step;go_cut [] from 11 (fun wy => ∃ (pk : Int) (A2 : Option Addr) (n2 c2 : Nat) (r2 : List UInt8), Hid (GSt w H (H + 1) R m pk (-1) none 0 0 A2 n2 c2 r2 wy ∧ hdSize y pk r2 = X))
      case first =>
       by_cases hp : 64 ≤ y % 128
       · have g64 : (((y / 64 % 2 * 64 : Nat) : Int) != 0) = true := by rw [bne_iff_ne]; omega
         have HX5 := Lib.hid (show (if (viF rr).e ≠ 0 then HR.no 2 else if (viF rr).v = 0 then .no 2 else hdSize y (viF rr).v (rr.drop (viF rr).n)) = X by have := HX4.out; unfold hdPacked at this; rw [if_pos hp] at this; exact this)
         have HNu := Lib.hid (rnum_any R (some ⟨ab, ao + 2, none⟩) n2 c2' rr wc hcut.out.r hcut.out.i hcut.out.c.1);have ht := fun h => viF_take rr 0 h
         rw [hcut.out.i.len] at ht;obtain ⟨⟨v, k, e⟩, hq⟩ : ∃ x, viF rr = x := ⟨_, rfl⟩;rw [hq] at HNu HX5 ht;simp only [] at HX5 ht;have HT := Lib.hid ht;clear hp hq ht HX4;go_wp2_with fail;refine HNu.out.mono ?_;rintro en w5 he;unfold NuPost at he;simp only [] at he;clear c0 c1 c2 c3 q0 q1 q2 q3 e0 f0 r0 b1;by_cases he0 : e = 0
         · subst he0;rw [if_pos rfl] at he;obtain ⟨rfl, hR5, hf5⟩ := he;have hg5 := hcut.out.ate rfl HRm.out.1 HRm.out.2 hf5 (HT.out rfl).2.1 hR5;obtain ⟨⟨c0, c1, c2, c3⟩, ⟨q0, q1, q2, q3⟩, e0, f0, r0⟩ := hg5.cells;have hg6 := (hg5.put rfl HRm.out.1 HRm.out.2).1 (v : Int);have HG5 := Lib.hid (And.intro hg5 hg6);have HX6 := Lib.hid (by have := HX5.out; rw [if_neg (fun h => h rfl)] at this; exact this)
           clear hR5 hf5 hg5 hg6 HNu;by_cases hv : v = 0
           · have HX7 := Lib.hid (show HR.no 2 = X by have := HX6.out; rw [if_pos hv] at this; exact this)
             have gv : ((v : Int) == 0) = true := beq_iff_eq.2 (by omega)
             clear hv HX6;go_wp2_with fail;exact get_dies (k := 2) (by rw [← HX7.out]; rfl) (by decide) rfl rfl rfl HG5.out.2.h HG5.out.2.e HG5.out.2.b HHE.out
           · have HX7 := Lib.hid (show hdSize y v (rr.drop k) = X by have := HX6.out; rw [if_neg hv] at this; exact this)
             have gv : ((v : Int) == 0) = false := beq_eq_false_iff_ne.2 (by omega)
             clear hv HX6;go_wp2_with fail
             go_meet
             exact ⟨v, _, _, _, _, Lib.hid ⟨HG5.out.2, HX7.out⟩⟩
         · rw [if_neg he0] at he;obtain ⟨rfl, hf5⟩ := he;have hg5 := hcut.out.fr rfl HRm.out.1 HRm.out.2 hf5;have HX6 := Lib.hid (show HR.no 2 = X by have := HX5.out; rw [if_pos he0] at this; exact this)
           exact get_dies (k := 2) (by rw [← HX6.out]; rfl) (by decide) rfl rfl rfl hg5.1 hg5.2.1 hg5.2.2.2 HHE.out
       · have g64 : (((y / 64 % 2 * 64 : Nat) : Int) != 0) = false := by rw [bne_eq_false_iff_eq]; omega
         have HX5 := Lib.hid (show hdSize y (-1) rr = X by have := HX4.out; unfold hdPacked at this; rw [if_neg hp] at this; exact this)
         clear hp HX4;go_wp2_with fail
         go_meet
         exact ⟨-1, _, _, _, _, Lib.hid ⟨hcut.out, HX5.out⟩⟩
      case rest =>
       clear c0 c1 c2 c3 q0 q1 q2 q3 e0 f0 r0 b1 HX4;obtain ⟨pk, A2, n2, m2, rr, hcut⟩ := hcut;have HXS := Lib.hid hcut.out.2;have hg := Lib.hid hcut.out.1;clear hcut;obtain ⟨⟨c0, c1, c2, c3⟩, ⟨q0, q1, q2, q3⟩, e0, f0, r0⟩ := hg.out.cells;have b1 := Hb1.out _ hg.out.b;go_step;go_step;go_cut [] from 11 (fun wy => ∃ (sz : Int) (A2 : Option Addr) (n2 c2 : Nat) (r2 : List UInt8), Hid (GSt w H (H + 1) R m pk sz none 0 0 A2 n2 c2 r2 wy ∧ hdFils y pk sz r2 = X))
       case first =>
        by_cases hp : 128 ≤ y
        · have g128 : (((y / 128 * 128 : Nat) : Int) != 0) = true := by rw [bne_iff_ne]; omega
          have HX5 := Lib.hid (show (if (viF rr).e ≠ 0 then HR.no 2 else hdFils y pk (viF rr).v (rr.drop (viF rr).n)) = X by have := HXS.out; unfold hdSize at this; rw [if_pos hp] at this; exact this)
          have HNu := Lib.hid (rnum_any R A2 n2 m2 rr wc hg.out.r hg.out.i hg.out.c.1);have ht := fun h => viF_take rr 0 h
          rw [hg.out.i.len] at ht;obtain ⟨⟨v, k, e⟩, hq⟩ : ∃ x, viF rr = x := ⟨_, rfl⟩;rw [hq] at HNu HX5 ht;simp only [] at HX5 ht;have HT := Lib.hid ht;clear hp hq ht HXS;go_wp2_with fail;refine HNu.out.mono ?_;rintro en w5 he;unfold NuPost at he;simp only [] at he;clear c0 c1 c2 c3 q0 q1 q2 q3 e0 f0 r0 b1;by_cases he0 : e = 0
          · subst he0;rw [if_pos rfl] at he;obtain ⟨rfl, hR5, hf5⟩ := he;have hg5 := hg.out.ate rfl HRm.out.1 HRm.out.2 hf5 (HT.out rfl).2.1 hR5;obtain ⟨⟨c0, c1, c2, c3⟩, ⟨q0, q1, q2, q3⟩, e0, f0, r0⟩ := hg5.cells;have hg6 := (hg5.put rfl HRm.out.1 HRm.out.2).2.1 (v : Int);have HG5 := Lib.hid (And.intro hg5 hg6);have HX6 := Lib.hid (by have := HX5.out; rw [if_neg (fun h => h rfl)] at this; exact this)
            clear hR5 hf5 hg5 hg6 HNu;go_wp2_with fail
            go_meet
            exact ⟨v, _, _, _, _, Lib.hid ⟨HG5.out.2, HX6.out⟩⟩
          · rw [if_neg he0] at he;obtain ⟨rfl, hf5⟩ := he;have hg5 := hg.out.fr rfl HRm.out.1 HRm.out.2 hf5;have HX6 := Lib.hid (show HR.no 2 = X by have := HX5.out; rw [if_pos he0] at this; exact this)
            exact get_dies (k := 2) (by rw [← HX6.out]; rfl) (by decide) rfl rfl rfl hg5.1 hg5.2.1 hg5.2.2.2 HHE.out
        · have g128 : (((y / 128 * 128 : Nat) : Int) != 0) = false := by rw [bne_eq_false_iff_eq]; omega
          have HX5 := Lib.hid (show hdFils y pk (-1) rr = X by have := HXS.out; unfold hdSize at this; rw [if_neg hp] at this; exact this)
          clear hp HXS;go_wp2_with fail
          go_meet
          exact ⟨-1, _, _, _, _, Lib.hid ⟨hg.out, HX5.out⟩⟩
       case rest =>
        clear c0 c1 c2 c3 q0 q1 q2 q3 e0 f0 r0 b1 HXS hg;obtain ⟨sz, A3, n3, m3, r3, hcut⟩ := hcut;have b1 := Hb1.out _ hcut.out.1.b;obtain ⟨K, hK⟩ : ∃ x, y % 8 + 1 = x := ⟨_, rfl⟩;have hK4 : K ≤ 4 ∧ y % 4 + 1 = K := by have := H60.out; omega
        have wK : IntKind.u8.wrap (((y % 4 : Nat) : Int) + 1) = (K : Int) := by rw [IntKind.wrap_u8]; omega
        have HG := Lib.hid (show GLp w H (H + 1) R m K pk sz X 0 none 0 A3 n3 m3 r3 [] wc from
         ⟨hcut.out.1, rfl, World.ownsRow_nil _ _ _ _, (fun f hf => absurd hf (by simp)), by have := hcut.out.2; unfold hdFils at this; rw [hK] at this; rw [← this]; rfl⟩)
        clear hcut hK a60 a64 a128;go_wp2_with fail
        go_loopw [60] (fun s60 wr => ∃ i : Nat, s60 = .int .u8 (i : Int) ∧ i ≤ K ∧ Hid (∃ Fl fc A2 n2 m2 r2 done, GLp w H (H + 1) R m K pk sz X i Fl fc A2 n2 m2 r2 done wr)) (fun s60 _ => K - (intOf s60).toNat)
        case atStart => exact ⟨0, rfl, by omega, Lib.hid ⟨_, _, _, _, _, _, _, HG.out⟩⟩
        case round =>
         obtain ⟨i, rfl, hi, hj⟩ := hrel;obtain ⟨Fl, fc, A2, n2, m2, r2, done, hL⟩ := hj.out;have HL := Lib.hid hL;obtain ⟨⟨c0, c1, c2, c3⟩, ⟨q0, q1, q2, q3⟩, e0, f0, r0⟩ := hL.g.cells;by_cases hiK : i < K
         · have hiK' : (i : Int) < (K : Int) := by omega
           have HiK := Lib.hid hiK;have HFi := Lib.hid (rfil_any R A2 n2 m2 r2 wr.drew hL.g.r.drew (hL.g.i.below (Below.refl _ _).drew) hL.g.c.1 hL.g.c.2);unfold FlPost at HFi;have hst := fun w6 w8 Ap cp a1 c1 => hL.step hiK rfl HRm.out.1 HRm.out.2 (w6 := w6) (w8 := w8) (Ap := Ap) (cp := cp) (a1 := a1) (c1 := c1)
           have hX := hL.x;rw [filsF_step hiK] at hX;have hfok := fiF_ok r2;obtain ⟨⟨id, ps, kn, fe⟩, hq⟩ : ∃ x, fiF r2 = x := ⟨_, rfl⟩;rw [hq] at HFi hst hX hfok;simp only [] at HFi hst hX hfok;have HX := Lib.hid hX;have HS := Lib.hid hst;have HO := Lib.hid hL.o;clear hX hst hq hL hj b1 hfok;by_cases he0 : fe = 0
           · subst he0;obtain ⟨q, hq⟩ : ∃ x, ps.length = x := ⟨_, rfl⟩;obtain ⟨A4, hA4⟩ : ∃ x, (if m2 = kn then A2 else A2.map (·.add kn)) = x := ⟨_, rfl⟩
             rw [hA4, hq] at HFi HS;have HM := Lib.hid (fun w6 (h6 : Fr (fun k => k = R) wr.drew w6) o => HL.out.mid rfl HRm.out.1 HRm.out.2 ((Fr.refl _ _).drew.trans h6) o)
             have hi4 : i ≤ 4 := by omega
             have wi8 : IntKind.u8.wrap ((i : Int) + 1) = ((i + 1 : Nat) : Int) := by rw [IntKind.wrap_u8]; omega
             have HQ := Lib.hid hq;clear hq hA4 HO;go_upto_region 17 with (fail);refine wp_region_noPanic (wp_region_any (by kernel_rfl) ?_)
             change wpAny _ _ _ _ _ _ _ (World.drew _);refine wpAny_take (i := 0) (v := .pointer (some ⟨H, 2, none⟩)) rfl (by kernel_rfl) (by kernel_rfl) (by kernel_rfl) (fun _ _ _ h => h) (Or.inl ⟨by rfl, by intro w; go_simp; try with_reducible rfl⟩) ?_
             refine wpAny_take (i := 2) (v := .pointer (some ⟨R, 0, none⟩)) rfl (by kernel_rfl) (by kernel_rfl) (by kernel_rfl) (fun _ _ _ h => h) (Or.inl ⟨by rfl, by intro w; go_simp; try with_reducible rfl⟩) ?_
             refine wpAny_ready (rs := [1, 3]) (by kernel_rfl) (by simp) ?_
             refine AllReady.cons rfl (fun K' hK => ?_) (AllReady.cons rfl (fun K' hK => ?_) AllReady.nil)
             · go_simp;refine hK _ _ ?_;clear hK K';refine wpAny_ready (rs := [3]) (by kernel_rfl) (by simp) ?_
               refine AllReady.cons rfl (fun K' hK => ?_) AllReady.nil
               go_simp;refine HFi.out.mono ?_;rintro en w6 he;rw [if_pos rfl] at he;obtain ⟨Ap, cp, rfl, ho6, hR6, hf6⟩ := he;refine hK _ _ ?_;clear hK K';have HM6 := Lib.hid (HM.out w6 hf6 (.cells #[.int .u64 id, .slice Ap q cp] 116));have H6 := Lib.hid (And.intro ho6 (And.intro hR6 hf6));have p2 := HM6.out.2.1;have s2 := HM6.out.2.2.1;clear ho6 hR6 hf6;refine wpAny_ready (rs := [4]) (by kernel_rfl) (by simp) ?_
               refine AllReady.cons rfl (fun K' hK => ?_) AllReady.nil
               go_simp;refine hK _ _ ?_;clear hK K';refine wpAny_ready (rs := [5]) (by kernel_rfl) (by simp) ?_
               refine AllReady.cons rfl (fun K' hK => ?_) AllReady.nil
               refine step_append_rd (w := w6.alloc (.cells #[.int .u64 id, .slice Ap q cp] 116)) rfl (.tmp 63) (.tmp 66) 86 rfl w.heap.size 116 i0 _ 2 32 Tryz.underlying86 hi0 hz0 hz1 hz2 rfl (by decide) (.slice Fl i fc) i (fesC done) (by simp [Act.eval]) HM6.out.1 (some ⟨w6.heap.size, 0, none⟩) 1 1 [.int .u64 id, .slice Ap q cp] (by simp [Act.eval]) (rd_new w6 #[.int .u64 id, .slice Ap q cp] 116 2 rfl) (by intro u hu; simp at hu; rcases hu with rfl | rfl <;> rfl) (by simp only [maxLen]; omega) (by omega) HM6.out.2.2.2 ?_
               intro a1 c1 w8 hown8 hg8 hat8;obtain ⟨hgl, t2, tf⟩ := HS.out w6 w8 Ap cp a1 c1 rfl H6.out.1 H6.out.2.1 ((Fr.refl _ _).drew.trans H6.out.2.2) (by rw [show feC ⟨id, ps, Ap, cp⟩ = [.int .u64 id, .slice Ap q cp] by simp [feC, HQ.out]]; exact hown8) hg8
               refine hK _ _ ?_;clear hK K' hown8 hg8 hat8;refine wpAny_take (i := 6) (v := .pointer (some ⟨H, 2, none⟩)) rfl (by kernel_rfl) (by kernel_rfl) (by kernel_rfl) (fun _ _ _ h => h) (Or.inl ⟨by rfl, by intro w; go_simp; try with_reducible rfl⟩) ?_
               refine wpAny_ready (rs := [7]) (by kernel_rfl) (by simp) ?_
               refine AllReady.cons rfl (fun K' hK => ?_) AllReady.nil
               go_simp;refine hK _ _ ?_;clear hK K';refine wpAny_done (by kernel_rfl) ?_ _
               refine NoPanic.normal ?_;go_wp2_with fail
               go_roundw
               case rel => exact ⟨i + 1, by simp, by omega, Lib.hid ⟨_, _, _, _, _, _, _, hgl⟩⟩
               case measure => simp [intOf]; omega
             · go_simp;refine HFi.out.mono ?_;rintro en w6 he;rw [if_pos rfl] at he;obtain ⟨Ap, cp, rfl, ho6, hR6, hf6⟩ := he;refine hK _ _ ?_;clear hK K';have HM6 := Lib.hid (HM.out w6 hf6 (.cells #[.int .u64 id, .slice Ap q cp] 116));have H6 := Lib.hid (And.intro ho6 (And.intro hR6 hf6));have p2 := HM6.out.2.1;have s2 := HM6.out.2.2.1;clear ho6 hR6 hf6;refine wpAny_ready (rs := [1, 4]) (by kernel_rfl) (by simp) ?_
               refine AllReady.cons rfl (fun K' hK => ?_) (AllReady.cons rfl (fun K' hK => ?_) AllReady.nil)
               · go_simp;refine hK _ _ ?_;clear hK K';refine wpAny_ready (rs := [4]) (by kernel_rfl) (by simp) ?_
                 refine AllReady.cons rfl (fun K' hK => ?_) AllReady.nil
                 go_simp;refine hK _ _ ?_;clear hK K';refine wpAny_ready (rs := [5]) (by kernel_rfl) (by simp) ?_
                 refine AllReady.cons rfl (fun K' hK => ?_) AllReady.nil
                 refine step_append_rd (w := w6.alloc (.cells #[.int .u64 id, .slice Ap q cp] 116)) rfl (.tmp 63) (.tmp 66) 86 rfl w.heap.size 116 i0 _ 2 32 Tryz.underlying86 hi0 hz0 hz1 hz2 rfl (by decide) (.slice Fl i fc) i (fesC done) (by simp [Act.eval]) HM6.out.1 (some ⟨w6.heap.size, 0, none⟩) 1 1 [.int .u64 id, .slice Ap q cp] (by simp [Act.eval]) (rd_new w6 #[.int .u64 id, .slice Ap q cp] 116 2 rfl) (by intro u hu; simp at hu; rcases hu with rfl | rfl <;> rfl) (by simp only [maxLen]; omega) (by omega) HM6.out.2.2.2 ?_
                 intro a1 c1 w8 hown8 hg8 hat8;obtain ⟨hgl, t2, tf⟩ := HS.out w6 w8 Ap cp a1 c1 rfl H6.out.1 H6.out.2.1 ((Fr.refl _ _).drew.trans H6.out.2.2) (by rw [show feC ⟨id, ps, Ap, cp⟩ = [.int .u64 id, .slice Ap q cp] by simp [feC, HQ.out]]; exact hown8) hg8
                 refine hK _ _ ?_;clear hK K' hown8 hg8 hat8;refine wpAny_take (i := 6) (v := .pointer (some ⟨H, 2, none⟩)) rfl (by kernel_rfl) (by kernel_rfl) (by kernel_rfl) (fun _ _ _ h => h) (Or.inl ⟨by rfl, by intro w; go_simp; try with_reducible rfl⟩) ?_
                 refine wpAny_ready (rs := [7]) (by kernel_rfl) (by simp) ?_
                 refine AllReady.cons rfl (fun K' hK => ?_) AllReady.nil
                 go_simp;refine hK _ _ ?_;clear hK K';refine wpAny_done (by kernel_rfl) ?_ _
                 refine NoPanic.normal ?_;go_wp2_with fail
                 go_roundw
                 case rel => exact ⟨i + 1, by simp, by omega, Lib.hid ⟨_, _, _, _, _, _, _, hgl⟩⟩
                 case measure => simp [intOf]; omega
               · go_simp;refine hK _ _ ?_;clear hK K';refine wpAny_ready (rs := [1]) (by kernel_rfl) (by simp) ?_
                 refine AllReady.cons rfl (fun K' hK => ?_) AllReady.nil
                 go_simp;refine hK _ _ ?_;clear hK K';refine wpAny_ready (rs := [5]) (by kernel_rfl) (by simp) ?_
                 refine AllReady.cons rfl (fun K' hK => ?_) AllReady.nil
                 refine step_append_rd (w := w6.alloc (.cells #[.int .u64 id, .slice Ap q cp] 116)) rfl (.tmp 63) (.tmp 66) 86 rfl w.heap.size 116 i0 _ 2 32 Tryz.underlying86 hi0 hz0 hz1 hz2 rfl (by decide) (.slice Fl i fc) i (fesC done) (by simp [Act.eval]) HM6.out.1 (some ⟨w6.heap.size, 0, none⟩) 1 1 [.int .u64 id, .slice Ap q cp] (by simp [Act.eval]) (rd_new w6 #[.int .u64 id, .slice Ap q cp] 116 2 rfl) (by intro u hu; simp at hu; rcases hu with rfl | rfl <;> rfl) (by simp only [maxLen]; omega) (by omega) HM6.out.2.2.2 ?_
                 intro a1 c1 w8 hown8 hg8 hat8;obtain ⟨hgl, t2, tf⟩ := HS.out w6 w8 Ap cp a1 c1 rfl H6.out.1 H6.out.2.1 ((Fr.refl _ _).drew.trans H6.out.2.2) (by rw [show feC ⟨id, ps, Ap, cp⟩ = [.int .u64 id, .slice Ap q cp] by simp [feC, HQ.out]]; exact hown8) hg8
                 refine hK _ _ ?_;clear hK K' hown8 hg8 hat8;refine wpAny_take (i := 6) (v := .pointer (some ⟨H, 2, none⟩)) rfl (by kernel_rfl) (by kernel_rfl) (by kernel_rfl) (fun _ _ _ h => h) (Or.inl ⟨by rfl, by intro w; go_simp; try with_reducible rfl⟩) ?_
                 refine wpAny_ready (rs := [7]) (by kernel_rfl) (by simp) ?_
                 refine AllReady.cons rfl (fun K' hK => ?_) AllReady.nil
                 go_simp;refine hK _ _ ?_;clear hK K';refine wpAny_done (by kernel_rfl) ?_ _
                 refine NoPanic.normal ?_;go_wp2_with fail
                 go_roundw
                 case rel => exact ⟨i + 1, by simp, by omega, Lib.hid ⟨_, _, _, _, _, _, _, hgl⟩⟩
                 case measure => simp [intOf]; omega
           · skip
             have HX2 := Lib.hid (show X = HR.no 2 by rw [HX.out, if_pos he0])
             have d2 : wr.drew.cell? ⟨H, 2, none⟩ = some (.slice Fl i fc) := c2;go_wp2_with fail;refine kept_region (D := [{ target := .fn (.func 137) #[.pointer (some ⟨H, 0, none⟩), .pointer (some ⟨H + 1, 0, none⟩)], args := #[] }]) (p2 := .pointer (some ⟨H, 0, none⟩)) (p3 := .pointer (some ⟨H + 1, 0, none⟩)) (by kernel_rfl) (by kernel_rfl) rfl rfl ?_
             refine wpAny_take (i := 0) (v := .pointer (some ⟨H, 2, none⟩)) rfl (by kernel_rfl) (by kernel_rfl) (by kernel_rfl) (fun _ _ _ h => h) (Or.inl ⟨by rfl, by intro w; go_simp; try with_reducible rfl⟩) ?_
             refine wpAny_take (i := 2) (v := .pointer (some ⟨R, 0, none⟩)) rfl (by kernel_rfl) (by kernel_rfl) (by kernel_rfl) (fun _ _ _ h => h) (Or.inl ⟨by rfl, by intro w; go_simp; try with_reducible rfl⟩) ?_
             refine wpAny_ready (rs := [1, 3]) (by kernel_rfl) (by simp) ?_
             refine AllReady.cons rfl (fun K' hK => ?_) (AllReady.cons rfl (fun K' hK => ?_) AllReady.nil)
             · go_simp;refine hK _ _ ?_;clear hK K';refine wpAny_ready (rs := [3]) (by kernel_rfl) (by simp) ?_
               refine AllReady.cons rfl (fun K' hK => ?_) AllReady.nil
               go_simp;refine HFi.out.mono ?_;rintro en w6 he;rw [if_neg he0] at he;obtain ⟨rfl, hf6⟩ := he;have hg5 := HL.out.g.fr rfl HRm.out.1 HRm.out.2 ((Fr.refl _ _).drew.trans hf6);exact ⟨rfl, fun a' hd h2 h3 => get_dies (k := 2) (by rw [HX2.out]; rfl) (by decide) hd h2 h3 hg5.1 hg5.2.1 hg5.2.2.2 HHE.out⟩
             · go_simp;refine HFi.out.mono ?_;rintro en w6 he;rw [if_neg he0] at he;obtain ⟨rfl, hf6⟩ := he;have hg5 := HL.out.g.fr rfl HRm.out.1 HRm.out.2 ((Fr.refl _ _).drew.trans hf6);exact ⟨rfl, fun a' hd h2 h3 => get_dies (k := 2) (by rw [HX2.out]; rfl) (by decide) hd h2 h3 hg5.1 hg5.2.1 hg5.2.2.2 HHE.out⟩
         · obtain rfl : i = K := by omega
           have hiK' : ¬ (i : Int) < (i : Int) := by omega
           have HX := Lib.hid (show X = hdEnd pk sz (fesF done) r2 by have := hL.x; rw [Nat.sub_self] at this; simpa [filsF] using this)
           have HI2 := Lib.hid hL.g.i;have hn2 := hL.g.i.2.2;have hLs := hL.g.i.len;have HLs := Lib.hid hLs;have HFl := Lib.hid (fls_of_own hL.o hL.l hL.f);have hi8 : i ≤ 8 := by omega
           have HRd := Lib.hid (Read_any Fl i fc (fesF done) wr HFl.out (by omega))
           clear hj b1 hL hLs;go_wp2_with fail
           go_loopw [75] (fun s75 wq => ∃ j : Nat, s75 = .int .i64 (j : Int) ∧ j ≤ n2 ∧ Hid ((r2.take j).all (fun z => z == 0) = true) ∧ wq = wr) (fun s75 _ => n2 - (intOf s75).toNat)
           case atStart => exact ⟨0, rfl, by omega, Lib.hid (by simp), rfl⟩
           case round =>
            obtain ⟨j, rfl, hj, HJ, rfl⟩ := hrel;by_cases hjn : j < n2
            · have hjn' : (j : Int) < (n2 : Int) := by omega
              obtain ⟨bb, bo, rfl, hcell⟩ := HI2.out.1.cells_at (by omega)
              obtain ⟨z, hz⟩ : ∃ z, r2[j]? = some z := ⟨_, List.getElem?_eq_getElem (by have := HLs.out; omega)⟩
              have bz := hcell j z hz;have HZ := Lib.hid hz;clear hcell hz;by_cases h0 : z = 0
              · subst h0;go_wp2_with fail
                go_roundw
                case rel => exact ⟨j + 1, by go_num, by omega, Lib.hid (by rw [List.take_add_one, HZ.out, List.all_append, HJ.out]; rfl), trivial⟩
                case measure => simp [intOf]; omega
              · have x1 : ((z.toNat : Int) != 0) = true := by rw [bne_iff_ne]; intro h; exact h0 (UInt8.toNat_inj.1 (by show z.toNat = 0; omega))
                have x2 : ((z.toNat : Int) == 0) = false := beq_eq_false_iff_ne.2 (fun h => h0 (UInt8.toNat_inj.1 (by show z.toNat = 0; omega)))
                have HXr := Lib.hid (show X = HR.no 4 by
                 rw [HX.out];unfold hdEnd;rw [if_pos (by
                  rw [Bool.eq_false_iff];intro h;rw [List.all_eq_true] at h;have := h z (List.mem_of_getElem? HZ.out);exact h0 (by simpa using this))])
                obtain ⟨zn, hzn⟩ : ∃ k, z.toNat = k := ⟨_, rfl⟩;rw [hzn] at bz x1 x2;clear h0 hzn;go_wp2_with fail;exact get_dies (k := 4) (by rw [HXr.out]; rfl) (by decide) rfl rfl rfl HL.out.g.h HL.out.g.e HL.out.g.b HHE.out
            · obtain rfl : j = n2 := by omega
              have hjn' : ¬ (j : Int) < (j : Int) := by omega
              have HX2 := Lib.hid (show X = match readF (fesF done) with | none => HR.no 4 | some p => ⟨0, pk, sz, fesF done, p⟩ by
               have h2 := HJ.out;rw [List.take_of_length_le (by have := HLs.out; omega)] at h2
               rw [HX.out];unfold hdEnd;rw [if_neg (by rw [h2]; simp)]
               rfl)
              clear HX HJ;go_wp2_with fail;refine HRd.out.mono ?_;rintro en w9 ⟨hb9, he⟩;have h9 := HL.out.g.h.below hb9;have e9 := HL.out.g.e.below hb9;have hbb := HL.out.g.b.trans (hb9.mono HL.out.g.b.size);cases hrd : readF (fesF done) with
              | none =>
               rw [hrd] at he;have he : en = .returned (.tuple #[.int .i64 0, .int .i64 0, .int .i64 4]) := he;subst he;have HXr := Lib.hid (show X = HR.no 4 by rw [HX2.out, hrd])
               have H9 := Lib.hid (And.intro h9 (And.intro e9 hbb));clear h9 e9 hbb hb9 hrd HX2 HRd c0 c1 c2 c3 q0 q1 q2 q3 e0 f0 r0;go_wp2_with fail;exact get_dies (k := 4) (by rw [HXr.out]; rfl) (by decide) rfl rfl rfl H9.out.1 H9.out.2.1 H9.out.2.2 HHE.out
              | some p =>
               rw [hrd] at he;have he : en = .returned (.tuple #[.int .i64 p.dist, .int .i64 p.dict, .int .i64 0]) := he;subst he;have HXr := Lib.hid (show X = ⟨0, pk, sz, fesF done, p⟩ by rw [HX2.out, hrd])
               have HF9 := Lib.hid (HFl.out.below hb9);have HFin := Lib.hid (HL.out.fin rfl HRm.out.1 hb9);obtain ⟨pd, pc⟩ := p;have HDl := Lib.hid HL.out.l;clear hbb hb9 hrd HX2 HRd c0 c1 c2 c3 q0 q1 q2 q3 e0 f0 r0;unfold hdV at h9;have c0 := h9.cell 0;have c1 := h9.cell 1;have c2 := h9.cell 2;have c3 := h9.cell 3;have q0 := h9.frozen 0;have q1 := h9.frozen 1;have q2 := h9.frozen 2;have q3 := h9.frozen 3
               have e0 := e9.cell 0;have f0 := e9.frozen 0;clear h9 e9;go_wp2_with fail;exact get_ends (p := pk) (s := sz) (A := Fl) (n := i) (c := fc) (by rw [HXr.out]) (by rw [HXr.out]) (by rw [HXr.out]) (by rw [HXr.out]; simp [fesF, HDl.out]) (by rw [HXr.out]; exact HFin.out.2.2.1) hi8 rfl rfl rfl HFin.out.1 HFin.out.2.1 HFin.out.2.2.2
   · have HX4 := Lib.hid (show HR.no 4 = X by have := HX3.out; rw [if_pos h60] at this; exact this)
     have g60 : (((y / 4 % 16 * 4 : Nat) : Int) != 0) = true := by rw [bne_iff_ne]; omega
     clear h60 HX3;go_wp2_with fail;exact get_dies (k := 4) (by rw [← HX4.out]; rfl) (by decide) rfl rfl rfl (H2.out.2.1.far (p := ⟨H + 1, 0, none⟩) (by show H ≠ H + 1; omega) _) (H2.out.2.2.1.set_ 0 _) (H2.out.1.setCell (p := ⟨H + 1, 0, none⟩) HHE.out.2.1 _) HHE.out
 · have he : e = .returned (.tuple #[.slice none 0 0, .int .i64 3]) := by rw [if_pos (by decide)] at he; exact he
   subst he;have HX2 := Lib.hid (by have := HX.out; rw [if_pos (by decide)] at this; exact this)
   clear HX;go_wp2_with fail;exact get_dies (k := 3) (by rw [← HX2.out]; rfl) (by decide) rfl rfl rfl (H2.out.2.1.far (p := ⟨H + 1, 0, none⟩) (by show H ≠ H + 1; omega) _) (H2.out.2.2.1.set_ 0 _) (H2.out.1.setCell (p := ⟨H + 1, 0, none⟩) HHE.out.2.1 _) HHE.out
end Go.Proofs.YtcjehjdehdoaeaaGreatDoor
