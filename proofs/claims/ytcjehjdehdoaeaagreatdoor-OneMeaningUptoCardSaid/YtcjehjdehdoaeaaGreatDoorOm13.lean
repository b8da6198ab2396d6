/-
  Laws on the way to the claim (OpS OpR OpT). Conditions: those that each theorem states.
-/
import Derived.Test.YtcjehjdehdoaeaaGreatDoorOm12
import Derived.Test.YtcjehjdehdoaeaaGreatDoorOm10
import Derived.Deep.RegionHeld3
import Derived.Deep.DeepCutAuto
set_option linter.unusedVariables false
set_option linter.unusedSimpArgs false
set_option maxRecDepth 1000000
set_option maxHeartbeats 16000000
namespace Go.Proofs.YtcjehjdehdoaeaaGreatDoor
open Go.RowKit
def byteI (z : Int) : UInt8 := UInt8.ofNat (z % 256).toNat
theorem byteI_toNat (z : Int) : ((byteI z).toNat : Int) = z % 256 := by
 unfold byteI;rw [UInt8.toNat_ofNat'];omega
def symbolQ (x : RsX) (q : Q) : Sy × Q :=
 let n := q.t.s.n;let at_ := atI q.t x.all.length;let b0 := bitQ x.rc.l q 0 at_
 if b0.1 = 0 then (⟨1, byteI (literalQ x b0.2).1, 0, 0⟩, (literalQ x b0.2).2)
 else
  let b1 := bitQ x.rc.l b0.2 2 n
  if b1.1 = 0 then
   let k := lengthQ x.rc.l b1.2 7 x.all.length
   (⟨2, 0, k.1, (distQ x.rc.l k.2 k.1).1⟩, (distQ x.rc.l k.2 k.1).2)
  else
   let b2 := bitQ x.rc.l b1.2 3 n
   if b2.1 = 0 then
    let b3 := bitQ x.rc.l b2.2 1 at_
    if b3.1 = 0 then (⟨4, 0, 0, 0⟩, b3.2)
    else (⟨3, 0, (lengthQ x.rc.l b3.2 11 x.all.length).1, 0⟩, (lengthQ x.rc.l b3.2 11 x.all.length).2)
   else
    let b4 := bitQ x.rc.l b2.2 4 n
    if b4.1 = 1 then
     let b5 := bitQ x.rc.l b4.2 5 n
     (⟨3, 0, (lengthQ x.rc.l b5.2 11 x.all.length).1, 2 + b5.1⟩, (lengthQ x.rc.l b5.2 11 x.all.length).2)
    else (⟨3, 0, (lengthQ x.rc.l b4.2 11 x.all.length).1, 1⟩, (lengthQ x.rc.l b4.2 11 x.all.length).2)
def SPost (x : RsX) (w : World) (r : Sy × Q) (e : Ending) (w' : World) : Prop := e = .returned r.1.v ∧ Rs x r.2 w' ∧ Fr x.foot w w'
structure Sw (x : RsX) (q : Q) (Y : Nat) (w w' : World) : Prop where
 y : Blk w' Y 232 #[.int .i64 0, .int .u8 0, .int .i64 0, .int .i64 0]
 r : Rs x q w'
 k : Fr x.foot w w'
 n : w.heap.size ≤ Y
section
variable {x : RsX} {q q' : Q} {Y : Nat} {w w' w'' : World}
theorem Sw.drewN (h : Sw x q Y w w') (n : Nat) : Sw x q Y w (w'.drewN n) := ⟨h.y, h.r.drewN n, h.k.drewN n, h.n⟩
theorem Sw.next (h : Sw x q Y w w') (hr : Rs x q' w'') (hf : Fr x.foot w' w'') : Sw x q' Y w w'' :=
 ⟨h.y.fr hf (h.r.not_foot ⟨_, h.y⟩ (by decide) (by decide) (by decide)), hr, h.k.trans hf, h.n⟩
theorem Sw.done (h : Sw x q Y w w') (y : Sy) {w4 : World} (hw : (((w'.setCell ⟨Y, 0, none⟩ (.int .i64 y.k)).setCell ⟨Y, 1, none⟩ (.int .u8 (y.y.toNat : Int))).setCell ⟨Y, 2, none⟩ (.int .i64 y.l)).setCell ⟨Y, 3, none⟩ (.int .i64 y.x) = w4) :
 Blk w4 Y 232 #[.int .i64 y.k, .int .u8 (y.y.toNat : Int), .int .i64 y.l, .int .i64 y.x] ∧ Rs x q w4 ∧ Fr x.foot w w4 := by
 subst hw;have hf : Fr (fun g => g = Y) w' ((((w'.setCell ⟨Y, 0, none⟩ (.int .i64 y.k)).setCell ⟨Y, 1, none⟩ (.int .u8 (y.y.toNat : Int))).setCell ⟨Y, 2, none⟩ (.int .i64 y.l)).setCell ⟨Y, 3, none⟩ (.int .i64 y.x)) := Fr.set1 (Fr.set1 (Fr.set1 (Fr.set1 (Fr.refl _ _) 0 _) 1 _) 2 _) 3 _
 have hT : ∀ {g : Nat} {t : TypeId}, BT w' g t → t ≠ 232 → ¬ g = Y := fun hg hne => BT.ne hg ⟨_, h.y⟩ hne
 have hr := h.r;have hn := h.n;refine ⟨(((h.y.set_ 0 _).set_ 1 _).set_ 2 _).set_ 3 _, ⟨hr.b.fr hf (hT ⟨_, hr.b⟩ (by decide)), hr.d.fr hf (hT ⟨_, hr.d⟩ (by decide)), hr.t.fr hf (hT ⟨_, hr.t.b⟩ (by decide)) (fun g hg => hT hg (by decide)) (fun g hg => hT hg (by decide)), hr.v.fr hf (hT hr.v.bt.1 (by decide)) (fun g hg => hT (hr.v.bt.2 g hg) (by decide)), hr.c.fr hf (hT ⟨_, hr.c.b⟩ (by decide)) (fun g hg => hT hg (by decide))⟩, ?_⟩
 exact h.k.trans' hf fun i hi e => by omega
end
theorem sym_fin {x : RsX} {q : Q} {Y : Nat} {w w' : World} {tmps : Array Value} (h : Sw x q Y w w') (y : Sy) {r : Sy × Q} (hr : (y, q) = r) {y1 : Int} (hy : (y.y.toNat : Int) = y1 := by rfl) (ht : tmps[2]? = some (.pointer (some ⟨Y, 0, none⟩)) := by rfl) :
 bodyPost Tryz.prog Tryz.f208 (SPost x w r) .ret { tmps := tmps, defers := [] } ((((w'.setCell ⟨Y, 0, none⟩ (.int .i64 y.k)).setCell ⟨Y, 1, none⟩ (.int .u8 y1)).setCell ⟨Y, 2, none⟩ (.int .i64 y.l)).setCell ⟨Y, 3, none⟩ (.int .i64 y.x)) := by
 subst hr hy;obtain ⟨h1, h2, h3⟩ := h.done y rfl;obtain ⟨c0, c1, c2, c3⟩ := h1.four;obtain ⟨w4, hw4⟩ : ∃ w4, ((((w'.setCell ⟨Y, 0, none⟩ (.int .i64 y.k)).setCell ⟨Y, 1, none⟩ (.int .u8 (y.y.toNat : Int))).setCell ⟨Y, 2, none⟩ (.int .i64 y.l)).setCell ⟨Y, 3, none⟩ (.int .i64 y.x)) = w4 := ⟨_, rfl⟩;rw [hw4] at c0 c1 c2 c3 h2 h3 ⊢;exact bodyPost_ret (v := y.v) (by simp [results, Tryz.results208, go_sem, ht, c0, c1, c2, c3, Sy.v, Sy.cs]) rfl ⟨rfl, h2, h3⟩
theorem symbol_any (x : RsX) (q : Q) (w : World) (h : Rs x q w) : Calls Tryz.prog 208 #[.pointer (some ⟨x.rd, 0, none⟩)] w (SPost x w (symbolQ x q)) := by
 obtain ⟨Y, hY⟩ : ∃ Y, w.heap.size = Y := ⟨_, rfl⟩;obtain ⟨w1, hw1⟩ : ∃ w1, w.alloc (.cells #[.int .i64 0, .int .u8 0, .int .i64 0, .int .i64 0] 232) = w1 := ⟨_, rfl⟩;have hb : Below w.heap.size w w1 := by rw [← hw1]; exact (Below.refl _ _).alloc (Nat.le_refl _) _
 have H1 : Hid (Sw x q Y w w1) := ⟨by rw [← hw1]; exact Blk.new_at hY.symm, h.below hb, Fr.of_below hb, by omega⟩
 obtain ⟨r0, d0, d1⟩ := H1.out.r.three;obtain ⟨s0, s1, s2, s3, s4, t6⟩ := H1.out.r.st;have HPos := Lib.hid (fun n => wpos_any (H1.out.r.drewN n))
 have HAt := Lib.hid (fun n => At_any x.B x.tb q.t x.all.length (w1.drewN n) (H1.out.r.drewN n).t)
 obtain ⟨r, hr⟩ : ∃ r, symbolQ x q = r := ⟨_, rfl⟩;rw [hr];unfold symbolQ at hr;simp only [] at hr;obtain ⟨at_, hat⟩ : ∃ z, atI q.t x.all.length = z := ⟨_, rfl⟩;obtain ⟨n_, hn_⟩ : ∃ z, q.t.s.n = z := ⟨_, rfl⟩;rw [hat] at HAt hr;rw [hn_] at s0 hr;have HR := Lib.hid hr;clear hr h hb hat hn_;go_enter Tryz.func208, Tryz.ntmps208;go_upto_region 1 with (fail);clear hw1 hY
 go_quiet ((first | (go_at_call 160; exact Calls.quiet_of_same (HPos.out _)) | (go_at_call 159; exact Calls.quiet_of (HAt.out _))))
 have H2 := Lib.hid (H1.out.drewN nq);obtain ⟨w2, hw2⟩ : ∃ w2, w1.drewN nq = w2 := ⟨_, rfl⟩;rw [hw2] at H2 ⊢;clear hw2 r0 d0 d1 s0 s1 s2 s3 s4 t6 HPos HAt H1;obtain ⟨q2, hq2⟩ : ∃ z, q = z := ⟨_, rfl⟩;rw [hq2] at H2 HR;clear hq2;have hb := bit_any x q2 0 (by decide) at_ w2 H2.out.r
 obtain ⟨⟨b3, q3⟩, hq⟩ : ∃ z, bitQ x.rc.l q2 0 at_ = z := ⟨_, rfl⟩;have hR := HR.out;rw [hq] at hb hR;simp only [] at hR;have HR3 := Lib.hid hR;have HB3 := Lib.hid hb;have hb01 : b3 = 0 ∨ b3 = 1 := by have := bitQ_bit x.rc.l q2 0 at_; rw [hq] at this; exact this
 clear hb hq hR;obtain ⟨r0, d0, d1⟩ := H2.out.r.three;have t0 : w2.cell? ⟨x.tb.tb, 8, none⟩ = some (.pointer (some ⟨x.tb.sb 0, 0, none⟩)) := H2.out.r.t.b.cell 8;go_wp2_with fail;refine HB3.out.mono ?_;rintro e w3 ⟨rfl, h, hf⟩;simp only [] at h ⊢;have H3 := Lib.hid (H2.out.next h hf);clear r0 d0 d1 t0 HB3 h hf;by_cases hb3 : b3 = 0
 · subst hb3;have HRa := Lib.hid (by have := HR3.out; rw [if_pos rfl] at this; exact this)
   clear HR3 hb01 HR;have hb := rlit_any x q3 w3 H3.out.r;obtain ⟨⟨v4, q4⟩, hq⟩ : ∃ z, literalQ x q3 = z := ⟨_, rfl⟩;have hR := HRa.out;rw [hq] at hb hR;simp only [] at hR;have HR4 := Lib.hid hR;have HB4 := Lib.hid hb;clear hb hq hR;obtain ⟨r0, d0, d1⟩ := H3.out.r.three;go_wp2_with fail;refine HB4.out.mono ?_;rintro e w4 ⟨rfl, h, hf⟩;simp only [] at h ⊢;have H4 := Lib.hid (H3.out.next h hf);clear r0 d0 d1  HB4 h hf
   obtain ⟨y0, y1, y2, y3⟩ := H4.out.y.four;have g0 := H4.out.y.frozen 0;have g1 := H4.out.y.frozen 1;have g2 := H4.out.y.frozen 2;have g3 := H4.out.y.frozen 3;go_wp2_with fail;exact sym_fin H4.out ⟨1, byteI v4, 0, 0⟩ HR4.out (byteI_toNat _)
 · have hb3' : (b3 == 0) = false := beq_eq_false_iff_ne.2 hb3;have HRa := Lib.hid (by have := HR3.out; rw [if_neg hb3] at this; exact this)
   clear HR3 hb3 hb01 HR;have hb := bit_any x q3 2 (by decide) n_ w3 H3.out.r
   obtain ⟨⟨b4, q4⟩, hq⟩ : ∃ z, bitQ x.rc.l q3 2 n_ = z := ⟨_, rfl⟩;have hR := HRa.out;rw [hq] at hb hR;simp only [] at hR;have HR4 := Lib.hid hR;have HB4 := Lib.hid hb;have hb01 : b4 = 0 ∨ b4 = 1 := by have := bitQ_bit x.rc.l q3 2 n_; rw [hq] at this; exact this
   clear hb hq hR;obtain ⟨r0, d0, d1⟩ := H3.out.r.three;have t0 : w3.cell? ⟨x.tb.tb, 10, none⟩ = some (.pointer (some ⟨x.tb.sb 2, 0, none⟩)) := H3.out.r.t.b.cell 10;go_wp2_with fail;refine HB4.out.mono ?_;rintro e w4 ⟨rfl, h, hf⟩;simp only [] at h ⊢;have H4 := Lib.hid (H3.out.next h hf);clear r0 d0 d1 t0 HB4 h hf;by_cases hb4 : b4 = 0
   · subst hb4;have HRb := Lib.hid (by have := HR4.out; rw [if_pos rfl] at this; exact this)
     clear HR4 hb01 HRa;have hb := rlength_any x q4 7 (by decide) w4 H4.out.r
     obtain ⟨⟨v5, q5⟩, hq⟩ : ∃ z, lengthQ x.rc.l q4 7 x.all.length = z := ⟨_, rfl⟩;have hR := HRb.out;rw [hq] at hb hR;simp only [] at hR;have HR5 := Lib.hid hR;have HB5 := Lib.hid hb;clear hb hq hR;obtain ⟨r0, d0, d1⟩ := H4.out.r.three;have t0 : w4.cell? ⟨x.tb.tb, 15, none⟩ = some (.pointer (some ⟨x.tb.sb 7, 0, none⟩)) := H4.out.r.t.b.cell 15;have t1 : w4.cell? ⟨x.tb.tb, 16, none⟩ = some (.pointer (some ⟨x.tb.sb 8, 0, none⟩)) := H4.out.r.t.b.cell 16
     have t2 : w4.cell? ⟨x.tb.tb, 17, none⟩ = some (.pointer (some ⟨x.tb.sb 9, 0, none⟩)) := H4.out.r.t.b.cell 17;have t3 : w4.cell? ⟨x.tb.tb, 18, none⟩ = some (.pointer (some ⟨x.tb.sb 10, 0, none⟩)) := H4.out.r.t.b.cell 18;go_wp2_with fail;refine HB5.out.mono ?_;rintro e w5 ⟨rfl, h, hf⟩;simp only [] at h ⊢;have H5 := Lib.hid (H4.out.next h hf);clear r0 d0 d1 t0 t1 t2 t3 HB5 h hf;have hb := rdist_any x q5 v5 w5 H5.out.r
     obtain ⟨⟨v6, q6⟩, hq⟩ : ∃ z, distQ x.rc.l q5 v5 = z := ⟨_, rfl⟩;have hR := HR5.out;rw [hq] at hb hR;simp only [] at hR;have HR6 := Lib.hid hR;have HB6 := Lib.hid hb;clear hb hq hR;obtain ⟨r0, d0, d1⟩ := H5.out.r.three;go_wp2_with fail;refine HB6.out.mono ?_;rintro e w6 ⟨rfl, h, hf⟩;simp only [] at h ⊢;have H6 := Lib.hid (H5.out.next h hf);clear r0 d0 d1  HB6 h hf;obtain ⟨y0, y1, y2, y3⟩ := H6.out.y.four
     have g0 := H6.out.y.frozen 0;have g1 := H6.out.y.frozen 1;have g2 := H6.out.y.frozen 2;have g3 := H6.out.y.frozen 3;go_wp2_with fail;exact sym_fin H6.out ⟨2, 0, v5, v6⟩ HR6.out
   · have hb4' : (b4 == 0) = false := beq_eq_false_iff_ne.2 hb4;have HRb := Lib.hid (by have := HR4.out; rw [if_neg hb4] at this; exact this)
     clear HR4 hb4 hb01 HRa;have hb := bit_any x q4 3 (by decide) n_ w4 H4.out.r
     obtain ⟨⟨b5, q5⟩, hq⟩ : ∃ z, bitQ x.rc.l q4 3 n_ = z := ⟨_, rfl⟩;have hR := HRb.out;rw [hq] at hb hR;simp only [] at hR;have HR5 := Lib.hid hR;have HB5 := Lib.hid hb;have hb01 : b5 = 0 ∨ b5 = 1 := by have := bitQ_bit x.rc.l q4 3 n_; rw [hq] at this; exact this
     clear hb hq hR;obtain ⟨r0, d0, d1⟩ := H4.out.r.three;have t0 : w4.cell? ⟨x.tb.tb, 11, none⟩ = some (.pointer (some ⟨x.tb.sb 3, 0, none⟩)) := H4.out.r.t.b.cell 11;go_wp2_with fail;refine HB5.out.mono ?_;rintro e w5 ⟨rfl, h, hf⟩;simp only [] at h ⊢;have H5 := Lib.hid (H4.out.next h hf);clear r0 d0 d1 t0 HB5 h hf;by_cases hb5 : b5 = 0
     · subst hb5;have HRc := Lib.hid (by have := HR5.out; rw [if_pos rfl] at this; exact this)
       clear HR5 hb01 HRb;have hb := bit_any x q5 1 (by decide) at_ w5 H5.out.r
       obtain ⟨⟨b6, q6⟩, hq⟩ : ∃ z, bitQ x.rc.l q5 1 at_ = z := ⟨_, rfl⟩;have hR := HRc.out;rw [hq] at hb hR;simp only [] at hR;have HR6 := Lib.hid hR;have HB6 := Lib.hid hb;have hb01 : b6 = 0 ∨ b6 = 1 := by have := bitQ_bit x.rc.l q5 1 at_; rw [hq] at this; exact this
       clear hb hq hR;obtain ⟨r0, d0, d1⟩ := H5.out.r.three;have t0 : w5.cell? ⟨x.tb.tb, 9, none⟩ = some (.pointer (some ⟨x.tb.sb 1, 0, none⟩)) := H5.out.r.t.b.cell 9;go_wp2_with fail;refine HB6.out.mono ?_;rintro e w6 ⟨rfl, h, hf⟩;simp only [] at h ⊢;have H6 := Lib.hid (H5.out.next h hf);clear r0 d0 d1 t0 HB6 h hf;by_cases hb6 : b6 = 0
       · subst hb6;have HRd := Lib.hid (by have := HR6.out; rw [if_pos rfl] at this; exact this)
         clear HR6 hb01 HRc;obtain ⟨y0, y1, y2, y3⟩ := H6.out.y.four;have g0 := H6.out.y.frozen 0;have g1 := H6.out.y.frozen 1;have g2 := H6.out.y.frozen 2;have g3 := H6.out.y.frozen 3;go_wp2_with fail;exact sym_fin H6.out ⟨4, 0, 0, 0⟩ HRd.out
       · have hb6' : (b6 == 0) = false := beq_eq_false_iff_ne.2 hb6;have HRd := Lib.hid (by have := HR6.out; rw [if_neg hb6] at this; exact this)
         clear HR6 hb6 hb01 HRc;have hb := rlength_any x q6 11 (by decide) w6 H6.out.r
         obtain ⟨⟨v7, q7⟩, hq⟩ : ∃ z, lengthQ x.rc.l q6 11 x.all.length = z := ⟨_, rfl⟩;have hR := HRd.out;rw [hq] at hb hR;simp only [] at hR;have HR7 := Lib.hid hR;have HB7 := Lib.hid hb;clear hb hq hR;obtain ⟨r0, d0, d1⟩ := H6.out.r.three;have t0 : w6.cell? ⟨x.tb.tb, 19, none⟩ = some (.pointer (some ⟨x.tb.sb 11, 0, none⟩)) := H6.out.r.t.b.cell 19;have t1 : w6.cell? ⟨x.tb.tb, 20, none⟩ = some (.pointer (some ⟨x.tb.sb 12, 0, none⟩)) := H6.out.r.t.b.cell 20
         have t2 : w6.cell? ⟨x.tb.tb, 21, none⟩ = some (.pointer (some ⟨x.tb.sb 13, 0, none⟩)) := H6.out.r.t.b.cell 21;have t3 : w6.cell? ⟨x.tb.tb, 22, none⟩ = some (.pointer (some ⟨x.tb.sb 14, 0, none⟩)) := H6.out.r.t.b.cell 22;go_wp2_with fail;refine HB7.out.mono ?_;rintro e w7 ⟨rfl, h, hf⟩;simp only [] at h ⊢;have H7 := Lib.hid (H6.out.next h hf);clear r0 d0 d1 t0 t1 t2 t3 HB7 h hf;obtain ⟨y0, y1, y2, y3⟩ := H7.out.y.four
         have g0 := H7.out.y.frozen 0;have g1 := H7.out.y.frozen 1;have g2 := H7.out.y.frozen 2;have g3 := H7.out.y.frozen 3;go_wp2_with fail;exact sym_fin H7.out ⟨3, 0, v7, 0⟩ HR7.out
     · have hb5' : (b5 == 0) = false := beq_eq_false_iff_ne.2 hb5;have HRc := Lib.hid (by have := HR5.out; rw [if_neg hb5] at this; exact this)
       clear HR5 hb5 hb01 HRb;have hb := bit_any x q5 4 (by decide) n_ w5 H5.out.r
       obtain ⟨⟨b6, q6⟩, hq⟩ : ∃ z, bitQ x.rc.l q5 4 n_ = z := ⟨_, rfl⟩;have hR := HRc.out;rw [hq] at hb hR;simp only [] at hR;have HR6 := Lib.hid hR;have HB6 := Lib.hid hb;have hb01 : b6 = 0 ∨ b6 = 1 := by have := bitQ_bit x.rc.l q5 4 n_; rw [hq] at this; exact this
       clear hb hq hR;obtain ⟨r0, d0, d1⟩ := H5.out.r.three;have t0 : w5.cell? ⟨x.tb.tb, 12, none⟩ = some (.pointer (some ⟨x.tb.sb 4, 0, none⟩)) := H5.out.r.t.b.cell 12;go_wp2_with fail;refine HB6.out.mono ?_;rintro e w6 ⟨rfl, h, hf⟩;simp only [] at h ⊢;have H6 := Lib.hid (H5.out.next h hf);clear r0 d0 d1 t0 HB6 h hf;by_cases hb6 : b6 = 1
       · subst hb6;have HRd := Lib.hid (by have := HR6.out; rw [if_pos rfl] at this; exact this)
         clear HR6 hb01 HRc;have hb := bit_any x q6 5 (by decide) n_ w6 H6.out.r
         obtain ⟨⟨b7, q7⟩, hq⟩ : ∃ z, bitQ x.rc.l q6 5 n_ = z := ⟨_, rfl⟩;have hR := HRd.out;rw [hq] at hb hR;simp only [] at hR;have HR7 := Lib.hid hR;have HB7 := Lib.hid hb;have hb01 : b7 = 0 ∨ b7 = 1 := by have := bitQ_bit x.rc.l q6 5 n_; rw [hq] at this; exact this
         clear hb hq hR;obtain ⟨r0, d0, d1⟩ := H6.out.r.three;have t0 : w6.cell? ⟨x.tb.tb, 13, none⟩ = some (.pointer (some ⟨x.tb.sb 5, 0, none⟩)) := H6.out.r.t.b.cell 13;go_wp2_with fail;refine HB7.out.mono ?_;rintro e w7 ⟨rfl, h, hf⟩;simp only [] at h ⊢;have H7 := Lib.hid (H6.out.next h hf);clear r0 d0 d1 t0 HB7 h hf;have hb70 : 0 ≤ b7 := by omega
         have hb71 : b7 ≤ 1 := by omega
         clear hb01;have hb := rlength_any x q7 11 (by decide) w7 H7.out.r
         obtain ⟨⟨v8, q8⟩, hq⟩ : ∃ z, lengthQ x.rc.l q7 11 x.all.length = z := ⟨_, rfl⟩;have hR := HR7.out;rw [hq] at hb hR;simp only [] at hR;have HR8 := Lib.hid hR;have HB8 := Lib.hid hb;clear hb hq hR;obtain ⟨r0, d0, d1⟩ := H7.out.r.three;have t0 : w7.cell? ⟨x.tb.tb, 19, none⟩ = some (.pointer (some ⟨x.tb.sb 11, 0, none⟩)) := H7.out.r.t.b.cell 19;have t1 : w7.cell? ⟨x.tb.tb, 20, none⟩ = some (.pointer (some ⟨x.tb.sb 12, 0, none⟩)) := H7.out.r.t.b.cell 20
         have t2 : w7.cell? ⟨x.tb.tb, 21, none⟩ = some (.pointer (some ⟨x.tb.sb 13, 0, none⟩)) := H7.out.r.t.b.cell 21;have t3 : w7.cell? ⟨x.tb.tb, 22, none⟩ = some (.pointer (some ⟨x.tb.sb 14, 0, none⟩)) := H7.out.r.t.b.cell 22;go_wp2_with fail;refine HB8.out.mono ?_;rintro e w8 ⟨rfl, h, hf⟩;simp only [] at h ⊢;have H8 := Lib.hid (H7.out.next h hf);clear r0 d0 d1 t0 t1 t2 t3 HB8 h hf;obtain ⟨y0, y1, y2, y3⟩ := H8.out.y.four
         have g0 := H8.out.y.frozen 0;have g1 := H8.out.y.frozen 1;have g2 := H8.out.y.frozen 2;have g3 := H8.out.y.frozen 3;go_wp2_with fail;exact sym_fin H8.out ⟨3, 0, v8, 2 + b7⟩ HR8.out
       · have hb6' : (b6 == 1) = false := beq_eq_false_iff_ne.2 hb6;have HRd := Lib.hid (by have := HR6.out; rw [if_neg hb6] at this; exact this)
         clear HR6 hb6 hb01 HRc;have hb := rlength_any x q6 11 (by decide) w6 H6.out.r
         obtain ⟨⟨v7, q7⟩, hq⟩ : ∃ z, lengthQ x.rc.l q6 11 x.all.length = z := ⟨_, rfl⟩;have hR := HRd.out;rw [hq] at hb hR;simp only [] at hR;have HR7 := Lib.hid hR;have HB7 := Lib.hid hb;clear hb hq hR;obtain ⟨r0, d0, d1⟩ := H6.out.r.three;have t0 : w6.cell? ⟨x.tb.tb, 19, none⟩ = some (.pointer (some ⟨x.tb.sb 11, 0, none⟩)) := H6.out.r.t.b.cell 19;have t1 : w6.cell? ⟨x.tb.tb, 20, none⟩ = some (.pointer (some ⟨x.tb.sb 12, 0, none⟩)) := H6.out.r.t.b.cell 20
         have t2 : w6.cell? ⟨x.tb.tb, 21, none⟩ = some (.pointer (some ⟨x.tb.sb 13, 0, none⟩)) := H6.out.r.t.b.cell 21;have t3 : w6.cell? ⟨x.tb.tb, 22, none⟩ = some (.pointer (some ⟨x.tb.sb 14, 0, none⟩)) := H6.out.r.t.b.cell 22;go_wp2_with fail;refine HB7.out.mono ?_;rintro e w7 ⟨rfl, h, hf⟩;simp only [] at h ⊢;have H7 := Lib.hid (H6.out.next h hf);clear r0 d0 d1 t0 t1 t2 t3 HB7 h hf;obtain ⟨y0, y1, y2, y3⟩ := H7.out.y.four
         have g0 := H7.out.y.frozen 0;have g1 := H7.out.y.frozen 1;have g2 := H7.out.y.frozen 2;have g3 := H7.out.y.frozen 3;go_wp2_with fail;exact sym_fin H7.out ⟨3, 0, v7, 1⟩ HR7.out
end Go.Proofs.YtcjehjdehdoaeaaGreatDoor
namespace Go.Proofs.YtcjehjdehdoaeaaGreatDoor
open Go.RowKit
def szF (y : Sy) : Int := if nextE St.start y = 0 then (if y.k = 2 ∨ y.k = 3 then y.l else 1) else 0
theorem YSize_any (k l x : Int) (z : UInt8) (w : World) (hl : Laid w) :
 Calls Tryz.prog 209 #[.agg #[.int .i64 k, .int .u8 (z.toNat : Int), .int .i64 l, .int .i64 x]] w fun e w' => e = .returned (.int .i64 (szF ⟨k, z, l, x⟩)) ∧ Below w.heap.size w w' := by
 have hn := Next_p St.start ⟨k, z, l, x⟩;obtain ⟨f, hf⟩ : ∃ f, nextE St.start ⟨k, z, l, x⟩ = f := ⟨_, rfl⟩;obtain ⟨r, hr⟩ : ∃ r, szF ⟨k, z, l, x⟩ = r := ⟨_, rfl⟩;have hr' : r = if f = 0 then (if k = 2 ∨ k = 3 then l else 1) else 0 := by rw [← hr, ← hf]; rfl
 rw [hf] at hn;rw [hr];obtain ⟨t, ht⟩ : ∃ t, nextS St.start ⟨k, z, l, x⟩ = t := ⟨_, rfl⟩;rw [ht] at hn;clear hf hr ht;obtain ⟨n', a', b', c', d'⟩ := t;unfold St.v Sy.v Sy.cs at hn;unfold St.start at hn;simp only [] at hn;obtain ⟨wb, hwb⟩ : ∃ wb, w.alloc (.cells #[.int .i64 k, .int .u8 (z.toNat : Int), .int .i64 l, .int .i64 x] 232) = wb := ⟨_, rfl⟩;have hY : Blk wb w.heap.size 232 #[.int .i64 k, .int .u8 (z.toNat : Int), .int .i64 l, .int .i64 x] := by rw [← hwb]; exact Blk.new _ _ _
 have hB : Below w.heap.size w wb := by rw [← hwb]; exact (Below.refl _ _).alloc (Nat.le_refl _) _
 obtain ⟨Y, hYY⟩ : ∃ Y, w.heap.size = Y := ⟨_, rfl⟩;rw [hYY] at hY;have Hn := Lib.hid hn;have Hr := Lib.hid hr';have HB := Lib.hid hB;have HL := Lib.hid (hl.below hB);clear hn hr' hB hl;go_enter Tryz.func209, Tryz.ntmps209;go_wp2_with fail;clear hwb hYY;have ylt := hY.lt;go_cut [4] (fun s4 wx => s4 = .int .i64 f ∧ Hid (Below wb.heap.size wb wx))
 case first =>
  obtain ⟨y0, y1, y2, y3⟩ : wb.cell? ⟨Y, 0, none⟩ = some (.int .i64 k) ∧ wb.cell? ⟨Y, 1, none⟩ = some (.int .u8 (z.toNat : Int)) ∧ wb.cell? ⟨Y, 2, none⟩ = some (.int .i64 l) ∧ wb.cell? ⟨Y, 3, none⟩ = some (.int .i64 x) := hY.four;have Hq : Hid (∀ w' : World, Below wb.heap.size wb w' → w'.cell? ⟨Y, 0, none⟩ = some (.int .i64 k) ∧ w'.cell? ⟨Y, 1, none⟩ = some (.int .u8 (z.toNat : Int)) ∧ w'.cell? ⟨Y, 2, none⟩ = some (.int .i64 l) ∧ w'.cell? ⟨Y, 3, none⟩ = some (.int .i64 x)) := fun w' hb => (hY.below hb).four
  clear hY;have ny : ¬ Y = wb.heap.size := by omega
  go_region_held3 (fun w' => w'.cell? ⟨Y, 0, none⟩ = some (.int .i64 k) ∧ w'.cell? ⟨Y, 1, none⟩ = some (.int .u8 (z.toNat : Int)) ∧ w'.cell? ⟨Y, 2, none⟩ = some (.int .i64 l) ∧ w'.cell? ⟨Y, 3, none⟩ = some (.int .i64 x))
   (first | (with_reducible exact ⟨y0, y1, y2, y3⟩) | (with_reducible exact ⟨p0, p1, p2, p3⟩) | (with_reducible exact ⟨q0, q1, q2, q3⟩) | go_keep | (with_reducible exact ⟨(keep5 ny).trans q0, (keep5 ny).trans q1, (keep5 ny).trans q2, (keep5 ny).trans q3⟩) | (with_reducible exact ⟨(keep5 ny1).trans q0, (keep5 ny1).trans q1, (keep5 ny1).trans q2, (keep5 ny1).trans q3⟩))
   (first | (go_at_call 80; refine (New_any _).mono ?_; rintro en w1 ⟨rfl, hbel⟩; have hbw : Below wb.heap.size wb w1 := (by first | (with_reducible exact bd1 hbel) | (with_reducible exact bd2 hbel)); obtain ⟨p0, p1, p2, p3⟩ := Hq.out w1 hbw; have ny1 : ¬ Y = w1.heap.size := (by have := hbw.size; omega); (try (have hz : Blk w1 wb.heap.size 157 #[.int .i64 0, .int .i64 0, .int .i64 0, .int .i64 0, .int .i64 0] := by with_reducible exact (Blk.new wb 157 #[.int .i64 0, .int .i64 0, .int .i64 0, .int .i64 0, .int .i64 0]).drew.below hbel)); unfold stV stC) | (go_at_call 128; refine (Hn.out _ (HL.out.below (by first | (with_reducible exact hbw) | (with_reducible exact bmk hbw _)))).mono ?_; rintro en w2 ⟨rfl, hbel2⟩; have hbw2 : Below wb.heap.size wb w2 := (by first | (with_reducible exact bup hbw hbel2) | (with_reducible exact bup (bmk hbw _) hbel2)); obtain ⟨q0, q1, q2, q3⟩ := Hq.out w2 hbw2; (first | ((have hz2 : Blk w2 wb.heap.size 157 #[.int .i64 0, .int .i64 0, .int .i64 0, .int .i64 0, .int .i64 0] := by with_reducible exact hz.below hbel2); (obtain ⟨⟨z0, z1, z2, z3, z4⟩, ⟨f0, f1, f2, f3, f4⟩⟩ := st_five hz2)) | ((have hz2 : Blk w2 w1.heap.size 157 #[.int .i64 0, .int .i64 0, .int .i64 0, .int .i64 0, .int .i64 0] := by with_reducible exact (Blk.new w1 157 #[.int .i64 0, .int .i64 0, .int .i64 0, .int .i64 0, .int .i64 0]).below hbel2); (obtain ⟨⟨z0, z1, z2, z3, z4⟩, ⟨f0, f1, f2, f3, f4⟩⟩ := st_five hz2)) | skip)))
  all_goals go_wp2_with fail
  all_goals go_meet
  · exact ⟨rfl, bmk hbw2 _⟩
  · exact ⟨rfl, below5 hbw2 hbw.size _ _ _ _ _⟩
  · exact ⟨rfl, below5 hbw2 (Nat.le_refl _) _ _ _ _ _⟩
 case rest =>
  obtain ⟨rfl, hb⟩ := hcut;obtain ⟨wa, rfl⟩ : ∃ wa : World, wa = wc := ⟨_, rfl⟩;obtain ⟨y0, y1, y2, y3⟩ : wa.cell? ⟨Y, 0, none⟩ = some (.int .i64 k) ∧ wa.cell? ⟨Y, 1, none⟩ = some (.int .u8 (z.toNat : Int)) ∧ wa.cell? ⟨Y, 2, none⟩ = some (.int .i64 l) ∧ wa.cell? ⟨Y, 3, none⟩ = some (.int .i64 x) := (hY.below hb.out).four;clear hY ylt HL Hn;have HBa : Hid (Below w.heap.size w wa) := bup HB.out hb.out
  clear HB hb;by_cases hf0 : f = 0
  · subst hf0;have Hr0 : Hid (r = if k = 2 ∨ k = 3 then l else 1) := by have := Hr.out; rw [if_pos rfl] at this; exact this
    clear Hr;by_cases k2 : k = 2
    · have Hr1 : Hid (r = l) := by have := Hr0.out; rw [if_pos (.inl k2)] at this; exact this
      subst k2;go_wp2_with fail;go_ret;exact ⟨by rw [Hr1.out]; rfl, HBa.out⟩
    · by_cases k3 : k = 3
      · have Hr1 : Hid (r = l) := by have := Hr0.out; rw [if_pos (.inr k3)] at this; exact this
        subst k3;go_wp2_with fail;go_ret;exact ⟨by rw [Hr1.out]; rfl, HBa.out⟩
      · have Hr1 : Hid (r = 1) := by have := Hr0.out; rw [if_neg (by omega)] at this; exact this
        have k2' : (k == 2) = false := beq_eq_false_iff_ne.2 k2;have k3' : (k == 3) = false := beq_eq_false_iff_ne.2 k3;go_wp2_with fail;go_ret;exact ⟨by rw [Hr1.out]; rfl, HBa.out⟩
  · have hf1 : (f == 0) = false := beq_eq_false_iff_ne.2 hf0;have hf2 : (f != 0) = true := bne_iff_ne.2 hf0;have Hr0 : Hid (r = 0) := by have := Hr.out; rw [if_neg hf0] at this; exact this
    clear hf0 Hr;go_wp2_with fail;go_ret;exact ⟨by rw [Hr0.out]; rfl, HBa.out⟩
theorem Laid.low {w w' : World} {B : Nat} (h : Laid w) (hb : Below B w w') (hB : 16 < B) : Laid w' := by
 refine ⟨Nat.le_trans h.1 hb.size, fun i hi => ?_⟩
 obtain ⟨h1, h2, h3, h4⟩ := h.2 i hi;exact ⟨(hb.cell (p := ⟨13, i, none⟩) (by show 13 < B; omega)).trans h1, (hb.cell (p := ⟨14, i, none⟩) (by show 14 < B; omega)).trans h2, (hb.cell (p := ⟨15, i, none⟩) (by show 15 < B; omega)).trans h3, (hb.cell (p := ⟨16, i, none⟩) hB).trans h4⟩
structure Lz (x : RsX) (t : Tb) (w : World) : Prop where
 d : Blk w x.d 348 #[ptrV x.tb.tb, ptrV x.wb, .bool false]
 t : TbIn x.B x.tb t w
 v : win.Win w x.B x.wb x.r x.size x.all
 o : x.B ≤ x.d
def RsX.read (x : RsX) (rd : Nat) (rc : RcX) : RsX := ⟨rd, x.d, x.tb, x.wb, x.B, x.r, x.size, x.all, rc⟩
theorem Lz.below {x : RsX} {t : Tb} {w w' : World} (h : Lz x t w) (hb : Below w.heap.size w w') : Lz x t w' := ⟨h.d.below hb, h.t.below hb, h.v.below hb, h.o⟩
def NrPost (x : RsX) (t : Tb) (l : List UInt8) (w : World) (e : Ending) (w' : World) : Prop :=
 Below w.heap.size w w' ∧ ((rcNewE l ≠ 0 ∧ e = .returned (.pointer none)) ∨
  (rcNewE l = 0 ∧ ∃ rd rc, e = .returned (.pointer (some ⟨rd, 0, none⟩)) ∧ rc.l = l ∧ rc.n = l.length ∧ Rs (x.read rd rc) ⟨false, rcS0 l, t⟩ w' ∧ w.heap.size ≤ rd ∧ w.heap.size ≤ rc.db ∧ (0 < l.length → ∀ ad, rc.A = some ad → w.heap.size ≤ ad.block)))
theorem reader_any (x : RsX) (t : Tb) (A : Option Addr) (n c : Nat) (l : List UInt8) (w : World) (h : Lz x t w) (hI : In w A n l) (hc : n ≤ c) :
 Calls Tryz.prog 207 #[.pointer (some ⟨x.d, 0, none⟩), .slice A n c] w (NrPost x t l w) := by
 have HN := Lib.hid (rcNew_any A n c l w hI hc);have H := Lib.hid h;clear h hI;go_enter Tryz.func207, Tryz.ntmps207;go_wp2_with fail;refine HN.out.mono ?_;rintro e w1 ⟨hb, ⟨he, rfl⟩ | ⟨he, db, A2, c2, rfl, hdb, hA2, hrc⟩⟩
 · have HE := Lib.hid he;have hne : (rcNewE l == 0) = false := beq_eq_false_iff_ne.2 he;have HB := Lib.hid hb;clear hb he;obtain ⟨k, hk⟩ : ∃ k, rcNewE l = k := ⟨_, rfl⟩;rw [hk] at hne ⊢;have HK := Lib.hid hk;clear hk;go_wp2_with fail;go_ret;exact ⟨HB.out, .inl ⟨HE.out, rfl⟩⟩
 · have HE := Lib.hid he;have HB := Lib.hid hb;have HR := Lib.hid (And.intro hdb (And.intro hA2 hrc));clear hb he hdb hA2 hrc;go_wp2_with fail;go_ret;refine ⟨bmk_ HB.out _, .inr ⟨HE.out, w1.heap.size, rcX0 db A2 l.length c2 l, rfl, rfl, rfl, ?_, HB.out.size, HR.out.1, HR.out.2.1⟩⟩;have hb2 : Below w1.heap.size w1 (w1.alloc (.cells #[.pointer (some ⟨x.d, 0, none⟩), .pointer (some ⟨db, 0, none⟩), .bool false] 373)) := (Below.refl _ _).alloc (Nat.le_refl _) _
   have h2 := (H.out.below HB.out).below hb2;exact ⟨Blk.new w1 _ _, h2.d, h2.t, h2.v, HR.out.2.2.below hb2⟩
end Go.Proofs.YtcjehjdehdoaeaaGreatDoor
