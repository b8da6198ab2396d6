/-
  Laws on the way to the claim (OpV OpW OpX OqA OqB). Conditions: those that each theorem states.
-/
import Derived.Test.YtcjehjdehdoaeaaGreatDoorOm13
import Derived.Test.YtcjehjdehdoaeaaGreatDoorOm14
set_option linter.unusedVariables false
set_option linter.unusedSimpArgs false
set_option maxRecDepth 1000000
set_option maxHeartbeats 16000000
namespace Go.Proofs.YtcjehjdehdoaeaaGreatDoor
open Go.RowKit
def okP (lc lp pb : Int) : Prop := 0 ≤ lc ∧ 0 ≤ lp ∧ 0 ≤ pb ∧ pb ≤ 4 ∧ lc ≤ 4 ∧ lp ≤ 4 - lc
instance (lc lp pb : Int) : Decidable (okP lc lp pb) := by unfold okP; infer_instance
def byteOf (lc lp pb : Int) : Int := (pb * 5 + lp) * 9 + lc
theorem PropsByte_yes (lc lp pb : Int) (h : okP lc lp pb) (w : World) : Calls Tryz.prog 26 #[.agg #[.int .i64 lc, .int .i64 lp, .int .i64 pb]] w fun e w' => e = .returned (.tuple #[.int .i64 (byteOf lc lp pb), .int .i64 0]) ∧ Below w.heap.size w w' := by
 obtain ⟨h1, h2, h3, h4, h5, h6⟩ := h;have a1 : ¬ lc < 0 := by omega
 have a2 : ¬ lp < 0 := by omega
 have a3 : ¬ pb < 0 := by omega
 have a4 : ¬ (4 < pb) := by omega
 have a5 : ¬ (4 < lc) := by omega
 have a6 : ¬ (4 - lc < lp) := by omega
 go_enter Tryz.func26, Tryz.ntmps26
 go_wp2
 go_ret2
 exact ⟨rfl, (Below.refl _ _).alloc (Nat.le_refl _) _⟩
theorem PropsByte_no (lc lp pb : Int) (h : ¬ okP lc lp pb) (w : World) : Calls Tryz.prog 26 #[.agg #[.int .i64 lc, .int .i64 lp, .int .i64 pb]] w fun e w' => e = .returned (.tuple #[.int .i64 0, .int .i64 6]) ∧ Below w.heap.size w w' := by
 have : lc < 0 ∨ (¬ lc < 0 ∧ lp < 0) ∨ (¬ lc < 0 ∧ ¬ lp < 0 ∧ pb < 0) ∨ (¬ lc < 0 ∧ ¬ lp < 0 ∧ ¬ pb < 0 ∧ 4 < pb) ∨ (¬ lc < 0 ∧ ¬ lp < 0 ∧ ¬ pb < 0 ∧ ¬ 4 < pb ∧ 4 < lc) ∨ (¬ lc < 0 ∧ ¬ lp < 0 ∧ ¬ pb < 0 ∧ ¬ 4 < pb ∧ ¬ 4 < lc ∧ 4 - lc < lp) := by
  unfold okP at h; omega
 clear h;rcases this with h1 | ⟨h1, h2⟩ | ⟨h1, h2, h3⟩ | ⟨h1, h2, h3, h4⟩ | ⟨h1, h2, h3, h4, h5⟩ | ⟨h1, h2, h3, h4, h5, h6⟩
 all_goals
  go_enter Tryz.func26, Tryz.ntmps26
  go_wp2
  go_ret2
  exact ⟨rfl, (Below.refl _ _).alloc (Nat.le_refl _) _⟩
def okN (b : Nat) : Prop := b / 45 ≤ 4 ∧ b % 9 ≤ 4 ∧ b / 9 % 5 + b % 9 ≤ 4
instance (b : Nat) : Decidable (okN b) := by unfold okN; infer_instance
theorem okP_of {b : Nat} : okP ((b : Int) % 9) ((b : Int) / 9 % 5) ((b : Int) / 45) ↔ okN b := by unfold okP okN; omega
theorem ByteProps_ok (b : Nat) (h : b ≤ 255) (hok : okN b) (w : World) : Calls Tryz.prog 218 #[.int .i64 (b : Int)] w fun e w' => e = .returned (.tuple #[.agg #[.int .i64 ((b : Int) % 9), .int .i64 ((b : Int) / 9 % 5), .int .i64 ((b : Int) / 45)], .int .i64 0]) ∧ Below w.heap.size w w' := by
 have a1 : ¬ (b : Int) < 0 := by omega
 have a2 : ¬ (255 : Int) < b := by omega
 have hc := PropsByte_yes _ _ _ (okP_of.2 hok) ((w.alloc (.cells #[.int .i64 0, .int .i64 0, .int .i64 0] 24)).alloc (.cells #[.int .i64 ((b : Int) % 9), .int .i64 ((b : Int) / 9 % 5), .int .i64 ((b : Int) / 45)] 24));go_enter Tryz.func218, Tryz.ntmps218;go_wp2_with (go_at_call 26; refine hc.mono ?_; rintro e w1 ⟨rfl, hb1⟩; have hk := (Blk.new (w.alloc (.cells #[.int .i64 0, .int .i64 0, .int .i64 0] 24)) 24 #[.int .i64 ((b : Int) % 9), .int .i64 ((b : Int) / 9 % 5), .int .i64 ((b : Int) / 45)]).same (hb1.block _ (by simp)); have hr := ((Blk.new w 24 #[.int .i64 0, .int .i64 0, .int .i64 0]).alloc (.cells #[.int .i64 ((b : Int) % 9), .int .i64 ((b : Int) / 9 % 5), .int .i64 ((b : Int) / 45)] 24)).same (hb1.block _ (by simp <;> omega)); have c0 := hk.cell 0; have c1 := hk.cell 1; have c2 := hk.cell 2; have r0 := hr.cell 0; have r1 := hr.cell 1; have r2 := hr.cell 2; have f0 := hr.frozen 0; have f1 := hr.frozen 1; have f2 := hr.frozen 2; simp at c0 c1 c2 r0 r1 r2)
 have hB : Below w.heap.size w w1 := (((Below.refl _ _).alloc (Nat.le_refl _) _).alloc (by simp) _).trans (hb1.mono (by simp; omega))
 exact bodyPost_ret (v := .tuple #[.agg #[.int .i64 ((b : Int) % 9), .int .i64 ((b : Int) / 9 % 5), .int .i64 ((b : Int) / 45)], .int .i64 0]) (by simp [results, Tryz.results218, go_sem, *]) rfl ⟨rfl, ((hB.setCell (Nat.le_refl _) _).setCell (Nat.le_refl _) _).setCell (Nat.le_refl _) _⟩
theorem ByteProps_bad (b : Nat) (h : b ≤ 255) (hok : ¬ okN b) (w : World) : Calls Tryz.prog 218 #[.int .i64 (b : Int)] w fun e w' => e = .returned (.tuple #[.agg #[.int .i64 0, .int .i64 0, .int .i64 0], .int .i64 2]) ∧ Below w.heap.size w w' := by
 have a1 : ¬ (b : Int) < 0 := by omega
 have a2 : ¬ (255 : Int) < b := by omega
 have hc := PropsByte_no _ _ _ (fun hh => hok (okP_of.1 hh)) ((w.alloc (.cells #[.int .i64 0, .int .i64 0, .int .i64 0] 24)).alloc (.cells #[.int .i64 ((b : Int) % 9), .int .i64 ((b : Int) / 9 % 5), .int .i64 ((b : Int) / 45)] 24))
 go_enter Tryz.func218, Tryz.ntmps218;go_wp2_with (go_at_call 26; refine hc.mono ?_; rintro e w1 ⟨rfl, hb1⟩; have hr := ((Blk.new w 24 #[.int .i64 0, .int .i64 0, .int .i64 0]).alloc (.cells #[.int .i64 ((b : Int) % 9), .int .i64 ((b : Int) / 9 % 5), .int .i64 ((b : Int) / 45)] 24)).same (hb1.block _ (by simp <;> omega)); have r0 := hr.cell 0; have r1 := hr.cell 1; have r2 := hr.cell 2; have f0 := hr.frozen 0; have f1 := hr.frozen 1; have f2 := hr.frozen 2; simp at r0 r1 r2)
 have hB : Below w.heap.size w w1 := (((Below.refl _ _).alloc (Nat.le_refl _) _).alloc (by simp) _).trans (hb1.mono (by simp; omega))
 exact bodyPost_ret (v := .tuple #[.agg #[.int .i64 0, .int .i64 0, .int .i64 0], .int .i64 2]) (by simp [results, Tryz.results218, go_sem, *]) rfl ⟨rfl, by first | exact hB | exact ((hB.setCell (Nat.le_refl _) _).setCell (Nat.le_refl _) _).setCell (Nat.le_refl _) _⟩
def takeQ (t : Tb) (size : Nat) (old b : List UInt8) (n : Nat) : Option (Tb × List UInt8) :=
 match allQ t size old b n with
 | none => none
 | some (q, out) => if doneB b.length q.s then some (q.t, out) else none
def RsX.footD (x : RsX) (g : Nat) : Prop := g = x.d ∨ x.foot0 g
def TakePost (x : RsX) (R : Option (Tb × List UInt8)) (w : World) (e : Ending) (w' : World) : Prop :=
 Fr x.footD w w' ∧
 match R with
 | none => e = .returned (.tuple #[.slice none 0 0, .slice none 0 0, .int .i64 2])
 | some (t, out) => ∃ r O oc L ln lc, e = .returned (.tuple #[.slice L ln lc, .slice O out.length oc, .int .i64 0]) ∧ Lz (x.on r out) t w' ∧ w'.ownsRow w.heap.size 5 1 (.slice O out.length oc) out.length (bys out) ∧
  (∀ g, r = some g → (Value.slice O out.length oc).ownBlock ≠ some g) ∧ (∀ g, r = some g → x.r = some g ∨ w.heap.size ≤ g)
theorem Take_any (x : RsX) (t : Tb) (A : Option Addr) (m c : Nat) (b : List UInt8) (n : Nat) (w : World) (h : Lz x t w) (hI : In w A m b) (hc : m ≤ c) (hl : Laid w) (hB : 16 < x.B) (h1 : 1 ≤ n) (hn : n ≤ 2097152) (hall : x.all.length ≤ 4611686018420000000) (hxB : x.B ≤ w.heap.size) :
 Calls Tryz.prog 177 #[.pointer (some ⟨x.d, 0, none⟩), .slice A m c, .int .i64 n] w (TakePost x (takeQ t x.size x.all b n) w) := by
 have HA := Lib.hid (all_any x t A m c b n w h hI hc hl hB hn hall hxB);obtain ⟨R, hR⟩ : ∃ R, takeQ t x.size x.all b n = R := ⟨_, rfl⟩;rw [hR];unfold takeQ at hR;obtain ⟨R0, hR0⟩ : ∃ z, allQ t x.size x.all b n = z := ⟨_, rfl⟩;rw [hR0] at HA hR;have HR := Lib.hid hR;have d2 : w.cell? ⟨x.d, 2, none⟩ = some (.bool false) := h.d.cell 2;have hlo : ¬ (n : Int) < 1 := by omega
 have hhi : ¬ 2097152 < (n : Int) := by omega
 have HO := Lib.hid h.o;clear h hI hl hR hR0 hxB;go_enter Tryz.func177, Tryz.ntmps177;go_wp2_with fail;refine HA.out.mono ?_;rintro e w1 hp;cases R0 with
 | none =>
  have hr0 : R = none := HR.out.symm;subst hr0;obtain ⟨v1, v2, rfl, hd, hf⟩ := hp;have e2 : w1.cell? ⟨x.d, 2, none⟩ = some (.bool false) := hd.cell 2;have f2 := hd.frozen 2;have HF := Lib.hid hf;clear hd hf HA;go_wp2_with fail;exact bodyPost_ret (v := .tuple #[.slice none 0 0, .slice none 0 0, .int .i64 2]) (by simp [results, Tryz.results177, go_sem]) rfl ⟨(HF.out.mono (T := x.footD) fun _ _ h => .inr h).setCell (p := ⟨x.d, 2, none⟩) (.inl (.inl rfl)) _, rfl⟩
 | some qo =>
  obtain ⟨q, out⟩ := qo;obtain ⟨rd, rc, r, O, oc, L, ln, lc, hrl, hrn, rfl, hj⟩ := hp;have hR := HR.out;simp only [] at hR;obtain ⟨dn, hdn⟩ : ∃ z, doneB b.length q.s = z := ⟨_, rfl⟩;rw [hdn] at hR ⊢;have HJ := Lib.hid hj;clear hj hdn HR HA;cases dn
  · have hr0 : R = none := by rw [← hR]; rfl
    subst hr0;have e2 : w1.cell? ⟨x.d, 2, none⟩ = some (.bool false) := HJ.out.j.d.cell 2;have f2 : w1.frozen? ⟨x.d, 2, none⟩ = false := HJ.out.j.d.frozen 2;clear hR;go_wp2_with fail;exact bodyPost_ret (v := .tuple #[.slice none 0 0, .slice none 0 0, .int .i64 2]) (by simp [results, Tryz.results177, go_sem]) rfl ⟨(HJ.out.f.mono (T := x.footD) fun _ _ h => .inr h).setCell (p := ⟨x.d, 2, none⟩) (.inl (.inl rfl)) _, rfl⟩
  · have hr0 : R = some (q.t, out) := by rw [← hR]; rfl
    subst hr0;clear hR;obtain ⟨ol, hol⟩ : ∃ z, out.length = z := ⟨_, rfl⟩;rw [hol];have HOL := Lib.hid hol;clear hol;go_wp2_with fail;refine bodyPost_ret (v := .tuple #[.slice L ln lc, .slice O ol oc, .int .i64 0]) (by simp [results, Tryz.results177, go_sem]) rfl ⟨HJ.out.f.mono (T := x.footD) fun _ _ h => .inr h, ?_⟩
    refine ⟨r, O, oc, L, ln, lc, by rw [HOL.out], ⟨HJ.out.j.d, HJ.out.j.t, HJ.out.j.v, HO.out⟩, HJ.out.o, HJ.out.ro, HJ.out.rn⟩
theorem Raw_any (x : RsX) (t : Tb) (A : Option Addr) (m c : Nat) (ys : List UInt8) (w : World) (h : Lz x t w) (hI : In w A m ys) (hc : m ≤ c) (hA : ∀ ad, A = some ad → ad.block < w.heap.size ∧ ad.block ≠ x.wb ∧ x.r ≠ some ad.block) (hall : x.all.length + m < 4611686018427387904) :
 Calls Tryz.prog 176 #[.pointer (some ⟨x.d, 0, none⟩), .slice A m c] w fun e w' => e = .returned (.tuple #[]) ∧ ∃ r, Lz (x.on r ys) t w' ∧ Fr (fun k => k = x.wb ∨ some k = x.r) w w' ∧ (∀ g, r = some g → x.r = some g ∨ w.heap.size ≤ g) := by
 have d1 : w.cell? ⟨x.d, 1, none⟩ = some (.pointer (some ⟨x.wb, 0, none⟩)) := h.d.cell 1;have HP := Lib.hid (win.Put_any x.B x.wb x.size x.r x.all A m c ys w h.v ⟨hI.1, hc, hA⟩ hall);have H := Lib.hid h;clear h hI hA;go_enter Tryz.func176, Tryz.ntmps176;go_wp2_with fail;refine HP.out.mono ?_;rintro e w1 ⟨rfl, r, hv, hf, hr⟩;have hne : ∀ {g : Nat} {t : TypeId}, BT w g t → t ≠ 247 → t ≠ 5 → ¬ (g = x.wb ∨ some g = x.r) := fun hg h1 h2 e => by
  rcases e with e | e
  · exact BT.ne hg H.out.v.bt.1 h1 e
  · exact BT.ne hg (H.out.v.bt.2 _ e.symm) h2 rfl
 have HL : Hid (Lz (x.on r ys) t w1) := ⟨H.out.d.fr hf (hne ⟨_, H.out.d⟩ (by decide) (by decide)), H.out.t.fr hf (hne ⟨_, H.out.t.b⟩ (by decide) (by decide)) (fun g hg => hne hg (by decide) (by decide)) (fun g hg => hne hg (by decide) (by decide)), hv, H.out.o⟩
 have HF := Lib.hid (And.intro hf hr);clear hv hf hr hne HP;go_wp2_with fail
 first | go_end0 | refine bodyPost_ret (results_none rfl _ _ _) rfl ?_
 exact ⟨rfl, r, HL.out, HF.out.1, HF.out.2⟩
theorem TbIn.mono {B C : Nat} {x : TbX} {t : Tb} {w : World} (h : TbIn B x t w) (hC : C ≤ B) : TbIn C x t w :=
 ⟨h.b, ⟨h.s.1, fun j hj => ⟨(h.s.2 j hj).1, Nat.le_trans hC (h.s.2 j hj).2.1, Nat.le_trans hC (h.s.2 j hj).2.2.1, (h.s.2 j hj).2.2.2⟩⟩, h.n, h.p, Nat.le_trans hC h.o⟩
def RsX.tabs (x : RsX) (tb : TbX) : RsX := ⟨x.rd, x.d, tb, x.wb, x.B, x.r, x.size, x.all, x.rc⟩
theorem DReset_any (x : RsX) (t : Tb) (lc lp pb : Nat) (w : World) (h : Lz x t w) (h1 : lc + lp ≤ 4) (h2 : pb ≤ 4) (hxB : x.B ≤ w.heap.size) :
 Calls Tryz.prog 175 #[.pointer (some ⟨x.d, 0, none⟩), .agg #[.int .i64 lc, .int .i64 lp, .int .i64 pb]] w fun e w' => e = .returned (.int .i64 0) ∧ ∃ tb, Lz (x.tabs tb) (Tb.new lc lp pb) w' ∧ Fr (fun k => k = x.d) w w' := by
 obtain ⟨L, hL⟩ : ∃ L, w.heap.size = L := ⟨_, rfl⟩;obtain ⟨w1, hw1⟩ : ∃ w1, w.alloc (.cells #[.int .i64 lc, .int .i64 lp, .int .i64 pb] 24) = w1 := ⟨_, rfl⟩;have hb : Below w.heap.size w w1 := by rw [← hw1]; exact (Below.refl _ _).alloc (Nat.le_refl _) _
 have hN : Blk w1 L 24 #[.int .i64 lc, .int .i64 lp, .int .i64 pb] := by rw [← hw1]; exact Blk.new_at hL.symm
 have H1 := Lib.hid (h.below hb);have HN := Lib.hid hN;have HB := Lib.hid hb;have hP := Lib.hid (fun w => PropsByte_yes lc lp pb (by unfold okP; omega) w)
 obtain ⟨n0, n1, n2⟩ := hN.three;have HXB := Lib.hid hxB;have H12 := Lib.hid (And.intro h1 h2);clear h hb hN hxB;go_enter Tryz.func175, Tryz.ntmps175;go_upto_region 1 with (fail);clear hw1 hL;go_wp2_with fail;refine (hP.out w1).mono ?_;rintro e w2 ⟨rfl, hb2⟩;have HB2 := Lib.hid hb2;obtain ⟨m0, m1, m2⟩ := (HN.out.below hb2).three;clear hb2 n0 n1 n2;go_wp2_with fail;refine (MNew_any lc lp pb w2 H12.out.1 H12.out.2).mono ?_
 rintro e w3 ⟨tb, rfl, ht, hb3⟩;have h3 := (H1.out.below HB2.out).below hb3;have HT := Lib.hid (ht.mono (C := x.B) (by have := HB.out.size; have := HB2.out.size; have := HXB.out; omega))
 have H3 := Lib.hid h3;have HB3 := Lib.hid (bup HB.out (bup HB2.out hb3));have c0 : w3.cell? ⟨x.d, 0, none⟩ = some (.pointer (some ⟨x.tb.tb, 0, none⟩)) := h3.d.cell 0;have f0 := h3.d.frozen 0;clear ht hb3 h3 m0 m1 m2;go_wp2_with fail;go_ret;have hf : Fr (fun k => k = x.d) w3 (w3.setCell ⟨x.d, 0, none⟩ (.pointer (some ⟨tb.tb, 0, none⟩))) := Fr.set1 (Fr.refl _ _) 0 _
 have hne : ∀ {g : Nat} {t : TypeId}, BT w3 g t → t ≠ 348 → ¬ g = x.d := fun hg h1 => BT.ne hg ⟨_, H3.out.d⟩ h1
 exact ⟨rfl, tb, ⟨H3.out.d.set_ 0 _, HT.out.fr hf (hne ⟨_, HT.out.b⟩ (by decide)) (fun g hg => hne hg (by decide)) (fun g hg => hne hg (by decide)), H3.out.v.fr hf (hne H3.out.v.bt.1 (by decide)) (fun g hg => hne (H3.out.v.bt.2 g hg) (by decide)), H3.out.o⟩, (Fr.of_below HB3.out).trans hf⟩
def RsX.clr (x : RsX) (tb : TbX) : RsX := ⟨x.rd, x.d, tb, x.wb, x.B, none, x.size, [], x.rc⟩
theorem DClear_any (x : RsX) (t : Tb) (w : World) (h : Lz x t w) (hxB : x.B ≤ w.heap.size) :
 Calls Tryz.prog 174 #[.pointer (some ⟨x.d, 0, none⟩)] w fun e w' => e = .returned (.tuple #[]) ∧ ∃ tb, Lz (x.clr tb) (Tb.new t.lc t.lp t.pb) w' ∧ Fr (fun k => k = x.d ∨ k = x.wb) w w' := by
 have d0 : w.cell? ⟨x.d, 0, none⟩ = some (.pointer (some ⟨x.tb.tb, 0, none⟩)) := h.d.cell 0;have t0 : w.cell? ⟨x.tb.tb, 0, none⟩ = some (.int .i64 t.lc) := h.t.b.cell 0;have t1 : w.cell? ⟨x.tb.tb, 1, none⟩ = some (.int .i64 t.lp) := h.t.b.cell 1;have t2 : w.cell? ⟨x.tb.tb, 2, none⟩ = some (.int .i64 t.pb) := h.t.b.cell 2;have HP := Lib.hid h.t.p;have H := Lib.hid h;have HXB := Lib.hid hxB;clear h hxB
 go_enter Tryz.func174, Tryz.ntmps174;go_wp2_with fail;refine (MNew_any t.lc t.lp t.pb w HP.out.1 HP.out.2).mono ?_;rintro e w3 ⟨tb, rfl, ht, hb3⟩;have h3 := H.out.below hb3;have HT := Lib.hid (ht.mono (C := x.B) HXB.out);have HB3 := Lib.hid hb3;have f0 := h3.d.frozen 0;have c0 : w3.cell? ⟨x.d, 0, none⟩ = some (.pointer (some ⟨x.tb.tb, 0, none⟩)) := h3.d.cell 0;have c1 : (w3.setCell ⟨x.d, 0, none⟩ (.pointer (some ⟨tb.tb, 0, none⟩))).cell? ⟨x.d, 1, none⟩ = some (.pointer (some ⟨x.wb, 0, none⟩)) := (h3.d.set_ 0 _).cell 1
 have H3 : Hid (Lz (x.tabs tb) (Tb.new t.lc t.lp t.pb) (w3.setCell ⟨x.d, 0, none⟩ (.pointer (some ⟨tb.tb, 0, none⟩)))) := by
  have hf : Fr (fun k => k = x.d) w3 (w3.setCell ⟨x.d, 0, none⟩ (.pointer (some ⟨tb.tb, 0, none⟩))) := Fr.set1 (Fr.refl _ _) 0 _
  have hne : ∀ {g : Nat} {t : TypeId}, BT w3 g t → t ≠ 348 → ¬ g = x.d := fun hg h1 => BT.ne hg ⟨_, h3.d⟩ h1
  exact ⟨h3.d.set_ 0 _, HT.out.fr hf (hne ⟨_, HT.out.b⟩ (by decide)) (fun g hg => hne hg (by decide)) (fun g hg => hne hg (by decide)), h3.v.fr hf (hne h3.v.bt.1 (by decide)) (fun g hg => hne (h3.v.bt.2 g hg) (by decide)), h3.o⟩
 have F3 : Hid (Fr (fun k => k = x.d) w (w3.setCell ⟨x.d, 0, none⟩ (.pointer (some ⟨tb.tb, 0, none⟩)))) := (Fr.of_below hb3).trans (Fr.set1 (Fr.refl _ _) 0 _)
 clear ht hb3 h3 d0 t0 t1 t2;go_wp2_with fail;refine (win.Clear_any x.B x.wb x.size x.r x.all _ H3.out.v).mono ?_;rintro e w4 ⟨rfl, hv4, hf4⟩;have hne : ∀ {g : Nat} {t : TypeId}, BT (w3.setCell ⟨x.d, 0, none⟩ (.pointer (some ⟨tb.tb, 0, none⟩))) g t → t ≠ 247 → ¬ g = x.wb := fun hg h1 => BT.ne hg H3.out.v.bt.1 h1
 have hd4 := H3.out.d.fr hf4 (hne ⟨_, H3.out.d⟩ (by decide))
 have H4 : Hid (Lz (x.clr tb) (Tb.new t.lc t.lp t.pb) w4) := ⟨hd4, H3.out.t.fr hf4 (hne ⟨_, H3.out.t.b⟩ (by decide)) (fun g hg => hne hg (by decide)) (fun g hg => hne hg (by decide)), hv4, H3.out.o⟩
 have F4 : Hid (Fr (fun k => k = x.d ∨ k = x.wb) w w4) := (F3.out.mono fun _ _ h => .inl h).trans' hf4 (fun _ _ h => .inr h)
 have e2 : w4.cell? ⟨x.d, 2, none⟩ = some (.bool false) := hd4.cell 2;have f2 : w4.frozen? ⟨x.d, 2, none⟩ = false := hd4.frozen 2;clear hne hd4 hv4 hf4 c0 c1 f0;go_wp2_with fail
 first | go_end0 | refine bodyPost_ret (results_none rfl _ _ _) rfl ?_
 have hf : Fr (fun k => k = x.d) w4 (w4.setCell ⟨x.d, 2, none⟩ (.bool false)) := Fr.set1 (Fr.refl _ _) 2 _
 have h4 := H4.out;have hne : ∀ {g : Nat} {t : TypeId}, BT w4 g t → t ≠ 348 → ¬ g = x.d := fun hg h1 => BT.ne hg ⟨_, h4.d⟩ h1
 exact ⟨rfl, tb, ⟨h4.d.set_ 2 _, h4.t.fr hf (hne ⟨_, h4.t.b⟩ (by decide)) (fun g hg => hne hg (by decide)) (fun g hg => hne hg (by decide)), h4.v.fr hf (hne h4.v.bt.1 (by decide)) (fun g hg => hne (h4.v.bt.2 g hg) (by decide)), h4.o⟩, F4.out.trans' hf (fun _ _ h => .inl h)⟩
theorem DNew_any (lc lp pb size : Nat) (w : World) (h1 : lc + lp ≤ 4) (h2 : pb ≤ 4) (h3 : 1 ≤ size) (h4 : size ≤ 4294967295) :
 Calls Tryz.prog 171 #[.agg #[.int .i64 lc, .int .i64 lp, .int .i64 pb], .int .i64 size] w fun e w' => ∃ x : RsX, e = .returned (.tuple #[.pointer (some ⟨x.d, 0, none⟩), .int .i64 0]) ∧ Lz x (Tb.new lc lp pb) w' ∧ Below w.heap.size w w' ∧ x.B = w.heap.size ∧ x.r = none ∧ x.size = size ∧ x.all = [] := by
 obtain ⟨L, hL⟩ : ∃ L, w.heap.size = L := ⟨_, rfl⟩;obtain ⟨w1, hw1⟩ : ∃ w1, w.alloc (.cells #[.int .i64 lc, .int .i64 lp, .int .i64 pb] 24) = w1 := ⟨_, rfl⟩;have hb : Below w.heap.size w w1 := by rw [← hw1]; exact (Below.refl _ _).alloc (Nat.le_refl _) _
 have hN : Blk w1 L 24 #[.int .i64 lc, .int .i64 lp, .int .i64 pb] := by rw [← hw1]; exact Blk.new_at hL.symm
 have HN := Lib.hid hN;have HB := Lib.hid hb;have hP := Lib.hid (fun w => PropsByte_yes lc lp pb (by unfold okP; omega) w)
 obtain ⟨n0, n1, n2⟩ := hN.three;have H12 := Lib.hid (And.intro h1 h2);clear hb hN;go_enter Tryz.func171, Tryz.ntmps171;go_upto_region 1 with (fail);clear hw1 hL;go_wp2_with fail;refine (hP.out w1).mono ?_;rintro e w2 ⟨rfl, hb2⟩;have HB2 := Lib.hid (bup HB.out hb2);have HN2 := Lib.hid (HN.out.below hb2);clear hb2 n0 n1 n2 HN;go_wp2_with fail;refine (win.New_yes size w2 h3 h4).mono ?_;rintro e w3 ⟨rfl, hv3, hb3, _⟩
 have HV3 := Lib.hid hv3;have HB3 := Lib.hid (bup HB2.out hb3);have HN3 := HN2.out.below hb3;obtain ⟨n0, n1, n2⟩ := HN3.three;clear hv3 hb3 HN3;go_wp2_with fail;refine (MNew_any lc lp pb w3 H12.out.1 H12.out.2).mono ?_;rintro e w4 ⟨tb, rfl, ht, hb4⟩;have HT := Lib.hid (ht.mono (C := w.heap.size) HB3.out.size);have HV4 := Lib.hid ((HV3.out.below hb4).mono (C := w.heap.size) HB2.out.size);have HB4 := Lib.hid (bup HB3.out hb4)
 clear ht hb4 n0 n1 n2;go_wp2_with fail
 go_ret2
 have hnb : Below w4.heap.size w4 (w4.alloc (.cells #[.pointer (some ⟨tb.tb, 0, none⟩), .pointer (some ⟨w2.heap.size, 0, none⟩), .bool false] 348)) := (Below.refl _ _).alloc (Nat.le_refl _) _;exact ⟨⟨0, w4.heap.size, tb, w2.heap.size, w.heap.size, none, size, [], ⟨0, none, 0, 0, []⟩⟩, rfl, ⟨Blk.new w4 _ _, HT.out.below hnb, HV4.out.below hnb, HB4.out.size⟩, bmk_ HB4.out _, rfl, rfl, rfl, rfl⟩
end Go.Proofs.YtcjehjdehdoaeaaGreatDoor
namespace Go.Proofs.YtcjehjdehdoaeaaGreatDoor
open Go.RowKit
theorem wpList_copy_all {ops : Array Oper} {rest : List Oper} {o : Oper} {a : Act} {Q : Exit → Act → World → Prop} {w : World} (hgd : o.guard = none) (s x : Operand)
 (ho : o.op = .call { callee := .builtin .copy, args := #[s, x], argTypes := #[22, 22] }) (B g n : Nat) (xs : List Value) (hs : a.eval s = .slice (some ⟨g, 0, none⟩) n n) (hown : w.ownsRow B 5 1 (.slice (some ⟨g, 0, none⟩) n n) n xs)
 (A : Option Addr) (c : Nat) (l : List UInt8) (hx : a.eval x = .slice A n c) (hr : In w A n l)
 (h : ∀ w', w'.ownsRow B 5 1 (.slice (some ⟨g, 0, none⟩) n n) n (bys l) → w.grownBy w' (some g) → wpList Tryz.prog ops Q rest (a.put o.dst (goInt n)) w') : wpList Tryz.prog ops Q (o :: rest) a w := by
 refine wpList_plain hgd fun K hK => ?_
 have hl := hr.len;have hxl : xs.length = n := by have := hown.1; omega
 obtain ⟨w', hrun, h2, h3⟩ := win.run_copy_rd (P := Tryz.prog) 22 o.type 5 Tryz.underlying22 (by kernel_rfl) B g 0 n n n n xs hown (by omega) A n c (bys l) hr.1 (bys_one _) n (by omega)
 have e : xs.take 0 ++ (bys l).take n ++ xs.drop (0 + n) = bys l := by
  rw [List.take_zero, List.nil_append, List.take_of_length_le (by rw [bys_length]; omega), List.drop_eq_nil_of_le (by omega), List.append_nil]
 rw [e] at h2;unfold Oper.wp execOp;simp only [ho, resolve, invoke, builtin, Sem.run_bind, Sem.run_pure, Result.andThen_ok, List.map_toArray, List.map_cons, List.map_nil, hs, hx, hrun];exact hK _ _ (h w' h2 h3)
structure Wr (b g i : Nat) (l : List UInt8) (w : World) : Prop where
 b : Blk w b 189 #[.int .i64 i, .slice (some ⟨g, 0, none⟩) l.length l.length]
 g : Blk w g 5 (bys l).toArray
 i : i ≤ l.length
 n : l.length ≤ 140737488351232
section
variable {b g i : Nat} {l : List UInt8} {w w' : World}
theorem Wr.below (h : Wr b g i l w) (hb : Below w.heap.size w w') : Wr b g i l w' := ⟨h.b.below hb, h.g.below hb, h.i, h.n⟩
theorem Wr.cell (h : Wr b g i l w) {j : Nat} {z : UInt8} (hz : l[j]? = some z) : w.cell? ⟨g, j, none⟩ = some (.int .u8 (z.toNat : Int)) := by
 rw [h.g.cell j];simp [bys, hz]
theorem Wr.to (h : Wr b g i l w) {k : Nat} (hk : k ≤ l.length) : Wr b g k l (w.setCell ⟨b, 0, none⟩ (.int .i64 k)) :=
 ⟨h.b.set_ 0 _, h.g.far (p := ⟨b, 0, none⟩) (BT.ne ⟨_, h.g⟩ ⟨_, h.b⟩ (by decide)) _, hk, h.n⟩
end
theorem made_zeros' (n : Nat) : (madeCells (Value.int .u8 0).cells (n * 1)).toList = bys (List.replicate n 0) := by
 apply List.ext_getElem
 · simp [madeCells, bys]
 · intro i h1 h2;simp [madeCells, bys, Value.cells, Nat.mod_one]
theorem NewReader_any (A : Option Addr) (n c : Nat) (l : List UInt8) (w : World) (hI : In w A n l) :
 Calls Tryz.prog 71 #[.slice A n c] w fun e w' => ∃ b g, e = .returned (.pointer (some ⟨b, 0, none⟩)) ∧ Wr b g 0 l w' ∧ Below w.heap.size w w' ∧ w.heap.size ≤ b ∧ w.heap.size ≤ g := by
 obtain ⟨i0, hi0, hz0, hz1, hz2⟩ := info_parts infou8;have hm := hI.2.2;have HI := Lib.hid hI;clear hI;go_enter Tryz.func71, Tryz.ntmps71;go_upto_region 2 with (at_make; refine wpList_make_full w rfl (.tmp 5) (.tmp 5) 22 rfl w.heap.size 5 i0 _ 1 Tryz.underlying22 hi0 hz0 hz1 .i64 .i64 n n n rfl rfl rfl rfl (by rw [hz2]; omega) (by unfold maxLen; omega) (Nat.le_refl _) ?_; intro w1 hown1 hg1)
 rw [made_zeros'] at hown1;have hb1 : Below w.heap.size w w1 := (Below.refl _ w).grown hg1 (Nat.le_refl _) (fun g hg => by cases hg)
 obtain ⟨R, hR⟩ : ∃ R, w.heap.size = R := ⟨_, rfl⟩;have HO := Lib.hid (show w1.ownsRow w.heap.size 5 1 (.slice (some ⟨R, 0, none⟩) n n) n (bys (List.replicate n 0)) by rw [← hR]; exact hown1)
 have HB := Lib.hid hb1;have HR := Lib.hid hR;rw [hR];clear hown1 hg1 hb1 hR;go_wp2_with (first | (with_reducible refine wpList_copy_all rfl _ _ rfl w.heap.size R n _ rfl HO.out A c l rfl (HI.out.below HB.out) ?_))
 intro w2 hown2 hg2;have hb2 : Below w.heap.size w w2 := HB.out.grown hg2 HB.out.size (fun g hg => by have := HR.out; injection hg with hg; omega)
 have HO2 := Lib.hid hown2;have HB2 := Lib.hid hb2;clear hown2 hg2 hb2;go_wp2_with fail;go_ret;have hl := HI.out.len;subst hl;have hnb : Below w2.heap.size w2 (w2.alloc (.cells #[.int .i64 0, .slice (some ⟨R, 0, none⟩) l.length l.length] 189)) := (Below.refl _ _).alloc (Nat.le_refl _) _;obtain ⟨hg, hRg⟩ := blk_of_own HO2.out;exact ⟨w2.heap.size, R, rfl, ⟨Blk.new w2 _ _, hg.alloc _, Nat.zero_le _, hm⟩, bmk_ HB2.out _, HB2.out.size, hRg⟩
theorem Left_any (b g i : Nat) (l : List UInt8) (w : World) (h : Wr b g i l w) :
 Calls Tryz.prog 92 #[.pointer (some ⟨b, 0, none⟩)] w fun e w' => e = .returned (.int .i64 ((l.length - i : Nat) : Int)) ∧ ∃ n, w' = w.drewN n := by
 obtain ⟨c0, c1⟩ := h.b.two;have hi := h.i;have hn := h.n;obtain ⟨m, hm⟩ : ∃ m, l.length = m := ⟨_, rfl⟩;rw [hm] at c1 hi hn ⊢;clear h hm;go_enter Tryz.func92, Tryz.ntmps92;go_wp2_with fail
 go_quiet (fail)
 go_wp2_with fail;go_ret;refine ⟨?_, _, rfl⟩;show Ending.returned (.int .i64 _) = _
 congr 2
 omega
theorem on_any (b g i k : Nat) (l : List UInt8) (w : World) (h : Wr b g i l w) (hk : i + k ≤ l.length) :
 Calls Tryz.prog 61 #[.pointer (some ⟨b, 0, none⟩), .int .i64 k] w fun e w' => e = .returned (.tuple #[]) ∧ Wr b g (i + k) l w' ∧ Fr (fun x => x = b) w w' := by
 obtain ⟨c0, c1⟩ := h.b.two;have f0 := h.b.frozen 0;have hn := h.n;have H := Lib.hid h;have HK := Lib.hid hk;have hb1 : i + k ≤ 140737488351232 := by omega
 clear h hk;go_enter Tryz.func61, Tryz.ntmps61;go_wp2_with fail
 first | go_end0 | refine bodyPost_ret (results_none rfl _ _ _) rfl ?_
 exact ⟨rfl, H.out.to HK.out, Fr.set1 (Fr.refl _ _) 0 _⟩
end Go.Proofs.YtcjehjdehdoaeaaGreatDoor
namespace Go.Proofs.YtcjehjdehdoaeaaGreatDoor
open Go.RowKit
theorem next_any (b g i k : Nat) (l : List UInt8) (w : World) (h : Wr b g i l w) (h1 : 1 ≤ k) (hk : i + k ≤ l.length) :
 Calls Tryz.prog 94 #[.pointer (some ⟨b, 0, none⟩), .int .i64 k] w fun e w' => e = .returned (.slice (some ⟨g, i, none⟩) k (l.length - i)) ∧ Wr b g (i + k) l w' ∧ Fr (fun x => x = b) w w' := by
 obtain ⟨c0, c1⟩ := h.b.two;have hn := h.n;have HO := Lib.hid (fun n => on_any b g i k l (w.drewN n) (h.below (below_drewN (Below.refl _ _) n)) hk)
 have H := Lib.hid h;obtain ⟨m, hm⟩ : ∃ m, l.length = m := ⟨_, rfl⟩;rw [hm] at c1 hk hn;have hlt : i < m := by omega
 have hne : ¬ (m : Int) = (i : Int) := by omega
 have hb0 : (0 : Int) ≤ (i : Int) := by omega
 have hb1 : (i : Int) ≤ (i : Int) + (k : Int) := by omega
 have hb2 : (i : Int) + (k : Int) ≤ (m : Int) := by omega
 have hw : IntKind.i64.wrap ((i : Int) + (k : Int)) = (i : Int) + (k : Int) := IntWalk.i64_in _ (by omega)
 have hik : i + k - i = k := by omega
 have HM := Lib.hid hm;clear h hm;go_enter Tryz.func94, Tryz.ntmps94;go_wp2_with fail
 go_quiet (fail)
 go_wp2_with fail;refine (HO.out nq).mono ?_;rintro e w1 ⟨rfl, h1, hf1⟩;have H1 := Lib.hid h1;have F1 := Lib.hid hf1;clear h1 hf1 c0 c1;go_wp2_with fail;go_ret;exact ⟨by rw [HM.out]; rfl, H1.out, ((Fr.refl _ _).drewN nq).trans F1.out⟩
def padI (n : Nat) : Nat := (4 - n % 4) % 4
theorem and3_neg (n : Nat) : bits .and .i64 (-(n : Int)) 3 = (padI n : Int) := by
 show IntKind.i64.wrap ((BitVec.ofInt 64 (-(n : Int)) &&& BitVec.ofInt 64 3).toNat : Int) = _;have h : (BitVec.ofInt 64 (-(n : Int)) &&& BitVec.ofInt 64 3).toNat = padI n := by
  rw [BitVec.toNat_and, show (BitVec.ofInt 64 3).toNat = 2 ^ 2 - 1 from rfl, Nat.and_two_pow_sub_one_eq_mod, BitVec.toNat_ofInt]
  unfold padI;omega
 rw [h];have : padI n ≤ 3 := by unfold padI; omega
 exact IntWalk.i64_in _ (by omega)
theorem padI_le (n : Nat) : padI n ≤ 3 := by unfold padI; omega
theorem Pad_any (n : Nat) (w : World) (h : n ≤ 4611686018427387904) : Calls Tryz.prog 34 #[.int .i64 n] w fun e w' => e = .returned (.int .i64 (padI n : Int)) ∧ w' = w := by
 have h0 : ¬ (n : Int) < 0 := by omega
 go_enter Tryz.func34, Tryz.ntmps34;go_wp2_with fail;go_ret;refine ⟨?_, rfl⟩;rw [← and3_neg n];rfl
theorem Off_any (b g i : Nat) (l : List UInt8) (w : World) (h : Wr b g i l w) : Calls Tryz.prog 217 #[.pointer (some ⟨b, 0, none⟩)] w fun e w' => e = .returned (.int .i64 i) ∧ w' = w := by
 obtain ⟨c0, c1⟩ := h.b.two;clear h;go_enter Tryz.func217, Tryz.ntmps217;go_wp2_with fail;go_ret;exact ⟨rfl, rfl⟩
theorem U8_yes (b g i : Nat) (l : List UInt8) (z : UInt8) (w : World) (h : Wr b g i l w) (hz : l[i]? = some z) :
 Calls Tryz.prog 215 #[.pointer (some ⟨b, 0, none⟩)] w fun e w' => e = .returned (.tuple #[.int .i64 (z.toNat : Int), .int .i64 0]) ∧ Wr b g (i + 1) l w' ∧ Fr (fun x => x = b) w w' := by
 have hlt : i < l.length := (List.getElem?_eq_some_iff.1 hz).1;have HL := Lib.hid (Left_any b g i l w h);have HN := Lib.hid (fun n => next_any b g i 1 l (w.drewN n) (h.below (below_drewN (Below.refl _ _) n)) (Nat.le_refl _) hlt)
 have HZ := Lib.hid hz;obtain ⟨q, hq⟩ : ∃ q, l.length - i = q := ⟨_, rfl⟩;have hq1 : 1 ≤ q := by omega
 rw [hq] at HL HN;have hzb : (z.toNat : Int) ≤ 255 := by have := z.toNat_lt; omega
 clear h hz hlt hq;go_enter Tryz.func215, Tryz.ntmps215;go_wp2_with fail;refine HL.out.mono ?_;rintro e w1 ⟨rfl, n, rfl⟩;go_wp2_with fail;refine (HN.out n).mono ?_;rintro e w2 ⟨rfl, h2, hf2⟩;have c := h2.cell HZ.out;have H2 := Lib.hid h2;have F2 := Lib.hid (((Fr.refl (fun x => x = b) w).drewN n).trans hf2)
 clear h2 hf2;go_wp2_with fail
 go_ret2
 exact ⟨rfl, H2.out, F2.out⟩
theorem U8_no (b g i : Nat) (l : List UInt8) (w : World) (h : Wr b g i l w) (hz : i = l.length) :
 Calls Tryz.prog 215 #[.pointer (some ⟨b, 0, none⟩)] w fun e w' => e = .returned (.tuple #[.int .i64 0, .int .i64 1]) ∧ ∃ n, w' = w.drewN n := by
 have HL := Lib.hid (Left_any b g i l w h);rw [show l.length - i = 0 by omega] at HL
 clear h hz;go_enter Tryz.func215, Tryz.ntmps215;go_wp2_with fail;refine HL.out.mono ?_;rintro e w1 ⟨rfl, n, rfl⟩;go_wp2_with fail
 go_ret2
 exact ⟨rfl, _, rfl⟩
theorem wide_any (n : Nat) (w : World) (h : 1 ≤ n ∧ n ≤ 8) : Calls Tryz.prog 63 #[.int .i64 n] w fun e w' => e = .returned (.bool true) ∧ w' = w := by
 have h1 : (1 : Int) ≤ (n : Int) := by omega
 have h2 : (n : Int) ≤ 8 := by omega
 clear h;go_enter Tryz.func63, Tryz.ntmps63;go_wp2_with fail;go_ret;exact ⟨rfl, rfl⟩
def numE (left n : Nat) : Int := if left < n then 1 else 0
theorem number_any (b g i n : Nat) (l : List UInt8) (w : World) (h : Wr b g i l w) (hn : 1 ≤ n ∧ n ≤ 8) :
 Calls Tryz.prog 93 #[.pointer (some ⟨b, 0, none⟩), .int .i64 n] w fun e w' => e = .returned (.int .i64 (numE (l.length - i) n)) ∧ ∃ n, w' = w.drewN n := by
 have HL := Lib.hid (Left_any b g i l w h);have HW := Lib.hid (wide_any n w hn);obtain ⟨q, hq⟩ : ∃ q, l.length - i = q := ⟨_, rfl⟩;rw [hq] at HL ⊢;unfold numE;clear h hq;by_cases hlt : q < n
 · rw [if_pos hlt];have hlt' : (q : Int) < (n : Int) := by omega
   go_enter Tryz.func93, Tryz.ntmps93;go_wp2_with fail;refine HW.out.mono ?_;rintro e w1 ⟨rfl, rfl⟩;go_wp2_with fail;refine HL.out.mono ?_;rintro e w1 ⟨rfl, k, rfl⟩;go_wp2_with fail;go_ret;exact ⟨rfl, _, rfl⟩
 · rw [if_neg hlt];have hlt' : ¬ (q : Int) < (n : Int) := by omega
   go_enter Tryz.func93, Tryz.ntmps93;go_wp2_with fail;refine HW.out.mono ?_;rintro e w1 ⟨rfl, rfl⟩;go_wp2_with fail;refine HL.out.mono ?_;rintro e w1 ⟨rfl, k, rfl⟩;go_wp2_with fail;go_ret;exact ⟨rfl, _, rfl⟩
end Go.Proofs.YtcjehjdehdoaeaaGreatDoor
