/-
  Laws on the way to the claim (OrY OrZ). Conditions: those that each theorem states.
-/
import Derived.Test.YtcjehjdehdoaeaaGreatDoorOm27
import Derived.Test.YtcjehjdehdoaeaaGreatDoorOm28
set_option linter.unusedVariables false
set_option linter.unusedSimpArgs false
set_option maxRecDepth 1000000
set_option maxHeartbeats 16000000
namespace Go.Proofs.YtcjehjdehdoaeaaGreatDoor
open Go.RowKit
structure Ou (B O : Nat) (Ao : Option Addr) (co : Nat) (out : List UInt8) (w : World) : Prop where
 b : Blk w O 22 #[.slice Ao out.length co]
 r : w.ownsRow B 5 1 (.slice Ao out.length co) out.length (bys out)
def OuPost (B O : Nat) (Ao : Option Addr) (co : Nat) (out ys : List UInt8) (w : World) (e : Ending) (w' : World) : Prop :=
 e = .returned (.tuple #[]) ∧ ∃ A' c', Ou B O A' c' (out ++ ys) w' ∧ Fr (fun k => k = O ∨ (Value.slice Ao out.length co).ownBlock = some k) w w' ∧ ((Value.slice A' (out ++ ys).length c').ownBlock = (Value.slice Ao out.length co).ownBlock ∨ ∀ g, (Value.slice A' (out ++ ys).length c').ownBlock = some g → w.heap.size ≤ g)
theorem do_any (B O : Nat) (Ao : Option Addr) (co : Nat) (out : List UInt8) (cs : Array Value) (vL : Value) (A : Option Addr) (m c : Nat) (ys : List UInt8) (w : World) (h : Ou B O Ao co out w) (hI : In w A m ys) (hB : B ≤ w.heap.size) (hlen : out.length + m ≤ 140737488351232) :
 Calls Tryz.prog 143 #[.agg cs, vL, .slice A m c, .pointer (some ⟨O, 0, none⟩)] w (OuPost B O Ao co out ys w) := by
 obtain ⟨w1, hw1⟩ : ∃ w1, w.alloc (.cells cs 223) = w1 := ⟨_, rfl⟩;have hb1 : Below w.heap.size w w1 := by rw [← hw1]; exact (Below.refl _ _).alloc (Nat.le_refl _) _
 have HR := Lib.hid (own_below h.r hb1);have HB1 := Lib.hid (h.b.below hb1);have HI := Lib.hid (hI.below hb1);have HBl := Lib.hid hb1;have HM := Lib.hid hI.len;have c0 := HB1.out.one;have f0 := HB1.out.frozen 0;obtain ⟨n, hn⟩ : ∃ n, out.length = n := ⟨_, rfl⟩;have HN := Lib.hid hn;rw [hn] at c0 hlen HR;have hB1 : B ≤ w1.heap.size := Nat.le_trans hB hb1.size;have HW := Lib.hid hw1;clear h hI hb1 hn hw1
 go_enter Tryz.func143, Tryz.ntmps143;go_upto_region 1 with (fail);rw [HW.out];go_wp2_with (with_reducible refine wpList_byt rfl (.tmp 7) (.tmp 8) rfl B Ao n co out rfl HR.out A m c ys rfl HI.out hB1 hlen ?_);intro A' c' w2 ho hb2 hg hat;have hne : some O ≠ (Value.slice Ao n co).ownBlock := own_ne HR.out HB1.out (by decide)
 have hk2 : Blk w2 O 22 #[.slice Ao out.length co] := HB1.out.same (hg.block O HB1.out.lt hne);have c0 := hk2.one;have f0 := hk2.frozen 0;have HO := Lib.hid (And.intro ho (And.intro hg (And.intro hat hk2)));have hne2 : some O ≠ (Value.slice A' (n + m) c').ownBlock := own_ne ho hk2 (by decide)
 have HNE := Lib.hid hne2;clear ho hb2 hg hat hk2 hne hne2;go_wp2_with fail
 first | go_end0 | refine bodyPost_ret (results_none rfl _ _ _) rfl ?_
 refine ⟨rfl, A', c', ⟨?_, ?_⟩, ?_, ?_⟩
 · have := HO.out.2.2.2.set_ 0 (.slice A' (n + m) c');rw [List.length_append, HN.out, HM.out];exact this
 · have := own_far (p := ⟨O, 0, none⟩) HO.out.1 HNE.out (.slice A' (n + m) c');rw [List.length_append, HN.out, HM.out];exact this
 · rw [HN.out];exact ((Fr.of_below' (Fr.refl _ w) HBl.out).grown HO.out.2.1 (fun g hg => .inl (.inr hg))).setCell (p := ⟨O, 0, none⟩) (.inl (.inl rfl)) _
 · rw [List.length_append, HN.out, HM.out];rcases HO.out.2.2.1 with h | h
   · exact .inl h
   · right;intro g hg;rw [h] at hg;injection hg with hg;rw [← hg];exact HBl.out.size
structure Lx (B O Fo Dp Pp dict : Nat) (Ao : Option Addr) (co : Nat) (x : RsX) (st : Lst) (w : World) : Prop where
 ou : Ou B O Ao co st.out w
 nr : ∀ g, x.r = some g → (Value.slice Ao st.out.length co).ownBlock ≠ some g
 f : Blk w Fo 293 #[.func (.func 143) #[] #[.pointer (some ⟨O, 0, none⟩)]]
 d : Blk w Dp 326 #[.pointer (some ⟨x.d, 0, none⟩)]
 p : Blk w Pp 24 #[.int .i64 st.lc, .int .i64 st.lp, .int .i64 st.pb]
 z : Lz x st.t w
 s : x.size = dict
 a : x.all = st.all
 b : B ≤ x.B ∧ x.B ≤ w.heap.size
 g : B ≤ O ∧ B ≤ Fo ∧ B ≤ Dp ∧ B ≤ Pp
 pl : st.lc + st.lp ≤ 4 ∧ st.pb ≤ 4
 al : st.all.length ≤ st.out.length
def KeepR (w w' : World) : Prop := (∀ g cs, Blk w g 353 cs → Blk w' g 353 cs) ∧ (∀ g cs, Blk w g 363 cs → Blk w' g 363 cs)
theorem KeepR.refl (w : World) : KeepR w w := ⟨fun _ _ h => h, fun _ _ h => h⟩
theorem KeepR.trans {w w1 w2 : World} (h : KeepR w w1) (k : KeepR w1 w2) : KeepR w w2 := ⟨fun g cs hb => k.1 g cs (h.1 g cs hb), fun g cs hb => k.2 g cs (h.2 g cs hb)⟩
theorem KeepR.of_below {w w' : World} (h : Below w.heap.size w w') : KeepR w w' := ⟨fun _ _ hb => hb.below h, fun _ _ hb => hb.below h⟩
theorem KeepR.of_fr {w w' : World} {S : Nat → Prop} (h : Fr S w w') (h1 : ∀ g, BT w g 353 → ¬ S g) (h2 : ∀ g, BT w g 363 → ¬ S g) : KeepR w w' := ⟨fun _ _ hb => hb.fr h (h1 _ ⟨_, hb⟩), fun _ _ hb => hb.fr h (h2 _ ⟨_, hb⟩)⟩
def UnPost (B O Fo Dp Pp dict : Nat) (R : Option Lst) (w : World) (e : Ending) (w' : World) : Prop :=
 Below B w w' ∧ KeepR w w' ∧ match R with
 | none => e = .returned (.int .i64 2)
 | some st' => e = .returned (.int .i64 0) ∧ ∃ Ao co x, Lx B O Fo Dp Pp dict Ao co x st' w'
theorem Ou.fr {B O : Nat} {Ao : Option Addr} {co : Nat} {out : List UInt8} {w w' : World} {S : Nat → Prop} (h : Ou B O Ao co out w) (hf : Fr S w w') (h1 : ¬ S O) (h2 : ∀ g, (Value.slice Ao out.length co).ownBlock = some g → ¬ S g) : Ou B O Ao co out w' := ⟨h.b.fr hf h1, own_fr h.r hf h2⟩
theorem chunkR_pack {dict : Nat} {c : Ck} {ys : List UInt8} {st : Lst} {R : Option (Tb × List UInt8)} (hk : ¬ c.k < 3) (h : takeQ st.t dict st.all ys c.n = R) : chunkR dict c ys st = R.map fun p => st.more p.1 p.2 := by
 unfold chunkR;rw [if_neg hk, h];cases R <;> rfl
def afterIf (n : Nat) : Code → Option Code
 | .seq (.seq (.region k _ _) (.cond _ _ _)) b => if k = n then some b else afterIf n b
 | .seq _ b => afterIf n b
 | _ => none
theorem lx_more {B O Fo Dp Pp dict : Nat} {Ao : Option Addr} {co : Nat} {x x' : RsX} {st : Lst} {t' : Tb} {ys : List UInt8} {w w1 w2 : World} (h : Lx B O Fo Dp Pp dict Ao co x st w)
 (hx : x'.B = x.B ∧ x'.size = x.size ∧ x'.all = x.all ++ ys ∧ x'.d = x.d) (hz : Lz x' t' w1) {S : Nat → Prop} (hf : Fr S w w1) (hS : ∀ g t, BT w g t → S g → t = 348 ∨ t = 247 ∨ t = 254 ∨ t = 3 ∨ x.r = some g)
 (hr : ∀ g, x'.r = some g → x.r = some g ∨ w.heap.size ≤ g) (ho1 : Ou B O Ao co st.out w1) {e : Ending} (hd : OuPost B O Ao co st.out ys w1 e w2) : e = .returned (.tuple #[]) ∧ ∃ Ao' co', Lx B O Fo Dp Pp dict Ao' co' x' (st.more t' ys) w2 := by
 obtain ⟨he, A', c', hou, hf2, hor⟩ := hd;have hT : ∀ {g : Nat} {t : TypeId}, BT w1 g t → t ≠ 22 → t ≠ 5 → ¬ (g = O ∨ (Value.slice Ao st.out.length co).ownBlock = some g) := fun hg h1 h2 e => by
  rcases e with e | e
  · exact BT.ne hg ⟨_, ho1.b⟩ h1 e
  · exact BT.ne hg (own_bt ho1.r e) h2 rfl
 have hS0 : ∀ {g : Nat} {t : TypeId}, BT w g t → t ≠ 348 → t ≠ 247 → t ≠ 254 → t ≠ 3 → t ≠ 5 → ¬ S g := fun hg h1 h2 h3 h4 h5 e => by
  rcases hS _ _ hg e with e | e | e | e | e
  · exact h1 e
  · exact h2 e
  · exact h3 e
  · exact h4 e
  · exact BT.ne hg (h.z.v.bt.2 _ e) h5 rfl
 have hX : ∀ g, x'.r = some g → (Value.slice Ao st.out.length co).ownBlock ≠ some g := fun g hg e => by
  rcases hr g hg with k | k
  · exact h.nr g k e
  · have := (own_lt h.ou.r e).2; omega
 refine ⟨he, A', c', hou, ?_, ?_, ?_, ?_, ?_, hx.2.1.trans h.s, by rw [hx.2.2.1, h.a]; rfl, ⟨by rw [hx.1]; exact h.b.1, by rw [hx.1]; have := h.b.2; have := hf.size; have := hf2.size; omega⟩, h.g, h.pl, by show (st.all ++ ys).length ≤ (st.out ++ ys).length; simp; exact h.al⟩
 · intro g hg e;rcases hor with k | k
   · exact hX g hg (k.symm.trans e)
   · have := k g e; have := (hz.v.bt.2 g hg).lt; omega
 · exact (h.f.fr hf (hS0 ⟨_, h.f⟩ (by decide) (by decide) (by decide) (by decide) (by decide))).fr hf2 (hT ⟨_, h.f.fr hf (hS0 ⟨_, h.f⟩ (by decide) (by decide) (by decide) (by decide) (by decide))⟩ (by decide) (by decide))
 · rw [show x'.d = x.d from hx.2.2.2]
   exact (h.d.fr hf (hS0 ⟨_, h.d⟩ (by decide) (by decide) (by decide) (by decide) (by decide))).fr hf2 (hT ⟨_, h.d.fr hf (hS0 ⟨_, h.d⟩ (by decide) (by decide) (by decide) (by decide) (by decide))⟩ (by decide) (by decide))
 · exact (h.p.fr hf (hS0 ⟨_, h.p⟩ (by decide) (by decide) (by decide) (by decide) (by decide))).fr hf2 (hT ⟨_, h.p.fr hf (hS0 ⟨_, h.p⟩ (by decide) (by decide) (by decide) (by decide) (by decide))⟩ (by decide) (by decide))
 · refine hz.fr hf2 (fun g hg => hT hg (by decide) (by decide)) (fun g hg => hT hg (by decide) (by decide)) (fun g hg => hT hg (by decide) (by decide)) (fun g hg => hT hg (by decide) (by decide)) (fun g hg => hT hg (by decide) (by decide)) (fun g hg e => ?_)
   rcases e with e | e
   · exact BT.ne (hz.v.bt.2 g hg) ⟨_, ho1.b⟩ (by decide) e
   · exact hX g hg e
noncomputable def tail6 : Code := ((Tryz.f173.body.bind (afterIf 5)).getD .skip)
theorem tail7 (B O Fo Dp Pp dict C : Nat) (Ao : Option Addr) (co : Nat) (x : RsX) (st : Lst) (ck cn cp c3 c4 c5 : Nat) (A : Option Addr) (m c : Nat) (ys : List UInt8) (w0 w : World) (h : Lx B O Fo Dp Pp dict Ao co x st w)
 (hC : Blk w C 223 #[.int .i64 ck, .int .i64 cn, .int .i64 cp, .int .i64 c3, .int .i64 c4, .int .i64 c5]) (hI : In w A m ys) (hc : m ≤ c) (hA : ∀ ad, A = some ad → ad.block < B) (hl : Laid w) (hR : 16 < B) (hBw : B ≤ w0.heap.size) (h0 : Below B w0 w) (hk0 : KeepR w0 w)
 (hn : ck < 3 ∨ (1 ≤ cn ∧ cn ≤ 2097152)) (hlen : st.out.length + 2097152 ≤ 4398046511104) (hm : m ≤ 65536)
 (u6 u7 u8 u9 u10 u11 u12 u13 u14 u15 u16 u17 u18 u19 u20 u21 u22 u23 u24 u25 u26 u27 u28 u29 u30 u31 u32 u33 u34 u35 u36 u37 u38 u39 u40 u41 u42 u43 u44 u45 u46 u47 u48 u49 u50 u51 u52 u53 u54 u55 u56 u57 : Value) :
 Code.wp Tryz.prog tail6 (bodyPost Tryz.prog Tryz.f173 (UnPost B O Fo Dp Pp dict (chunkR dict ⟨ck, cn, cp, c3, c4, c5⟩ ys st) w0)) ⟨#[.agg #[.int .i64 ck, .int .i64 cn, .int .i64 cp, .int .i64 c3, .int .i64 c4, .int .i64 c5], .slice A m c, .pointer (some ⟨Dp, 0, none⟩), .pointer (some ⟨Pp, 0, none⟩), .pointer (some ⟨Fo, 0, none⟩), .pointer (some ⟨C, 0, none⟩), u6, u7, u8, u9, u10, u11, u12, u13, u14, u15, u16, u17, u18, u19, u20, u21, u22, u23, u24, u25, u26, u27, u28, u29, u30, u31, u32, u33, u34, u35, u36, u37, u38, u39, u40, u41, u42, u43, u44, u45, u46, u47, u48, u49, u50, u51, u52, u53, u54, u55, u56, u57], []⟩ w := by
 conv => arg 2; whnf
 have c0 := hC.cell 0;have c1 := hC.cell 1;have H := Lib.hid h;have HC := Lib.hid hC;have HI := Lib.hid hI;have HX := Lib.hid (And.intro hc (And.intro hA (And.intro hl (And.intro hR (And.intro hBw (And.intro h0 (And.intro hk0 (And.intro hn (And.intro hlen hm)))))))));have cd := h.d.one;have cf := h.f.one;clear h hC hI hc hA hl hR hBw h0 hk0 hn hlen hm;by_cases hk : ck < 3
 · have hk3 : (ck : Int) < 3 := by omega
   go_upto_region 8 with (fail);go_wp2_with fail;obtain ⟨hc, hA, hl, hR, hBw, h0, hk0, hn, hlen, hm⟩ := HX.out;have hBx : B ≤ w.heap.size := Nat.le_trans H.out.b.1 H.out.b.2;refine (Raw_any x st.t A m c ys w H.out.z HI.out hc (fun ad e => ⟨?_, ?_, ?_⟩) ?_).mono ?_
   · have := hA ad e; omega
   · have := hA ad e; have := H.out.z.v.base; have := H.out.b.1; omega
   · intro k; have := hA ad e; have := (H.out.z.v.lt.2 _ k).1; have := H.out.b.1; omega
   · rw [H.out.a]; have := H.out.al; omega
   rintro e w1 ⟨rfl, r, hz, hf, hr⟩;have hS : ∀ g t, BT w g t → (g = x.wb ∨ some g = x.r) → t = 348 ∨ t = 247 ∨ t = 254 ∨ t = 3 ∨ x.r = some g := fun g t hg e => by
    rcases e with e | e
    · subst e;by_cases ht : t = 247
      · exact .inr (.inl ht)
      · exact absurd rfl (BT.ne hg H.out.z.v.bt.1 ht)
    · exact .inr (.inr (.inr (.inr e.symm)))
   have hS0 : ∀ {g : Nat} {t : TypeId}, BT w g t → t ≠ 247 → t ≠ 5 → ¬ (g = x.wb ∨ some g = x.r) := fun hg h1 h2 e => by
    rcases e with e | e
    · exact BT.ne hg H.out.z.v.bt.1 h1 e
    · exact BT.ne hg (H.out.z.v.bt.2 _ e.symm) h2 rfl
   have ho1 : Ou B O Ao co st.out w1 := H.out.ou.fr hf (hS0 ⟨_, H.out.ou.b⟩ (by decide) (by decide)) (fun g hg e => by
    rcases e with e | e
    · exact BT.ne (own_bt H.out.ou.r hg) H.out.z.v.bt.1 (by decide) e
    · exact H.out.nr g e.symm hg)
   have hb1 : Below B w w1 := hf.below hBx (fun k e => by
    rcases e with e | e
    · have := H.out.z.v.base; have := H.out.b.1; omega
    · have := (H.out.z.v.lt.2 _ e.symm).1; have := H.out.b.1; omega)
   have hk1 : KeepR w w1 := KeepR.of_fr hf (fun g hg => hS0 hg (by decide) (by decide)) (fun g hg => hS0 hg (by decide) (by decide))
   have hI1 : In w1 A m ys := HI.out.fr hf (fun _ ad e k => by
    have := hA ad e;rcases k with k | k
    · have := H.out.z.v.base; have := H.out.b.1; omega
    · have := (H.out.z.v.lt.2 _ k.symm).1; have := H.out.b.1; omega)
   have hC1 := HC.out.fr hf (hS0 ⟨_, HC.out⟩ (by decide) (by decide))
   have hF1 := H.out.f.fr hf (hS0 ⟨_, H.out.f⟩ (by decide) (by decide))
   have cf := hF1.one;have c0 := hC1.cell 0;have c1 := hC1.cell 1;have c2 := hC1.cell 2;have c3' := hC1.cell 3;have c4' := hC1.cell 4;have c5' := hC1.cell 5;have HM := Lib.hid (fun e w2 hd => lx_more (x' := x.on r ys) (t' := st.t) (ys := ys) (e := e) (w2 := w2) H.out ⟨rfl, rfl, rfl, rfl⟩ hz hf hS hr ho1 hd)
   have HD := Lib.hid (fun cs vL => do_any B O Ao co st.out cs vL A m c ys w1 ho1 hI1 (Nat.le_trans hBx hf.size) (by omega))
   have HN := Lib.hid (And.intro (h0.trans hb1) (And.intro (hk0.trans hk1) (And.intro ho1 (And.intro (Nat.le_trans hBx hf.size) H.out.g.1))));clear hc hA hl hR hBw h0 hk0 hn hlen hm hBx hz hf hr hS hS0 ho1 hb1 hk1 hI1 hC1 hF1 H HC HI HX;go_wp2_with fail;refine (HD.out _ _).mono ?_;intro e w2 hd;obtain ⟨he, A', c', hx⟩ := HM.out e w2 hd;subst he;have HXX := Lib.hid hx;have HY := Lib.hid hd;clear hx hd
   go_wp2_with fail;go_ret;obtain ⟨b1, k1, o1, s1, g1⟩ := HN.out;obtain ⟨_, A2, c2', ho2, hf2, _⟩ := HY.out;have hb2 : Below B w1 w2 := hf2.below s1 (fun k e => by
    rcases e with e | e
    · rw [e]; exact g1
    · exact (own_lt o1.r e).1)
   have hT : ∀ {g : Nat} {t : TypeId}, BT w1 g t → t ≠ 22 → t ≠ 5 → ¬ (g = O ∨ (Value.slice Ao st.out.length co).ownBlock = some g) := fun hg h1 h2 e => by
    rcases e with e | e
    · exact BT.ne hg ⟨_, o1.b⟩ h1 e
    · exact BT.ne hg (own_bt o1.r e) h2 rfl
   refine ⟨b1.trans hb2, k1.trans (KeepR.of_fr hf2 (fun g hg => hT hg (by decide) (by decide)) (fun g hg => hT hg (by decide) (by decide))), ?_⟩
   have hch : chunkR dict ⟨ck, cn, cp, c3, c4, c5⟩ ys st = some (st.more st.t ys) := by unfold chunkR; exact if_pos hk
   rw [hch];exact ⟨rfl, A', c', _, HXX.out⟩
 · have hk3 : ¬ (ck : Int) < 3 := by omega
   have c1 := HC.out.cell 1;go_upto_region 11 with (fail);go_wp2_with fail;obtain ⟨hc, hA, hl, hR, hBw, h0, hk0, hn, hlen, hm⟩ := HX.out;have hBx : B ≤ w.heap.size := Nat.le_trans H.out.b.1 H.out.b.2;refine (Take_any x st.t A m c ys cn w H.out.z HI.out hc hl (Nat.lt_of_lt_of_le hR H.out.b.1) (by omega) (by omega) ?_ H.out.b.2).mono ?_
   · rw [H.out.a]; have := H.out.al; omega
   rintro e w1 ⟨hf, hR2⟩;have hS : ∀ g t, BT w g t → x.footD g → t = 348 ∨ t = 247 ∨ t = 254 ∨ t = 3 ∨ x.r = some g := fun g t hg e => by
    rcases e with e | e | e | e | ⟨k, hk, e⟩
    · subst e;by_cases ht : t = 348
      · exact .inl ht
      · exact absurd rfl (BT.ne hg ⟨_, H.out.z.d⟩ ht)
    · subst e;by_cases ht : t = 247
      · exact .inr (.inl ht)
      · exact absurd rfl (BT.ne hg H.out.z.v.bt.1 ht)
    · exact .inr (.inr (.inr (.inr e)))
    · subst e;by_cases ht : t = 254
      · exact .inr (.inr (.inl ht))
      · exact absurd rfl (BT.ne hg ⟨_, H.out.z.t.b⟩ ht)
    · subst e;by_cases ht : t = 3
      · exact .inr (.inr (.inr (.inl ht)))
      · exact absurd rfl (BT.ne hg ⟨_, (H.out.z.t.set hk).r⟩ ht)
   have hSB : ∀ g, x.footD g → B ≤ g := fun g e => by
    have hxB := H.out.b.1;rcases e with e | e | e | e | ⟨k, hk, e⟩
    · have := H.out.z.o; omega
    · have := H.out.z.v.base; omega
    · have := (H.out.z.v.lt.2 _ e).1; omega
    · have := H.out.z.t.o; omega
    · have := (H.out.z.t.base hk).2; omega
   have hS0 : ∀ {g : Nat} {t : TypeId}, BT w g t → t ≠ 348 → t ≠ 247 → t ≠ 254 → t ≠ 3 → t ≠ 5 → ¬ x.footD g := fun hg h1 h2 h3 h4 h5 e => by
    rcases hS _ _ hg e with e | e | e | e | e
    · exact h1 e
    · exact h2 e
    · exact h3 e
    · exact h4 e
    · exact BT.ne hg (H.out.z.v.bt.2 _ e) h5 rfl
   have ho1 : Ou B O Ao co st.out w1 := H.out.ou.fr hf (hS0 ⟨_, H.out.ou.b⟩ (by decide) (by decide) (by decide) (by decide) (by decide)) (fun g hg e => by
    have hbt := own_bt H.out.ou.r hg;rcases hS _ _ hbt e with e | e | e | e | e
    · exact absurd e (by decide)
    · exact absurd e (by decide)
    · exact absurd e (by decide)
    · exact absurd e (by decide)
    · exact H.out.nr g e hg)
   have hb1 : Below B w w1 := hf.below hBx hSB;have hk1 : KeepR w w1 := KeepR.of_fr hf (fun g hg => hS0 hg (by decide) (by decide) (by decide) (by decide) (by decide)) (fun g hg => hS0 hg (by decide) (by decide) (by decide) (by decide) (by decide))
   obtain ⟨R, hRt⟩ : ∃ R, takeQ st.t x.size x.all ys cn = R := ⟨_, rfl⟩;rw [hRt] at hR2;have hch : chunkR dict ⟨ck, cn, cp, c3, c4, c5⟩ ys st = R.map fun p => st.more p.1 p.2 := chunkR_pack hk (by rw [← hRt, H.out.s, H.out.a])
   have HN := Lib.hid (And.intro (h0.trans hb1) (hk0.trans hk1));cases R with
   | none =>
    simp only [Option.map_none, Option.map_some] at hR2 hch;subst hR2;clear hc hA hl hR hBw h0 hk0 hn hlen hm hBx hf hS hSB hS0 ho1 hb1 hk1 hRt H HC HI HX;go_wp2_with fail;go_ret;rw [hch];exact ⟨HN.out.1, HN.out.2, rfl⟩
   | some p =>
    obtain ⟨t', out⟩ := p;simp only [Option.map_none, Option.map_some] at hR2 hch;obtain ⟨r, O', oc, L, ln, lc, rfl, hz, ho', hro, hr⟩ := hR2;have hol : out.length = cn := takeQ_len _ _ _ _ _ hRt;have hI1 : In w1 O' out.length out := in_own ho' (by omega)
    have hC1 := HC.out.fr hf (hS0 ⟨_, HC.out⟩ (by decide) (by decide) (by decide) (by decide) (by decide))
    have hF1 := H.out.f.fr hf (hS0 ⟨_, H.out.f⟩ (by decide) (by decide) (by decide) (by decide) (by decide))
    have cf := hF1.one;have c0 := hC1.cell 0;have c1 := hC1.cell 1;have c2 := hC1.cell 2;have c3' := hC1.cell 3;have c4' := hC1.cell 4;have c5' := hC1.cell 5;have HM := Lib.hid (fun e w2 hd => lx_more (x' := x.on r out) (t' := t') (ys := out) (e := e) (w2 := w2) H.out ⟨rfl, rfl, rfl, rfl⟩ hz hf hS hr ho1 hd)
    have HD := Lib.hid (fun cs vL => do_any B O Ao co st.out cs vL O' out.length oc out w1 ho1 hI1 (Nat.le_trans hBx hf.size) (by omega))
    have HO := Lib.hid (And.intro ho1 (And.intro (Nat.le_trans hBx hf.size) H.out.g.1));clear hc hA hl hR hBw h0 hk0 hn hlen hm hBx hz hf hr hS hSB hS0 ho1 hb1 hk1 hI1 hC1 hF1 H HC HI HX hRt ho' hro hol;go_wp2_with fail;refine (HD.out _ _).mono ?_;intro e w2 hd;obtain ⟨he, A', c', hx⟩ := HM.out e w2 hd;subst he;have HXX := Lib.hid hx;have HY := Lib.hid hd;clear hx hd;go_wp2_with fail;go_ret;obtain ⟨b1, k1⟩ := HN.out
    obtain ⟨o1, s1, g1⟩ := HO.out;obtain ⟨_, A2, c2', ho2, hf2, _⟩ := HY.out;have hb2 : Below B w1 w2 := hf2.below s1 (fun k e => by
     rcases e with e | e
     · rw [e]; exact g1
     · exact (own_lt o1.r e).1)
    have hT : ∀ {g : Nat} {t : TypeId}, BT w1 g t → t ≠ 22 → t ≠ 5 → ¬ (g = O ∨ (Value.slice Ao st.out.length co).ownBlock = some g) := fun hg h1 h2 e => by
     rcases e with e | e
     · exact BT.ne hg ⟨_, o1.b⟩ h1 e
     · exact BT.ne hg (own_bt o1.r e) h2 rfl
    refine ⟨b1.trans hb2, k1.trans (KeepR.of_fr hf2 (fun g hg => hT hg (by decide) (by decide)) (fun g hg => hT hg (by decide) (by decide))), ?_⟩
    rw [hch];exact ⟨rfl, A', c', _, HXX.out⟩
end Go.Proofs.YtcjehjdehdoaeaaGreatDoor
