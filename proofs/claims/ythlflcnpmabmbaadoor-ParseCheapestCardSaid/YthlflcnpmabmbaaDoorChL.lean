/-
  Walk of ParseCheapest: it answers true. Conditions: the data and the picks lie in memory; the tables as Laid says.
-/
import Derived.Test.YthlflcnpmabmbaaDoorChC
import Derived.Test.YthlflcnpmabmbaaDoorFiOpen
namespace Go.Proofs.YthlflcnpmabmbaaDoor
set_option maxRecDepth 100000
section
open Go.RowKit

def szF (y : Sy) : Int := if nextE St.start y = 0 then (if y.k = 2 ∨ y.k = 3 then y.l else 1) else 0
set_option maxHeartbeats 4000000 in
theorem YSize_any (k l x : Int) (z : UInt8) (w : World) (hl : Laid w) :
    Calls Tryd.prog 31 #[.agg #[.int .i64 k, .int .u8 (z.toNat : Int), .int .i64 l, .int .i64 x]] w fun e w' => e = .returned (.int .i64 (szF ⟨k, z, l, x⟩)) ∧ Below w.heap.size w w' := by
  have hn := Next_p St.start ⟨k, z, l, x⟩
  obtain ⟨f, hf⟩ : ∃ f, nextE St.start ⟨k, z, l, x⟩ = f := ⟨_, rfl⟩
  obtain ⟨r, hr⟩ : ∃ r, szF ⟨k, z, l, x⟩ = r := ⟨_, rfl⟩
  have hr' : r = if f = 0 then (if k = 2 ∨ k = 3 then l else 1) else 0 := by rw [← hr, ← hf]; rfl
  rw [hf] at hn
  rw [hr]
  obtain ⟨t, ht⟩ : ∃ t, nextS St.start ⟨k, z, l, x⟩ = t := ⟨_, rfl⟩
  rw [ht] at hn
  clear hf hr ht
  obtain ⟨n', a', b', c', d'⟩ := t
  unfold St.v Sy.v Sy.cs at hn
  unfold St.start at hn
  simp only [] at hn
  obtain ⟨wb, hwb⟩ : ∃ wb, w.alloc (.cells #[.int .i64 k, .int .u8 (z.toNat : Int), .int .i64 l, .int .i64 x] 24) = wb := ⟨_, rfl⟩
  have hY : Blk wb w.heap.size 24 #[.int .i64 k, .int .u8 (z.toNat : Int), .int .i64 l, .int .i64 x] := by rw [← hwb]; exact Blk.new _ _ _
  have hB : Below w.heap.size w wb := by rw [← hwb]; exact (Below.refl _ _).alloc (Nat.le_refl _) _
  obtain ⟨Y, hYY⟩ : ∃ Y, w.heap.size = Y := ⟨_, rfl⟩
  rw [hYY] at hY
  have Hn := Lib.hid hn
  have Hr := Lib.hid hr'
  have HB := Lib.hid hB
  have HL := Lib.hid (hl.below hB)
  clear hn hr' hB hl
  go_enter Tryd.func31, Tryd.ntmps31
  go_wp2_with fail
  clear hwb hYY
  have ylt := hY.lt
  go_cut [4] (fun s4 wx => s4 = .int .i64 f ∧ Hid (Below wb.heap.size wb wx))
  case first =>
    obtain ⟨y0, y1, y2, y3⟩ : wb.cell? ⟨Y, 0, none⟩ = some (.int .i64 k) ∧ wb.cell? ⟨Y, 1, none⟩ = some (.int .u8 (z.toNat : Int)) ∧ wb.cell? ⟨Y, 2, none⟩ = some (.int .i64 l) ∧ wb.cell? ⟨Y, 3, none⟩ = some (.int .i64 x) := hY.four
    have Hq : Hid (∀ w' : World, Below wb.heap.size wb w' → w'.cell? ⟨Y, 0, none⟩ = some (.int .i64 k) ∧ w'.cell? ⟨Y, 1, none⟩ = some (.int .u8 (z.toNat : Int)) ∧ w'.cell? ⟨Y, 2, none⟩ = some (.int .i64 l) ∧ w'.cell? ⟨Y, 3, none⟩ = some (.int .i64 x)) := fun w' hb => (hY.below hb).four
    clear hY
    have ny : ¬ Y = wb.heap.size := by omega
    go_region_held3 (fun w' => w'.cell? ⟨Y, 0, none⟩ = some (.int .i64 k) ∧ w'.cell? ⟨Y, 1, none⟩ = some (.int .u8 (z.toNat : Int)) ∧ w'.cell? ⟨Y, 2, none⟩ = some (.int .i64 l) ∧ w'.cell? ⟨Y, 3, none⟩ = some (.int .i64 x))
      (first | (with_reducible exact ⟨y0, y1, y2, y3⟩) | (with_reducible exact ⟨p0, p1, p2, p3⟩) | (with_reducible exact ⟨q0, q1, q2, q3⟩) | go_keep | (with_reducible exact ⟨(keep5 ny).trans q0, (keep5 ny).trans q1, (keep5 ny).trans q2, (keep5 ny).trans q3⟩) | (with_reducible exact ⟨(keep5 ny1).trans q0, (keep5 ny1).trans q1, (keep5 ny1).trans q2, (keep5 ny1).trans q3⟩))
      (first | (go_at_call 14; refine (New_any _).mono ?_; rintro en w1 ⟨rfl, hbel⟩; have hbw : Below wb.heap.size wb w1 := (by first | (with_reducible exact bd1 hbel) | (with_reducible exact bd2 hbel)); obtain ⟨p0, p1, p2, p3⟩ := Hq.out w1 hbw; have ny1 : ¬ Y = w1.heap.size := (by have := hbw.size; omega); (try (have hz : Blk w1 wb.heap.size 37 #[.int .i64 0, .int .i64 0, .int .i64 0, .int .i64 0, .int .i64 0] := by with_reducible exact (Blk.new wb 37 #[.int .i64 0, .int .i64 0, .int .i64 0, .int .i64 0, .int .i64 0]).drew.below hbel)); unfold stV stC) | (go_at_call 33; refine (Hn.out _ (HL.out.below (by first | (with_reducible exact hbw) | (with_reducible exact bmk hbw _)))).mono ?_; rintro en w2 ⟨rfl, hbel2⟩; have hbw2 : Below wb.heap.size wb w2 := (by first | (with_reducible exact bup hbw hbel2) | (with_reducible exact bup (bmk hbw _) hbel2)); obtain ⟨q0, q1, q2, q3⟩ := Hq.out w2 hbw2; (first | ((have hz2 : Blk w2 wb.heap.size 37 #[.int .i64 0, .int .i64 0, .int .i64 0, .int .i64 0, .int .i64 0] := by with_reducible exact hz.below hbel2); (obtain ⟨⟨z0, z1, z2, z3, z4⟩, ⟨f0, f1, f2, f3, f4⟩⟩ := st_five hz2)) | ((have hz2 : Blk w2 w1.heap.size 37 #[.int .i64 0, .int .i64 0, .int .i64 0, .int .i64 0, .int .i64 0] := by with_reducible exact (Blk.new w1 37 #[.int .i64 0, .int .i64 0, .int .i64 0, .int .i64 0, .int .i64 0]).below hbel2); (obtain ⟨⟨z0, z1, z2, z3, z4⟩, ⟨f0, f1, f2, f3, f4⟩⟩ := st_five hz2)) | skip)))
    all_goals go_wp2_with fail
    all_goals go_meet
    · exact ⟨rfl, bmk hbw2 _⟩
    · exact ⟨rfl, below5 hbw2 hbw.size _ _ _ _ _⟩
    · exact ⟨rfl, below5 hbw2 (Nat.le_refl _) _ _ _ _ _⟩
  case rest =>
    obtain ⟨rfl, hb⟩ := hcut
    obtain ⟨wa, rfl⟩ : ∃ wa : World, wa = wc := ⟨_, rfl⟩
    obtain ⟨y0, y1, y2, y3⟩ : wa.cell? ⟨Y, 0, none⟩ = some (.int .i64 k) ∧ wa.cell? ⟨Y, 1, none⟩ = some (.int .u8 (z.toNat : Int)) ∧ wa.cell? ⟨Y, 2, none⟩ = some (.int .i64 l) ∧ wa.cell? ⟨Y, 3, none⟩ = some (.int .i64 x) := (hY.below hb.out).four
    clear hY ylt HL Hn
    have HBa : Hid (Below w.heap.size w wa) := bup HB.out hb.out
    clear HB hb
    by_cases hf0 : f = 0
    · subst hf0
      have Hr0 : Hid (r = if k = 2 ∨ k = 3 then l else 1) := by have := Hr.out; rw [if_pos rfl] at this; exact this
      clear Hr
      by_cases k2 : k = 2
      · have Hr1 : Hid (r = l) := by have := Hr0.out; rw [if_pos (.inl k2)] at this; exact this
        subst k2
        go_wp2_with fail
        go_ret
        exact ⟨by rw [Hr1.out]; rfl, HBa.out⟩
      · by_cases k3 : k = 3
        · have Hr1 : Hid (r = l) := by have := Hr0.out; rw [if_pos (.inr k3)] at this; exact this
          subst k3
          go_wp2_with fail
          go_ret
          exact ⟨by rw [Hr1.out]; rfl, HBa.out⟩
        · have Hr1 : Hid (r = 1) := by have := Hr0.out; rw [if_neg (by omega)] at this; exact this
          have k2' : (k == 2) = false := beq_eq_false_iff_ne.2 k2
          have k3' : (k == 3) = false := beq_eq_false_iff_ne.2 k3
          go_wp2_with fail
          go_ret
          exact ⟨by rw [Hr1.out]; rfl, HBa.out⟩
    · have hf1 : (f == 0) = false := beq_eq_false_iff_ne.2 hf0
      have hf2 : (f != 0) = true := bne_iff_ne.2 hf0
      have Hr0 : Hid (r = 0) := by have := Hr.out; rw [if_neg hf0] at this; exact this
      clear hf0 Hr
      go_wp2_with fail
      go_ret
      exact ⟨by rw [Hr0.out]; rfl, HBa.out⟩
end
section
open Go.RowKit
theorem set9_q {w : World} {g t : Nat} {u0 u1 u2 u3 u4 u5 u6 u7 u8 : Value} (h : Blk w g t #[u0, u1, u2, u3, u4, u5, u6, u7, u8]) (v0 v1 v2 v3 v4 v5 v6 v7 v8 : Value) :
    Blk (((((((((w.setCell ⟨g, 0, none⟩ v0).setCell ⟨g, 1, none⟩ v1).setCell ⟨g, 2, none⟩ v2).setCell ⟨g, 3, none⟩ v3).setCell ⟨g, 4, none⟩ v4).setCell ⟨g, 5, none⟩ v5).setCell ⟨g, 6, none⟩ v6).setCell ⟨g, 7, none⟩ v7).setCell ⟨g, 8, none⟩ v8) g t #[v0, v1, v2, v3, v4, v5, v6, v7, v8] := by
  have h0 : Blk (w.setCell ⟨g, 0, none⟩ v0) g t #[v0, u1, u2, u3, u4, u5, u6, u7, u8] := h.set_ 0 v0
  have h1 : Blk ((w.setCell ⟨g, 0, none⟩ v0).setCell ⟨g, 1, none⟩ v1) g t #[v0, v1, u2, u3, u4, u5, u6, u7, u8] := h0.set_ 1 v1
  have h2 : Blk (((w.setCell ⟨g, 0, none⟩ v0).setCell ⟨g, 1, none⟩ v1).setCell ⟨g, 2, none⟩ v2) g t #[v0, v1, v2, u3, u4, u5, u6, u7, u8] := h1.set_ 2 v2
  have h3 : Blk ((((w.setCell ⟨g, 0, none⟩ v0).setCell ⟨g, 1, none⟩ v1).setCell ⟨g, 2, none⟩ v2).setCell ⟨g, 3, none⟩ v3) g t #[v0, v1, v2, v3, u4, u5, u6, u7, u8] := h2.set_ 3 v3
  have h4 : Blk (((((w.setCell ⟨g, 0, none⟩ v0).setCell ⟨g, 1, none⟩ v1).setCell ⟨g, 2, none⟩ v2).setCell ⟨g, 3, none⟩ v3).setCell ⟨g, 4, none⟩ v4) g t #[v0, v1, v2, v3, v4, u5, u6, u7, u8] := h3.set_ 4 v4
  have h5 : Blk ((((((w.setCell ⟨g, 0, none⟩ v0).setCell ⟨g, 1, none⟩ v1).setCell ⟨g, 2, none⟩ v2).setCell ⟨g, 3, none⟩ v3).setCell ⟨g, 4, none⟩ v4).setCell ⟨g, 5, none⟩ v5) g t #[v0, v1, v2, v3, v4, v5, u6, u7, u8] := h4.set_ 5 v5
  have h6 : Blk (((((((w.setCell ⟨g, 0, none⟩ v0).setCell ⟨g, 1, none⟩ v1).setCell ⟨g, 2, none⟩ v2).setCell ⟨g, 3, none⟩ v3).setCell ⟨g, 4, none⟩ v4).setCell ⟨g, 5, none⟩ v5).setCell ⟨g, 6, none⟩ v6) g t #[v0, v1, v2, v3, v4, v5, v6, u7, u8] := h5.set_ 6 v6
  have h7 : Blk ((((((((w.setCell ⟨g, 0, none⟩ v0).setCell ⟨g, 1, none⟩ v1).setCell ⟨g, 2, none⟩ v2).setCell ⟨g, 3, none⟩ v3).setCell ⟨g, 4, none⟩ v4).setCell ⟨g, 5, none⟩ v5).setCell ⟨g, 6, none⟩ v6).setCell ⟨g, 7, none⟩ v7) g t #[v0, v1, v2, v3, v4, v5, v6, v7, u8] := h6.set_ 7 v7
  have h8 : Blk (((((((((w.setCell ⟨g, 0, none⟩ v0).setCell ⟨g, 1, none⟩ v1).setCell ⟨g, 2, none⟩ v2).setCell ⟨g, 3, none⟩ v3).setCell ⟨g, 4, none⟩ v4).setCell ⟨g, 5, none⟩ v5).setCell ⟨g, 6, none⟩ v6).setCell ⟨g, 7, none⟩ v7).setCell ⟨g, 8, none⟩ v8) g t #[v0, v1, v2, v3, v4, v5, v6, v7, v8] := h7.set_ 8 v8
  exact h8
theorem set9_below {a w : World} {g : Nat} (h : Below a.heap.size a w) (hg : a.heap.size ≤ g) (v0 v1 v2 v3 v4 v5 v6 v7 v8 : Value) :
    Below a.heap.size a (((((((((w.setCell ⟨g, 0, none⟩ v0).setCell ⟨g, 1, none⟩ v1).setCell ⟨g, 2, none⟩ v2).setCell ⟨g, 3, none⟩ v3).setCell ⟨g, 4, none⟩ v4).setCell ⟨g, 5, none⟩ v5).setCell ⟨g, 6, none⟩ v6).setCell ⟨g, 7, none⟩ v7).setCell ⟨g, 8, none⟩ v8) :=
  ((((((((h.setCell (p := ⟨g, 0, none⟩) hg _).setCell (p := ⟨g, 1, none⟩) hg _).setCell (p := ⟨g, 2, none⟩) hg _).setCell (p := ⟨g, 3, none⟩) hg _).setCell (p := ⟨g, 4, none⟩) hg _).setCell (p := ⟨g, 5, none⟩) hg _).setCell (p := ⟨g, 6, none⟩) hg _).setCell (p := ⟨g, 7, none⟩) hg _).setCell (p := ⟨g, 8, none⟩) hg _
theorem makes_len {l : List UInt8} {hi : Nat} {dict : Int} {r : List Sy} : ∀ {p : Nat} {s t : St}, makes l hi dict p s r t → p + r.length ≤ hi := by
  induction r with
  | nil => intro p s t h; exact Nat.le_of_eq h.1
  | cons y r ih => intro p s t h; have := ih h.2; have := ysz_pos y; rw [List.length_cons]; omega
end
open Go.RowKit Go.Shelf
attribute [local go_sem] Oper.semAt_some
set_option maxRecDepth 100000

theorem inI_below {w w' : World} {A : Option Addr} {n : Nat} {l : List Int} (h : InI w A n l) (hb : Below w.heap.size w w') : InI w' A n l :=
  ⟨h.1, h.2.1, fun i hi => by
    obtain ⟨b, off, k, e1, e2, e3, e4, e5⟩ := h.2.2 i hi
    exact ⟨b, off, k, e1, e2, Nat.lt_of_lt_of_le e3 hb.size, (hb.cell e3).trans e4, e5⟩⟩
theorem szF_plan {l : List UInt8} {hi : Nat} {dict : Int} {p : Nat} {y : Sy} (hd : dict ≤ 4294967295) (h : planSt l hi dict p y) (hz : p + ysz y ≤ hi) : szF y = (ysz y : Int) := by
  have h0 := (match_ok (s := St.start) start_right hd h hz).1
  unfold szF
  rw [if_pos h0, ysz_int]
  rcases h with rfl | ⟨n, d, rfl, h3, _⟩
  · rfl
  · rw [if_pos (.inl rfl)]
    show (n : Int) = max 1 (n : Int)
    omega
theorem own_h0 {w : World} {B : Nat} {e : TypeId} {size n c : Nat} {a : Option Addr} {xs : List Value} (h : w.ownsRow B e size (.slice a n c) n xs) : n = 0 → a = none ∧ c = 0 ∨ ∃ x, a = some x := fun _ => by
  rcases h.2 with ⟨hv, _⟩ | ⟨g', cap', cur, hv, _⟩
  · injection hv with h1 _ h3; exact .inl ⟨h1, h3⟩
  · injection hv with h1; exact .inr ⟨_, h1⟩
theorem step_fresh {ops : Array Oper} {o : Oper} {a : Act} {K : Act → World → Prop} {Q : Exit → Act → World → Prop} {E : Prop} (hgd : o.guard = none) (s x : Operand)
    (ho : o.op = .call { callee := .builtin .append, args := #[s, x], argTypes := #[34, 34] }) {w : World} (N : Nat) (hN : N = w.heap.size) (hs : a.eval s = .slice (some ⟨N, 0, none⟩) 0 0)
    (A : Option Addr) (m c : Nat) (l : List UInt8) (hx : a.eval x = .slice A m c) (hr : In w A m l)
    (h : ∀ a' c' w', Fresh w w' a' m c' l → K (a.put o.dst (.slice a' m c')) w') :
    if Region.wanted o (yielded ops a.tmps) = true then Oper.wp Tryd.prog o a (w.alloc (.cells #[] 5)).drew K Q else E := by
  obtain ⟨i0, hi0, hz0, hz1, hz2⟩ := info_parts infou8
  have hO := (World.ownsRow_made (base := w.heap.size) (e := 5) (size := 1) w #[] 0 (Nat.le_refl _) (by unfold maxLen; omega) rfl)
  have hr' := hr.below ((Below.refl _ _).alloc (Nat.le_refl _) (.cells #[] 5)).drew
  subst hN
  refine step_append_rd hgd s x 34 ho w.heap.size 5 i0 _ 1 1 Tryd.underlying34 hi0 hz0 hz1 hz2 rfl (by decide) _ 0 [] hs hO.drew A m c (bys l) hx hr'.1 (bys_one _) (by have := hr.2.2; simp only [maxLen]; omega) (by have := hr.2.2; omega) (by simp) ?_
  intro a1 c1 w1 hown hg hat
  simp only [Nat.zero_add, List.nil_append] at hown hat ⊢
  refine h a1 c1 w1 ⟨hown, ?_⟩
  refine Below.grown ((Below.refl _ w).alloc (Nat.le_refl _) _).drew hg (by simp) ?_
  intro k hk
  simp [Value.ownBlock] at hk; omega

set_option maxHeartbeats 8000000 in
theorem cheapest_law (A : Option Addr) (m c : Nat) (l : List UInt8) (fr tz di : Int) (s : St) (PA : Option Addr) (pn pc : Nat) (pl : List Int) (w : World) (h : In w A m l) (hmc : m ≤ c) (h0 : m = 0 → A = none ∧ c = 0 ∨ ∃ a, A = some a) (hpk : InI w PA pn pl) (hl : Laid w) :
    Calls Tryd.prog 6 #[.agg (pcC A m c fr tz di s), .slice PA pn pc] w fun e w' => e = .returned (.bool true) ∧ Below w.heap.size w w' := by
  obtain ⟨i0, hi0, hz0, hz1, hz2⟩ := info_parts infosy
  have hgo := good_any A m c fr tz di s
  obtain ⟨nu, ra, rb, rc, rd⟩ := s
  unfold pcC at hgo ⊢
  simp only [] at hgo ⊢
  obtain ⟨B, hB⟩ : ∃ B, w.heap.size = B := ⟨_, rfl⟩
  obtain ⟨w1, hw1⟩ : ∃ w1, w.alloc (.cells #[.slice A m c, .int .i64 fr, .int .i64 tz, .int .i64 di, .int .i64 nu, .int .i64 ra, .int .i64 rb, .int .i64 rc, .int .i64 rd] 45) = w1 := ⟨_, rfl⟩
  have hb1 : Below w.heap.size w w1 := by rw [← hw1]; exact (Below.refl _ _).alloc (Nat.le_refl _) _
  have hP1 : Blk w1 B 45 #[.slice A m c, .int .i64 fr, .int .i64 tz, .int .i64 di, .int .i64 nu, .int .i64 ra, .int .i64 rb, .int .i64 rc, .int .i64 rd] := by rw [← hw1]; exact Blk.new_at hB.symm
  obtain ⟨⟨c0, c1, c2, c3, c4, c5, c6, c7, c8⟩, _, _⟩ := hP1.nine
  have H1 := Lib.hid (And.intro hb1 hP1)
  have HG := Lib.hid (fun w => hgo w hmc)
  have HI := Lib.hid (And.intro h (And.intro hl h0))
  have HPk := Lib.hid hpk
  have HBe := Lib.hid hB
  clear h hl h0 hpk hb1 hP1 hgo
  go_enter Tryd.func6, Tryd.ntmps6
  go_wp2_with fail
  clear hw1 hB
  refine (HG.out w1).mono ?_
  rintro e w2 ⟨m', f, t, d, s', rfl, hgp, hb2⟩
  obtain ⟨n', a', b', c', d'⟩ := s'
  simp only []
  have hP2 := H1.out.2.below hb2
  obtain ⟨⟨x0, x1, x2, x3, x4, x5, x6, x7, x8⟩, ⟨f0, f1, f2, f3, f4, f5, f6, f7, f8⟩, fl⟩ := hP2.nine
  obtain ⟨w3, hw3⟩ : ∃ w3, ((((((((w2.setCell ⟨B, 0, none⟩ (.slice A m' c)).setCell ⟨B, 1, none⟩ (.int .i64 f)).setCell ⟨B, 2, none⟩ (.int .i64 t)).setCell ⟨B, 3, none⟩ (.int .i64 d)).setCell ⟨B, 4, none⟩ (.int .i64 n')).setCell ⟨B, 5, none⟩ (.int .i64 a')).setCell ⟨B, 6, none⟩ (.int .i64 b')).setCell ⟨B, 7, none⟩ (.int .i64 c')).setCell ⟨B, 8, none⟩ (.int .i64 d') = w3 := ⟨_, rfl⟩
  have hP3 := set9_q hP2 (.slice A m' c) (.int .i64 f) (.int .i64 t) (.int .i64 d) (.int .i64 n') (.int .i64 a') (.int .i64 b') (.int .i64 c') (.int .i64 d')
  have hB3 := set9_below (g := B) (bup H1.out.1 hb2) (by have := HBe.out; omega) (.slice A m' c) (.int .i64 f) (.int .i64 t) (.int .i64 d) (.int .i64 n') (.int .i64 a') (.int .i64 b') (.int .i64 c') (.int .i64 d')
  rw [hw3] at hP3 hB3
  obtain ⟨g1, g2, g3, g4, g5, g6⟩ := hgp
  have hIn : In w3 A m' (l.take m') := (HI.out.1.below hB3).take (by omega)
  have H3 := Lib.hid (And.intro hP3 (And.intro hB3 (And.intro hIn (And.intro g1 g6))))
  have hm6 : m' ≤ 600 := by omega
  have hmc' : m' ≤ c := by omega
  clear hb2 hP2 hP3 hB3 hIn g1 g6 HG H1
  go_upto_region 2 with (fail)
  try simp only [hw3]
  clear hw3 x0 x1 x2 x3 x4 x5 x6 x7 x8 f0 f1 f2 f3 f4 f5 f6 f7 f8 fl c0 c1 c2 c3 c4 c5 c6 c7 c8
  go_wp2_with fail
  refine (known16_any w3 (HI.out.2.1.below H3.out.2.1)).mono ?_
  rintro e w4 ⟨rfl, hb4⟩
  have H4 : Hid (Blk w4 B 45 #[.slice A m' c, .int .i64 f, .int .i64 t, .int .i64 d, .int .i64 n', .int .i64 a', .int .i64 b', .int .i64 c', .int .i64 d'] ∧ Below w.heap.size w w4 ∧ In w4 A m' (l.take m')) := ⟨H3.out.1.below hb4, bup H3.out.2.1 hb4, H3.out.2.2.1.below hb4⟩
  obtain ⟨⟨c0, c1, c2, c3, c4, c5, c6, c7, c8⟩, _, _⟩ := H4.out.1.nine
  have Hgr : Hid (m' = min m 600 ∧ (⟨n', a', b', c', d'⟩ : St).right) := H3.out.2.2.2
  clear hb4 H3
  obtain ⟨ld, hld⟩ : ∃ ld, l.take m' = ld := ⟨_, rfl⟩
  rw [hld] at H4
  have hst := path_steps ld t (d : Int) (t - f) f (Nat.le_refl _) g2
  have hPLe : pathGo (fun p => (planT ld t (d : Int) p).1) t (t - f) f = planL ld f t (d : Int) := rfl
  rw [hPLe] at hst
  have h00 : m' = 0 → A = none ∧ c = 0 ∨ ∃ a, A = some a := fun h => HI.out.2.2 (by have := Hgr.out.1; omega)
  have hdd : (1 : Int) ≤ (d : Int) ∧ (d : Int) ≤ 4294967295 := by omega
  have hpp := plan_price ld f t (d : Int) hdd.2 g2
  have hbd := planR_bd ld t (d : Int) (t - f) f
  have hpT : planR ld t (d : Int) (t - f) f = planT ld t (d : Int) f := rfl
  rw [hpT] at hbd
  obtain ⟨CS, CT, hc1, hc2, hc3⟩ := cheap_price ld t (d : Int) hdd.2 (planL ld f t (d : Int)) f ⟨n', a', b', c', d'⟩ 0 0 (Int.le_refl _) hst Hgr.out.2
  rw [hpp] at hc2
  have hcT : CT = (planT ld t (d : Int) f).2 := (congrArg Prod.fst hc2).symm
  subst hcT
  have hsl := steps_len hst
  have hcl := cheapS_len ld t (d : Int) (planL ld f t (d : Int)) f ⟨n', a', b', c', d'⟩
  have HOw : Hid (∀ own, stepsTo ld t (d : Int) f own t → ∃ S, prsGo 0 own = (S, 0) ∧ (planT ld t (d : Int) f).2 ≤ S) := fun own ho => by
    obtain ⟨S, h1, h2⟩ := steps_price ld t (d : Int) hdd.2 own f 0 (stepsTo_all ho)
    exact ⟨S, h1, by omega⟩
  obtain ⟨pr, hpr⟩ : ∃ pr, (planT ld t (d : Int) f).2 = pr := ⟨_, rfl⟩
  rw [hpr] at hpp hbd hc3 HOw
  have HCh := Lib.hid (fun W (hW : Below w4.heap.size w4 W) => Cheap_ok A m' c ld f t (d : Int) ⟨n', a', b', c', d'⟩ W (H4.out.2.2.below hW) h00 hmc' (by omega) g2 g3 hdd Hgr.out.2 (HI.out.2.1.below (bup H4.out.2.1 hW)))
  have HPl := Lib.hid (fun W (hW : Below w4.heap.size w4 W) => Plan_ok A m' c ld f t (d : Int) W (H4.out.2.2.below hW) h00 hmc' (by omega) g2 g3 hdd (HI.out.2.1.below (bup H4.out.2.1 hW)))
  obtain ⟨PL, hPL⟩ : ∃ PL, planL ld f t (d : Int) = PL := ⟨_, rfl⟩
  rw [hPL] at HCh HPl hpp hcl hsl hc1
  obtain ⟨⟨C1, C2⟩, hC⟩ : ∃ C, cheapS ld t (d : Int) f ⟨n', a', b', c', d'⟩ PL = C := ⟨_, rfl⟩
  rw [hC] at HCh hcl hc1
  simp only [] at HCh hcl hc1
  obtain ⟨en, ea, eb, ec, ed⟩ := C2
  simp only [St.v, stC] at HCh
  have Hpp := Lib.hid (And.intro hpp (And.intro hc1 hcl))
  have hl3' : PL.length ≤ 600 := by omega
  have hl2' : C1.length ≤ 600 := by omega
  have hprb : ¬ 9 * ((t : Int) - (f : Int)) < pr := by omega
  have hpr0 : 0 ≤ pr := hbd.1
  clear hst hPLe hpp hbd hpT hc1 hc2 hpr hPL hC hcl hsl
  go_wp2_with fail
  refine (HPl.out w4 (Below.refl _ _)).mono ?_
  rintro e w5 ⟨L3, lc3, rfl, ho3, hb5⟩
  have H5 := Lib.hid (And.intro hb5 (InS.of_own ho3 (by omega)))
  have HP1 := Lib.hid (Prices_any L3 PL.length lc3 PL w5 H5.out.2 (HI.out.2.1.below (bup H4.out.2.1 hb5)))
  rw [Hpp.out.1] at HP1
  clear ho3 hb5 HPl c0 c1 c2 c3 c4 c5 c6 c7 c8
  go_wp2_with fail
  refine HP1.out.mono ?_
  rintro e w6 ⟨rfl, hb6⟩
  have H6 := Lib.hid (And.intro (bup H5.out.1 hb6) (H5.out.2.below hb6))
  obtain ⟨⟨c0, c1, c2, c3, c4, c5, c6, c7, c8⟩, _, _⟩ := (H4.out.1.below H6.out.1).nine
  clear hb6 H5 HP1
  go_upto_region 8 with (fail)
  have HIn6 := Lib.hid (H4.out.2.2.below H6.out.1)
  have HC6 : Hid (∀ W : World, Below w6.heap.size w6 W → W.cell? ⟨B, 0, none⟩ = some (.slice A m' c) ∧ W.cell? ⟨B, 3, none⟩ = some (.int .i64 d)) := fun W hW => ⟨((H4.out.1.below H6.out.1).below hW).cell 0, ((H4.out.1.below H6.out.1).below hW).cell 3⟩
  go_region_held3 (fun w' => w'.cell? ⟨B, 0, none⟩ = some (.slice A m' c) ∧ w'.cell? ⟨B, 3, none⟩ = some (.int .i64 d))
    (first | (with_reducible exact ⟨c0, c3⟩) | (with_reducible exact ⟨p0, p3⟩) | (with_reducible exact ⟨q0, q3⟩) | go_keep)
    (first | (refine step_fresh rfl (.tmp 60) (.tmp 62) rfl w6.heap.size rfl (by simp [Act.eval, Act.put]) A m' c ld (by simp [Act.eval, Act.put]) HIn6.out ?_; intro a3 c3' w7 hF; have HF := Lib.hid hF; obtain ⟨p0, p3⟩ := HC6.out w7 hF.2; clear hF) | (go_at_call 28; refine (New_ok a3 m' c3' ld (d : Int) _ (In.of_own HF.out.1 (by omega)) (own_h0 HF.out.1) (own_le HF.out.1) (by omega) (by omega)).mono ?_; rintro en w8 ⟨q, rfl, hq1, hq2, hq3, hq4, hq5, hbq⟩; have hbq' : Below w7.heap.size w7 w8 := (by first | (with_reducible exact hbq) | (with_reducible exact bd1 hbq)); obtain ⟨q0, q3⟩ := HC6.out w8 (bup HF.out.2 hbq')))
  have hlt7 : B < q.L ∧ w4.heap.size ≤ q.L := by
    have h7 : q.L = w7.heap.size := hq3
    have h6 := HF.out.2.size
    have h5 := H6.out.1.size
    have h4 := (H4.out.1.below H6.out.1).lt
    omega
  have hlq : q.l.length = m' := by rw [hq1]; exact HIn6.out.len
  have hfs := hq5.fs
  have H8 : Hid (Fi q 0 w8 ∧ Below w4.heap.size w4 w8 ∧ q.T = w8.heap.size) := ⟨hq5, bup (bup H6.out.1 HF.out.2) hbq', hq4⟩
  have Hq : Hid (q.l = ld ∧ q.dict = (d : Int) ∧ q.l.length = m' ∧ B < q.L ∧ w4.heap.size ≤ q.L ∧ q.L ≤ q.fb ∧ q.fb < q.T) := ⟨hq1, hq2, hlq, hlt7.1, hlt7.2, hfs.1, hfs.2⟩
  obtain ⟨⟨x0, x1, x2, x3, x4, x5, x6, x7, x8⟩, _, _⟩ := (H4.out.1.below H8.out.2.1).nine
  clear c0 c1 c2 c3 c4 c5 c6 c7 c8 p0 p3 q0 q3 hq1 hq2 hq3 hq4 hq5 hbq hbq' hlt7 hlq hfs HF HC6 HIn6
  go_wp2_with fail
  refine (Skip_go q 0 f w8 H8.out.1 (by have := Hq.out.2.2.1; omega) (by have := Hq.out.2.2.1; omega)).mono ?_
  rintro e w9 ⟨rfl, hF9, hr9⟩
  rw [Nat.zero_add] at hF9
  have hb9 : Below w4.heap.size w4 w9 := H8.out.2.1.trans (hr9.below H8.out.2.1.size (fun g e => by obtain ⟨_, _, _, _, u1, u2, _⟩ := Hq.out; omega))
  obtain ⟨D, hD⟩ : ∃ D, w9.heap.size = D := ⟨_, rfl⟩
  have HD : Hid (q.T ≤ D ∧ w9.heap.size = D ∧ w4.heap.size ≤ D) := ⟨by have := H8.out.2.2; have := hr9.size; omega, hD, by have := hb9.size; omega⟩
  have H9 := Lib.hid (And.intro hF9 hb9)
  obtain ⟨⟨c0, c1, c2, c3, c4, c5, c6, c7, c8⟩, _, _⟩ := (H4.out.1.below hb9).nine
  clear x0 x1 x2 x3 x4 x5 x6 x7 x8 hF9 hr9 hb9 hD H8
  go_wp2_with fail
  go_loopw [11, 12] (fun s11 s12 wr => ∃ (p : Nat) (own : List Sy) (L : Option Addr) (lc : Nat), s11 = .slice L own.length lc ∧ s12 = .int .i64 (p : Int) ∧ p ≤ t ∧ Hid (stepsTo ld t (d : Int) f own p ∧ Fi q p wr ∧ wr.ownsRow D 24 4 (.slice L own.length lc) own.length (syc own) ∧ Below w4.heap.size w4 wr ∧ D ≤ wr.heap.size)) (fun _ s12 _ => t - (intOf s12).toNat)
  case atStart => exact ⟨f, [], none, 0, rfl, rfl, g2, rfl, H9.out.1, World.ownsRow_nil _ _ _ _, H9.out.2, by have := HD.out.2.1; omega⟩
  case round =>
    clear H9 c0 c1 c2 c3 c4 c5 c6 c7 c8
    obtain ⟨p, own, L, lc, rfl, rfl, hp, HI3⟩ := hrel
    obtain ⟨⟨c0, c1, c2, c3, c4, c5, c6, c7, c8⟩, _, cl⟩ := (H4.out.1.below HI3.out.2.2.2.1).nine
    have hol := stepsTo_len HI3.out.1
    by_cases hlt : p < t
    · have hlt' : (p : Int) < (t : Int) := by omega
      go_upto_region 14 with (fail)
      go_cut [13] (fun s13 wy => s13 = .int .i64 (own.length : Int) ∧ wy = wr)
      case first =>
        go_wp2_with fail
        go_meet
        exact ⟨rfl, rfl⟩
      obtain ⟨rfl, rfl⟩ := hcut
      obtain ⟨wv, rfl⟩ : ∃ wv : World, wv = wc := ⟨_, rfl⟩
      go_step
      go_step
      go_cut [13] (fun s13 wy => ∃ pk : Int, s13 = .int .i64 pk ∧ -9223372036854775808 ≤ pk ∧ pk ≤ 9223372036854775807 ∧ wy = wv)
      case first =>
        by_cases hpn : pn = 0
        · subst hpn
          go_wp2_with fail
          go_meet
          exact ⟨_, rfl, by omega, by omega, rfl⟩
        · have hpn' : (0 : Int) < (pn : Int) := by omega
          obtain ⟨k, hk⟩ : ∃ k, own.length % pn = k := ⟨_, rfl⟩
          have hkl := Nat.mod_lt own.length (show 0 < pn by omega)
          have hke : (own.length : Int) % (pn : Int) = (k : Int) := by rw [← hk]; rfl
          have hkl' : (k : Int) < (pn : Int) := by omega
          have hpne : ¬ (pn : Int) = 0 := by omega
          obtain ⟨b, off, x, hA1, _, hbw, z0, hx2, hx3⟩ := (inI_below HPk.out (bup H4.out.2.1 HI3.out.2.2.2.1)).2.2 k (by omega)
          subst hA1
          clear hk hkl
          go_wp2_with fail
          go_meet
          exact ⟨x, rfl, hx2, hx3, rfl⟩
      obtain ⟨pk, rfl, hk1, hk2, rfl⟩ := hcut
      obtain ⟨wv, rfl⟩ : ∃ wv : World, wv = wc := ⟨_, rfl⟩
      have HCo := choose_any A m' c ld f t d ⟨n', a', b', c', d'⟩ q p pk wv (H4.out.2.2.below HI3.out.2.2.2.1) hmc' hm6 HI3.out.2.1 Hq.out.1 Hq.out.2.1 hlt g3 ⟨g4, g5⟩ ⟨hk1, hk2⟩
      unfold pcC at HCo
      simp only [] at HCo
      have HCo := Lib.hid HCo
      go_wp2_with fail
      refine HCo.out.mono ?_
      clear HCo
      rintro e wa ⟨⟨yk, yy, yl, yx⟩, rfl, hpl, hyz, hba⟩
      have hyv : Sy.v ⟨yk, yy, yl, yx⟩ = .agg #[.int .i64 yk, .int .u8 (yy.toNat : Int), .int .i64 yl, .int .i64 yx] := rfl
      rw [hyv]
      clear hyv
      obtain ⟨wb, hwb⟩ : ∃ wb, wa.alloc (.cells #[.int .i64 yk, .int .u8 (yy.toNat : Int), .int .i64 yl, .int .i64 yx] 24) = wb := ⟨_, rfl⟩
      obtain ⟨Yb, hYb⟩ : ∃ Yb, wa.heap.size = Yb := ⟨_, rfl⟩
      have hbb : Below wv.heap.size wv wb := by rw [← hwb]; exact bmk hba _
      have hYB : Blk wb Yb 24 #[.int .i64 yk, .int .u8 (yy.toNat : Int), .int .i64 yl, .int .i64 yx] := by rw [← hwb]; exact Blk.new_at hYb.symm
      have hYr : wv.heap.size ≤ Yb := by rw [← hYb]; exact hba.size
      have Hb : Hid (Below w4.heap.size w4 wb ∧ Fi q p wb ∧ wb.ownsRow D 24 4 (.slice L own.length lc) own.length (syc own) ∧ Blk wb Yb 24 #[.int .i64 yk, .int .u8 (yy.toNat : Int), .int .i64 yl, .int .i64 yx] ∧ D ≤ wb.heap.size ∧ wv.heap.size ≤ Yb) := ⟨bup HI3.out.2.2.2.1 hbb, HI3.out.2.1.below hbb, own_below HI3.out.2.2.1 hbb, hYB, Nat.le_trans HI3.out.2.2.2.2 hbb.size, hYr⟩
      have Hpl := Lib.hid (And.intro hpl hyz)
      have Hs2 : Hid (stepsTo ld t (d : Int) f (own ++ [⟨yk, yy, yl, yx⟩]) (p + ysz ⟨yk, yy, yl, yx⟩)) := stepsTo_snoc HI3.out.1 hpl hyz
      have HO := Lib.hid HI3.out.2.2.1
      have hDw : D ≤ wb.heap.size := Hb.out.2.2.2.2.1
      obtain ⟨v0, v1, v2, v3⟩ := hYB.four
      clear hpl hbb hYB hYr hba HI3 c0 c1 c2 c3 c4 c5 c6 c7 c8 cl hk1 hk2
      go_upto_region 18 with (fail)
      clear hwb hYb
      go_upto_region 19 with (at_builtin; refine wpList_append_rd (w := wb.alloc (.cells #[.int .i64 yk, .int .u8 (yy.toNat : Int), .int .i64 yl, .int .i64 yx] 24)) rfl (.tmp 106) (.tmp 108) 22 rfl D 24 i0 _ 4 32 Tryd.underlying22 hi0 hz0 hz1 hz2 rfl (by decide) (.slice L own.length lc) own.length (syc own) rfl (Hb.out.2.2.1.alloc _) (some ⟨wb.heap.size, 0, none⟩) 1 1 (syc [⟨yk, yy, yl, yx⟩]) rfl (Rd.of_blk (Blk.new _ _ _) rfl rfl) (syc_one _) (by simp only [maxLen]; omega) (by omega) (by simp; omega) ?_; intro L2 lc2 we hown hg hat)
      have hFe : Fr (fun g => some g = (Value.slice L own.length lc).ownBlock) wb we := ((Fr.refl _ wb).alloc _).grown hg (fun g hg' => .inl hg'.symm)
      have hlo : ∀ g, some g = (Value.slice L own.length lc).ownBlock → D ≤ g ∧ g < wv.heap.size := fun g e => own_lt HO.out e.symm
      rw [← syc_append] at hown
      have He : Hid (Below w4.heap.size w4 we ∧ Fi q p we ∧ we.ownsRow D 24 4 (.slice L2 (own.length + 1) lc2) (own.length + 1) (syc (own ++ [⟨yk, yy, yl, yx⟩])) ∧ Blk we Yb 24 #[.int .i64 yk, .int .u8 (yy.toNat : Int), .int .i64 yl, .int .i64 yx] ∧ D ≤ we.heap.size) := by
        obtain ⟨b1, b2, b3, b4, b5, b6⟩ := Hb.out
        obtain ⟨u1, u2, u3⟩ := HD.out
        exact ⟨b1.trans (hFe.below b1.size (fun g e => by have := hlo _ e; omega)), b2.fr hFe (fun g h1 h2 e => by have := hlo _ e; omega), hown, b4.fr hFe (fun e => by have := hlo _ e; omega), Nat.le_trans b5 hFe.size⟩
      clear v0 v1 v2 v3 hFe hlo hown hg hat HO Hb hDw
      obtain ⟨v0, v1, v2, v3⟩ := He.out.2.2.2.1.four
      have hsz := szF_plan hdd.2 Hpl.out.1 Hpl.out.2
      have hzp := ysz_pos ⟨yk, yy, yl, yx⟩
      have hpz := Hpl.out.2
      obtain ⟨z, hz⟩ : ∃ z, ysz ⟨yk, yy, yl, yx⟩ = z := ⟨_, rfl⟩
      rw [hz] at hsz hzp hpz Hs2
      have HY : Hid (∀ W, Below w4.heap.size w4 W → Calls Tryd.prog 31 #[.agg #[.int .i64 yk, .int .u8 (yy.toNat : Int), .int .i64 yl, .int .i64 yx]] W fun e w' => e = .returned (.int .i64 (z : Int)) ∧ Below W.heap.size W w') := fun W hW => by
        have hy := YSize_any yk yl yx yy W (HI.out.2.1.below (bup H4.out.2.1 hW))
        rw [hsz] at hy
        exact hy
      clear hsz hz Hpl
      go_wp2_with fail
      refine (HY.out we He.out.1).mono ?_
      rintro e wf ⟨rfl, hbf⟩
      have Hf : Hid (Below w4.heap.size w4 wf ∧ Fi q p wf ∧ wf.ownsRow D 24 4 (.slice L2 (own.length + 1) lc2) (own.length + 1) (syc (own ++ [⟨yk, yy, yl, yx⟩])) ∧ D ≤ wf.heap.size) := ⟨bup He.out.1 hbf, He.out.2.1.below hbf, own_below He.out.2.2.1 hbf, Nat.le_trans He.out.2.2.2.2 hbf.size⟩
      have hzi : ¬ (z : Int) < 1 := by omega
      clear v0 v1 v2 v3 hbf He HY
      go_wp2_with fail
      refine (Skip_go q p z wf Hf.out.2.1 (by have := Hq.out.2.2.1; omega) (by have := Hq.out.2.2.1; omega)).mono ?_
      rintro e wk ⟨rfl, hFk, hrk⟩
      go_wp2_with fail
      go_roundw
      case rel =>
        obtain ⟨b1, b2, b3, b4⟩ := Hf.out
        obtain ⟨_, _, _, _, k1, k2, k3⟩ := Hq.out
        obtain ⟨u1, u2, u3⟩ := HD.out
        refine ⟨p + z, own ++ [⟨yk, yy, yl, yx⟩], L2, lc2, by rw [List.length_append]; rfl, by go_num, hpz, Hs2.out, hFk, ?_, b1.trans (hrk.below b1.size (fun g e => by omega)), Nat.le_trans b4 hrk.size⟩
        rw [List.length_append]
        exact own_fr b3 hrk (fun g hg e => by have := (own_lt b3 hg).1; omega)
      case measure => simp [intOf]; omega
    · have hge : ¬ (p : Int) < (t : Int) := by omega
      have hpt : p = t := by omega
      have hst := HI3.out.1
      rw [hpt] at hst
      obtain ⟨S, hS1, hS2⟩ := HOw.out own hst
      have HPr := Prices_any L own.length lc own wr (InS.of_own HI3.out.2.2.1 (by omega)) (HI.out.2.1.below (bup H4.out.2.1 HI3.out.2.2.2.1))
      rw [hS1] at HPr
      have HPr := Lib.hid HPr
      have Hbr := Lib.hid HI3.out.2.2.2.1
      clear hst hS1 hpt HI3 HOw HD
      go_wp2_with fail
      refine HPr.out.mono ?_
      clear HPr
      rintro e wx ⟨rfl, hbx⟩
      have Hbx := Lib.hid (bup Hbr.out hbx)
      clear c0 c1 c2 c3 c4 c5 c6 c7 c8 cl hbx Hbr
      obtain ⟨⟨c0, c1, c2, c3, c4, c5, c6, c7, c8⟩, _, _⟩ := (H4.out.1.below Hbx.out).nine
      go_wp2_with fail
      refine (HCh.out wx Hbx.out).mono ?_
      rintro e wq ⟨L5, lc5, rfl, ho5, hbq⟩
      obtain ⟨wz, hwz⟩ : ∃ wz, wq.alloc (.cells #[.int .i64 en, .int .i64 ea, .int .i64 eb, .int .i64 ec, .int .i64 ed] 37) = wz := ⟨_, rfl⟩
      have hbz : Below wq.heap.size wq wz := by rw [← hwz]; exact (Below.refl _ _).alloc (Nat.le_refl _) _
      have Hbz := Lib.hid (bup (bup Hbx.out hbq) hbz)
      have HP2 := Prices_any L5 PL.length lc5 C1 wz (InS.of_own (own_below ho5 hbz) (by omega)) (HI.out.2.1.below (bup H4.out.2.1 Hbz.out))
      rw [Hpp.out.2.1] at HP2
      have HP2 := Lib.hid HP2
      clear c0 c1 c2 c3 c4 c5 c6 c7 c8 hbz hbq ho5 HCh Hbx
      go_wp2_with fail
      clear hwz
      refine HP2.out.mono ?_
      clear HP2
      rintro e wy ⟨rfl, hby⟩
      go_wp2_with fail
      refine bodyPost_ret (v := .bool true) (by simp [results, Tryd.results6, go_sem, Act.put, *]) rfl ?_
      exact ⟨rfl, bup (bup H4.out.2.1 Hbz.out) hby⟩
end Go.Proofs.YthlflcnpmabmbaaDoor
