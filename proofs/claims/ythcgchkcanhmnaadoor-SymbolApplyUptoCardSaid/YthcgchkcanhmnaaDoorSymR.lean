
/-
  Walk of the law's right: the symbols that are taken, and their bytes. Conditions: the symbols lie in memory; the tables as Laid says.
-/
import Derived.Test.YthcgchkcanhmnaaDoorSymP
namespace Go.Proofs.YthcgchkcanhmnaaDoor
open Go.RowKit

structure RgRel (w wr : World) (size S b : Nat) (r' : Option Nat) (s : St) (all : List UInt8) (row : List Sy) (A : Option Addr) (c : Nat) (R : Option Addr) (rc : Nat) : Prop where
  st : Blk wr S 39 (stC s.n s.a s.b s.c s.d)
  win : Win wr w.heap.size b r' size all
  own : wr.ownsRow w.heap.size 5 1 (.slice A all.length c) all.length (bys all)
  rown : wr.ownsRow w.heap.size 38 4 (.slice R row.length rc) row.length (syc row)
  below : Below w.heap.size w wr
  base : w.heap.size ≤ S
  ne : ∀ g, (Value.slice A all.length c).ownBlock = some g → r' ≠ some g
/-- what a round leaves that changes new memory alone, or the window -/
theorem RgRel.applied {w wr w1 w2 : World} {size S b : Nat} {r' r2 : Option Nat} {s : St} {all bs : List UInt8} {row : List Sy} {A R A1 : Option Addr} {c rc c1 : Nat} (h : RgRel w wr size S b r' s all row A c R rc)
    (hb : Below wr.heap.size wr w1) (hW : Win w2 w.heap.size b r2 size (all ++ bs)) (hO : w2.ownsRow w1.heap.size 5 1 (.slice A1 bs.length c1) bs.length (bys bs)) (hF : Fr (fun k => k = b ∨ some k = r') w1 w2)
    (hA : ∀ g, r2 = some g → r' = some g ∨ w1.heap.size ≤ g) :
    Blk w2 S 39 (stC s.n s.a s.b s.c s.d) ∧ w2.ownsRow w.heap.size 5 1 (.slice A all.length c) all.length (bys all) ∧ w2.ownsRow w.heap.size 38 4 (.slice R row.length rc) row.length (syc row) ∧ Below w.heap.size w w2 ∧
      (∀ g, (Value.slice A all.length c).ownBlock = some g → r2 ≠ some g) := by
  have hbl := h.win.lt.1
  have hrl := h.win.lt.2
  have hSl := h.st.lt
  have hSb : S ≠ b := (show BT wr S 39 from ⟨_, h.st⟩).ne h.win.bt.1 (by decide)
  have hSr : ∀ g, r' = some g → S ≠ g := fun g hg => (show BT wr S 39 from ⟨_, h.st⟩).ne (h.win.bt.2 g hg) (by decide)
  have hs1 := hb.size
  refine ⟨(h.st.below hb).same (hF.block S (by omega) (by
      rintro (e | e)
      · exact hSb e
      · exact hSr _ e.symm rfl)), own_same (own_below h.own hb) (fun g hg => hF.block g (by have := (own_lt h.own hg).2; omega) (by
      rintro (e | e)
      · exact (own_bt h.own hg).ne h.win.bt.1 (by decide) e
      · exact h.ne g hg e.symm)), own_same (own_below h.rown hb) (fun g hg => hF.block g (by have := (own_lt h.rown hg).2; omega) (by
      rintro (e | e)
      · exact (own_bt h.rown hg).ne h.win.bt.1 (by decide) e
      · exact (own_bt h.rown hg).ne (h.win.bt.2 g e.symm) (by decide) rfl)), ?_, ?_⟩
  · have f1 : Fr (fun k => w.heap.size ≤ k) w wr := Fr.of_below h.below
    have f2 : Fr (fun k => w.heap.size ≤ k) w w2 := (f1.of_below' hb).trans' hF (fun i hi hx => by
      rcases hx with hx | hx
      · have := h.win.base; omega
      · exact (hrl i hx.symm).1)
    exact f2.below (Nat.le_refl _) (fun k hk => hk)
  · intro g hg e
    rcases hA g e with h1 | h1
    · exact h.ne g hg h1
    · have := (own_lt h.own hg).2; omega
theorem own_grown2 {w w5 : World} {B B' e e' size size' n n' : Nat} {v v' : Value} {xs xs' : List Value} {o : Obj} (h : w.ownsRow B e size v n xs) (h' : w.ownsRow B' e' size' v' n' xs') (hg : (w.alloc o).grownBy w5 v'.ownBlock) (hne : e ≠ e') : w5.ownsRow B e size v n xs :=
  own_same h fun g hgg => (hg.block g (by have := (own_lt h hgg).2; simp only [World.size_alloc]; omega) (fun e => (own_bt h hgg).ne (own_bt h' e.symm) hne rfl)).trans (Below.heap_alloc _ _ _ (own_lt h hgg).2)
theorem RgRel.grow {w w4 w5 w6 : World} {size S b n2 rc2 m2 c2 : Nat} {r2 : Option Nat} {t : St} {all all2 : List UInt8} {row row2 : List Sy} {A R A2 R2 : Option Addr} {c rc : Nat} (o : Obj)
    (hS : Blk w4 S 39 (stC t.n t.a t.b t.c t.d)) (hW : Win w4 w.heap.size b r2 size all2) (hown : w4.ownsRow w.heap.size 5 1 (.slice A all.length c) all.length (bys all)) (hrow : w4.ownsRow w.heap.size 38 4 (.slice R row.length rc) row.length (syc row))
    (hbel : Below w.heap.size w w4) (hne : ∀ g, (Value.slice A all.length c).ownBlock = some g → r2 ≠ some g)
    (h5 : w5.ownsRow w.heap.size 38 4 (.slice R2 n2 rc2) n2 (syc row2)) (hg5 : (w4.alloc o).grownBy w5 (Value.slice R row.length rc).ownBlock)
    (hg6 : w5.grownBy w6 (Value.slice A all.length c).ownBlock)
    (hat : (Value.slice A2 m2 c2).ownBlock = (Value.slice A all.length c).ownBlock ∨ (Value.slice A2 m2 c2).ownBlock = some w5.heap.size) :
    Blk w6 S 39 (stC t.n t.a t.b t.c t.d) ∧ Win w6 w.heap.size b r2 size all2 ∧ w6.ownsRow w.heap.size 38 4 (.slice R2 n2 rc2) n2 (syc row2) ∧ Below w.heap.size w w6 ∧ (∀ g, (Value.slice A2 m2 c2).ownBlock = some g → r2 ≠ some g) := by
  have hs5 := hg5.size
  simp only [World.size_alloc] at hs5
  have hR : ∀ g t' cs, Blk w4 g t' cs → 38 ≠ t' → some g ≠ (Value.slice R row.length rc).ownBlock := fun g t' cs hb hn => own_ne hrow hb hn
  have hA : ∀ g t' cs, Blk w4 g t' cs → 5 ≠ t' → some g ≠ (Value.slice A all.length c).ownBlock := fun g t' cs hb hn => own_ne hown hb hn
  have k5 : ∀ g, g < w4.heap.size → some g ≠ (Value.slice R row.length rc).ownBlock → w5.heap[g]? = w4.heap[g]? := fun g hg hn => (hg5.block g (by simp only [World.size_alloc]; omega) hn).trans (Below.heap_alloc _ _ _ hg)
  have k6 : ∀ g, g < w4.heap.size → some g ≠ (Value.slice R row.length rc).ownBlock → some g ≠ (Value.slice A all.length c).ownBlock → w6.heap[g]? = w4.heap[g]? := fun g hg h1 h2 => (hg6.block g (by omega) h2).trans (k5 g hg h1)
  have hrt : ∀ g, r2 = some g → some g ≠ (Value.slice R row.length rc).ownBlock := fun g hg e => (own_bt hrow e.symm).ne (hW.bt.2 g hg) (by decide) rfl
  have hbR : some b ≠ (Value.slice R row.length rc).ownBlock := fun e => (own_bt hrow e.symm).ne hW.bt.1 (by decide) rfl
  have hbA : some b ≠ (Value.slice A all.length c).ownBlock := fun e => (own_bt hown e.symm).ne hW.bt.1 (by decide) rfl
  refine ⟨hS.same (k6 S hS.lt (hR _ _ _ hS (by decide)) (hA _ _ _ hS (by decide))), hW.keep (k6 b hW.lt.1 hbR hbA) (fun g hg => k6 g (hW.lt.2 g hg).2 (hrt g hg) (fun e => hne g e.symm hg)), own_same h5 (fun g hg => hg6.block g (own_lt h5 hg).2 (fun e => ?_)), ?_, ?_⟩
  · have hb1 : BT w5 g 38 := own_bt h5 hg
    have hgA := own_lt hown e.symm
    obtain ⟨cs, hcs⟩ := own_bt hown e.symm
    have hgR : some g ≠ (Value.slice R row.length rc).ownBlock := hR _ _ _ hcs (by decide)
    exact hb1.ne ⟨cs, hcs.same (k5 g hgA.2 hgR)⟩ (by decide) rfl
  · exact ((hbel.alloc hbel.size o).grown hg5 (by have := hbel.size; simp only [World.size_alloc]; omega) (fun g hg => (own_lt hrow hg).1)).grown hg6 (by have := hbel.size; omega) (fun g hg => (own_lt hown hg).1)
  · intro g hg e
    rcases hat with h | h
    · rw [h] at hg
      exact hne g hg e
    · rw [h] at hg
      injection hg with hg
      have := (hW.lt.2 g e).2
      omega
def RgPost (p : St × List UInt8 × List Sy) (w : World) (en : Ending) (w' : World) : Prop :=
  ∃ R rc A c, en = .returned (.tuple #[.slice R p.2.2.length rc, .slice A p.2.1.length c, .bool true]) ∧ w'.ownsRow w.heap.size 38 4 (.slice R p.2.2.length rc) p.2.2.length (syc p.2.2) ∧
    w'.ownsRow w.heap.size 5 1 (.slice A p.2.1.length c) p.2.1.length (bys p.2.1) ∧ Below w.heap.size w w'
set_option maxHeartbeats 4000000 in
set_option maxRecDepth 100000 in
theorem Right_yes (size : Nat) (A : Option Addr) (m mc : Nat) (l : List Sy) (w : World) (hI : InS w A m l) (hl : Laid w) (h1 : 1 ≤ size) (h2 : size ≤ 4294967295) :
    Calls Tryd.prog 24 #[.int .i64 (size : Int), .slice A m mc] w (RgPost (rgo size St.start [] [] l) w) := by
  obtain ⟨i0, hi0, hz0, hz1, hz2⟩ := info_parts infou8
  obtain ⟨j0, hj0, jz0, jz1, jz2⟩ := info_parts infosy
  have hlen := hI.len
  have hm := hI.2.2
  go_enter Tryd.func24, Tryd.ntmps24
  go_wp2_with fail
  refine (New_yes size w h1 h2).mono ?_
  rintro e w0 ⟨rfl, hW0, hB0, hs0⟩
  go_wp2_with fail
  refine (New_any w0).mono ?_
  rintro e w1 ⟨rfl, hB1⟩
  unfold stV
  have hR0 : RgRel w (w1.alloc (.cells (stC 0 1 1 1 1) 39)) size w1.heap.size w.heap.size none St.start [] [] none 0 none 0 :=
    ⟨Blk.new _ _ _, (hW0.below hB1).below ((Below.refl _ _).alloc (Nat.le_refl _) _), World.ownsRow_nil _ _ _ _, World.ownsRow_nil _ _ _ _, bmk (bup hB0 hB1) _, (bup hB0 hB1).size, fun g hg => by cases hg⟩
  obtain ⟨S, hS⟩ : ∃ S, w1.heap.size = S := ⟨_, rfl⟩
  rw [hS] at hR0
  have H := Lib.hid hR0
  have HE : Hid (rgo size St.start [] [] l = rgo size St.start [] [] (l.drop 0)) := rfl
  have Hlen := Lib.hid hlen
  go_wp2_with fail
  clear hR0 hS hW0 hB0 hs0 hB1 hlen
  go_loopw [31, 10, 11] (fun s31 s10 s11 wr => ∃ (i : Nat) (s : St) (all : List UInt8) (row : List Sy) (A' : Option Addr) (cp : Nat) (R : Option Addr) (rc : Nat) (r' : Option Nat), s31 = .int .i64 (i : Int) ∧ i ≤ m ∧ s10 = .slice R row.length rc ∧ s11 = .slice A' all.length cp ∧ all.length ≤ i * 273 ∧ row.length ≤ i ∧ Hid (rgo size St.start [] [] l = rgo size s all row (l.drop i)) ∧ Hid (RgRel w wr size S w.heap.size r' s all row A' cp R rc)) (fun s31 _ _ _ => m - (intOf s31).toNat)
  case atStart => exact ⟨0, St.start, [], [], none, 0, none, 0, none, rfl, Nat.zero_le _, rfl, rfl, by simp, by simp, HE, H⟩
  case round =>
    clear H HE
    obtain ⟨i, s, all, row, A', cp, R, rc, r', rfl, hi, rfl, rfl, hal, hrl, HE, H⟩ := hrel
    by_cases him : i < m
    · have him' : (i : Int) < (m : Int) := by omega
      have hIr : InS wr A m l := hI.below H.out.below
      obtain ⟨yb, yo, y, rfl, hy, hyb, y0, y1, y2, y3⟩ := hIr.at him
      rw [← Nat.add_assoc] at y1 y2 y3
      have HE1 : Hid (rgo size St.start [] [] l = if apE size all s y = 0 then rgo size (apS size all s y) (all ++ apB size all s y) (row ++ [y]) (l.drop (i + 1)) else rgo size s all row (l.drop (i + 1))) := by
        have := HE.out
        rw [List.drop_eq_getElem_cons (by have := Hlen.out; omega)] at this
        have hyi : l[i]'(by have := Hlen.out; omega) = y := by
          have := (List.getElem?_eq_some_iff.1 hy)
          exact this.2
        rw [hyi] at this
        exact this
      clear HE hy hIr
      obtain ⟨n, a, b, c, d⟩ := s
      obtain ⟨k, z, yl, x⟩ := y
      simp only [] at y0 y1 y2 y3
      obtain ⟨⟨s0, s1, s2, s3, s4⟩, ⟨f0, f1, f2, f3, f4⟩⟩ := st_five H.out.st
      have hSl := H.out.st.lt
      go_wp2_with fail
      refine (Apply_sp w.heap.size w.heap.size size r' all n a b c d k yl x z _ (H.out.win.below ((Below.refl _ _).alloc (Nat.le_refl _) _)) ((hl.below H.out.below).below ((Below.refl _ _).alloc (Nat.le_refl _) _)) (by omega)).mono ?_
      rintro e w2 ⟨A1, c1, r2, rfl, hW2, hO2, hF2, hA2, hN2⟩
      have hwy := (Blk.new wr 38 #[.int .i64 k, .int .u8 (z.toNat : Int), .int .i64 yl, .int .i64 x])
      have hwy2 : Blk w2 wr.heap.size 38 #[.int .i64 k, .int .u8 (z.toNat : Int), .int .i64 yl, .int .i64 x] := hwy.same (hF2.block _ hwy.lt (by
        have h1 := H.out.win.lt.1
        have h2 := H.out.win.lt.2
        rintro (e | e)
        · omega
        · have := (h2 _ e.symm).2; omega))
      obtain ⟨y0, y1, y2, y3⟩ : w2.cell? ⟨wr.heap.size, 0, none⟩ = some (.int .i64 k) ∧ w2.cell? ⟨wr.heap.size, 1, none⟩ = some (.int .u8 (z.toNat : Int)) ∧ w2.cell? ⟨wr.heap.size, 2, none⟩ = some (.int .i64 yl) ∧ w2.cell? ⟨wr.heap.size, 3, none⟩ = some (.int .i64 x) := hwy2.four
      obtain ⟨hS2, hown2, hrown2, hbel2, hne2⟩ := H.out.applied ((Below.refl _ _).alloc (Nat.le_refl _) _) hW2 hO2 hF2 hA2
      obtain ⟨t, ht⟩ : ∃ t, apS size all ⟨n, a, b, c, d⟩ ⟨k, z, yl, x⟩ = t := ⟨_, rfl⟩
      obtain ⟨f, hf⟩ : ∃ f, apE size all ⟨n, a, b, c, d⟩ ⟨k, z, yl, x⟩ = f := ⟨_, rfl⟩
      have hb273 := apB_len size all ⟨n, a, b, c, d⟩ ⟨k, z, yl, x⟩
      have hnil : ¬ f = 0 → apB size all ⟨n, a, b, c, d⟩ ⟨k, z, yl, x⟩ = [] := fun h => by unfold apB; rw [if_neg (by rw [hf]; exact h)]
      obtain ⟨bs, hbs⟩ : ∃ bs, apB size all ⟨n, a, b, c, d⟩ ⟨k, z, yl, x⟩ = bs := ⟨_, rfl⟩
      rw [ht, hf, hbs] at HE1
      rw [hbs] at hW2 hO2 hN2 hb273 hnil ⊢
      rw [ht, hf]
      clear ht hf hbs
      obtain ⟨n', a', b', c', d'⟩ := t
      simp only []
      have hSl2 := hS2.lt
      have hyl2 := hwy2.lt
      have HW2 := Lib.hid hW2
      have HO2 := Lib.hid hO2
      have HOWN := Lib.hid hown2
      have HROW := Lib.hid hrown2
      have HBEL := Lib.hid hbel2
      have HNE := Lib.hid hne2
      have HN2 := Lib.hid hN2
      have HS2 := Lib.hid hS2
      have Hnil := Lib.hid hnil
      have Hbase := Lib.hid H.out.base
      have hSlr : S < wr.heap.size := hSl
      clear s0 s1 s2 s3 s4 f0 f1 f2 f3 f4 hW2 hO2 hF2 hA2 hN2 hS2 hown2 hrown2 hbel2 hne2 hnil hwy hwy2 hSl
      by_cases hf0 : f = 0
      · subst hf0
        have HE2 : Hid (rgo size St.start [] [] l = rgo size ⟨n', a', b', c', d'⟩ (all ++ bs) (row ++ [⟨k, z, yl, x⟩]) (l.drop (i + 1))) := by
          have := HE1.out
          rw [if_pos rfl] at this
          exact this
        clear HE1 H
        obtain ⟨⟨s0, s1, s2, s3, s4⟩, ⟨f0, f1, f2, f3, f4⟩⟩ := st_five HS2.out
        go_upto_region 13 with (fail)
        have hF4 : Fr (fun k => k = S) w2 ((((((w2.setCell ⟨S, 0, none⟩ (.int .i64 n')).setCell ⟨S, 1, none⟩ (.int .i64 a')).setCell ⟨S, 2, none⟩ (.int .i64 b')).setCell ⟨S, 3, none⟩ (.int .i64 c')).setCell ⟨S, 4, none⟩ (.int .i64 d')).alloc (.cells #[.int .i64 n', .int .i64 a', .int .i64 b', .int .i64 c', .int .i64 d'] 39)) := (fr5 S w2 _ _ _ _ _).alloc _
        have hS4 := (set5_st HS2.out n' a' b' c' d').alloc (.cells #[.int .i64 n', .int .i64 a', .int .i64 b', .int .i64 c', .int .i64 d'] 39)
        obtain ⟨w4, hw4⟩ : ∃ w4, ((((((w2.setCell ⟨S, 0, none⟩ (.int .i64 n')).setCell ⟨S, 1, none⟩ (.int .i64 a')).setCell ⟨S, 2, none⟩ (.int .i64 b')).setCell ⟨S, 3, none⟩ (.int .i64 c')).setCell ⟨S, 4, none⟩ (.int .i64 d')).alloc (.cells #[.int .i64 n', .int .i64 a', .int .i64 b', .int .i64 c', .int .i64 d'] 39)) = w4 := ⟨_, rfl⟩
        rw [hw4] at hF4 hS4 ⊢
        have hSb : S ≠ w.heap.size := (show BT w2 S 39 from ⟨_, HS2.out⟩).ne HW2.out.bt.1 (by decide)
        have HW4 := Lib.hid (HW2.out.fr hF4 (fun e => hSb e.symm) (fun g hg e => (show BT w2 S 39 from ⟨_, HS2.out⟩).ne (HW2.out.bt.2 g hg) (by decide) e.symm))
        have HO4 := Lib.hid (own_fr HOWN.out hF4 (fun g hg e => own_ne HOWN.out HS2.out (by decide) (by rw [hg, e])))
        have HRo4 := Lib.hid (own_fr HROW.out hF4 (fun g hg e => own_ne HROW.out HS2.out (by decide) (by rw [hg, e])))
        have HB4 := Lib.hid (own_fr HO2.out hF4 (fun g hg e => by have := (own_lt HO2.out hg).1; simp only [World.size_alloc] at this; omega))
        have HBel4 : Hid (Below w.heap.size w w4) := ((Fr.of_below (S := fun k => w.heap.size ≤ k) HBEL.out).trans' hF4 (fun i hi e => by have := Hbase.out; omega)).below (Nat.le_refl _) (fun k hk => hk)
        have hs4 : w.heap.size ≤ w4.heap.size := HBel4.out.size
        have HS4 := Lib.hid hS4
        have y0 := (hF4.cell (p := ⟨wr.heap.size, 0, none⟩) hyl2 (fun e => by have : wr.heap.size = S := e; omega)).trans y0
        have y1 := (hF4.cell (p := ⟨wr.heap.size, 1, none⟩) hyl2 (fun e => by have : wr.heap.size = S := e; omega)).trans y1
        have y2 := (hF4.cell (p := ⟨wr.heap.size, 2, none⟩) hyl2 (fun e => by have : wr.heap.size = S := e; omega)).trans y2
        have y3 := (hF4.cell (p := ⟨wr.heap.size, 3, none⟩) hyl2 (fun e => by have : wr.heap.size = S := e; omega)).trans y3
        clear hw4 hF4 hS4 s0 s1 s2 s3 s4 f0 f1 f2 f3 f4
        go_wp2_with (first | (at_builtin; refine wpList_append_rd (w := w4.alloc (.cells #[.int .i64 k, .int .u8 (z.toNat : Int), .int .i64 yl, .int .i64 x] 38)) rfl (.tmp 46) (.tmp 48) 24 rfl w.heap.size 38 j0 _ 4 32 Tryd.underlying24 hj0 jz0 jz1 jz2 rfl (by decide) (.slice R row.length rc) row.length (syc row) rfl (HRo4.out.alloc _) (some ⟨w4.heap.size, 0, none⟩) 1 1 (syc [⟨k, z, yl, x⟩]) rfl (Rd.of_blk (Blk.new _ _ _) rfl rfl) (syc_one _) (by simp only [maxLen]; omega) (by omega) (by simp; omega) ?_; intro R2 rc2 w5 hown5 hg5 hat5; have hs5 : w.heap.size ≤ w5.heap.size := Nat.le_trans (Nat.le_trans hs4 (by simp)) hg5.size; have HO5 := Lib.hid (own_grown2 HO4.out HRo4.out hg5 (by decide)); have HB5 := Lib.hid (own_grown2 HB4.out HRo4.out hg5 (by decide)); have H5 := Lib.hid hown5; have HG5 := Lib.hid hg5; clear hown5 hg5 hat5) | (at_builtin; refine wpList_append_rd (w := w5) rfl (.tmp 50) (.tmp 51) 23 rfl w.heap.size 5 i0 _ 1 1 Tryd.underlying23 hi0 hz0 hz1 hz2 rfl (by decide) (.slice A' all.length cp) all.length (bys all) rfl HO5.out A1 bs.length c1 (bys bs) rfl (Rd.of_own HB5.out) (bys_one _) (by simp only [maxLen]; omega) (by omega) hs5 ?_; intro A2 c2 w6 hown6 hg6 hat6))
        go_roundw
        case rel =>
          obtain ⟨q1, q2, q3, q4, q5⟩ := RgRel.grow (t := ⟨n', a', b', c', d'⟩) _ HS4.out HW4.out HO4.out HRo4.out HBel4.out HNE.out (row2 := row ++ [⟨k, z, yl, x⟩]) (by rw [syc_append]; exact H5.out) HG5.out hg6 hat6
          refine ⟨i + 1, ⟨n', a', b', c', d'⟩, all ++ bs, row ++ [⟨k, z, yl, x⟩], A2, c2, R2, rc2, r2, by go_num, by omega, by rw [List.length_append]; rfl, by rw [List.length_append], by rw [List.length_append]; omega, by rw [List.length_append]; simp; omega, HE2, ?_⟩
          exact ⟨q1, q2, by rw [bys_append, List.length_append]; exact hown6, by rw [List.length_append]; exact q3, q4, Hbase.out, by rw [List.length_append]; exact q5⟩
        case measure => simp [intOf]; omega
      · have hf1 : (f == 0) = false := beq_eq_false_iff_ne.2 hf0
        have HE2 : Hid (rgo size St.start [] [] l = rgo size ⟨n, a, b, c, d⟩ all row (l.drop (i + 1))) := by
          have := HE1.out
          rw [if_neg hf0] at this
          exact this
        obtain rfl := Hnil.out hf0
        clear hb273
        have hal2 : all.length ≤ (i + 1) * 273 := by omega
        have Hf0 := Lib.hid hf0
        clear HE1 hf0
        go_wp2_with fail
        go_roundw
        case rel =>
          refine ⟨i + 1, ⟨n, a, b, c, d⟩, all, row, A', cp, R, rc, r2, by go_num, by omega, rfl, rfl, hal2, by omega, HE2, ?_⟩
          have hB3 : Below w2.heap.size w2 (w2.alloc (.cells (stC n' a' b' c' d') 39)) := (Below.refl _ _).alloc (Nat.le_refl _) _
          have hW3 := HW2.out
          rw [List.append_nil] at hW3
          exact ⟨HS2.out.below hB3, hW3.below hB3, own_below HOWN.out hB3, own_below HROW.out hB3, bup HBEL.out hB3, Hbase.out, HNE.out⟩
        case measure => simp [intOf]; omega
    · obtain rfl : i = m := by omega
      have HE2 : Hid (rgo size St.start [] [] l = (s, all, row)) := by
        have := HE.out
        rw [List.drop_of_length_le (by have := Hlen.out; omega)] at this
        exact this
      clear HE
      go_wp2_with fail
      refine bodyPost_ret (v := .tuple #[.slice R row.length rc, .slice A' all.length cp, .bool true]) (by simp [results, Tryd.results24, go_sem, *]) rfl ?_
      rw [HE2.out]
      exact ⟨R, rc, A', cp, rfl, H.out.rown, H.out.own, H.out.below⟩
end Go.Proofs.YthcgchkcanhmnaaDoor
