
/-
  Walk of symbol.Expand: its answer is the plain fold's over Apply's plain functions. Conditions: the symbols lie in memory; the tables as Laid says.
-/
import Derived.Test.YthcgchkcanhmnaaDoorSymB
import Derived.Outline
namespace Go.Proofs.YthcgchkcanhmnaaDoor
open Go.RowKit

def exGo (size : Nat) : Nat → St → List UInt8 → List Sy → List UInt8 × Nat × Int
  | i, _, all, [] => (all, i, 0)
  | i, s, all, y :: r => if apE size all s y = 0 then exGo size (i + 1) (apS size all s y) (all ++ apB size all s y) r else ([], i, apE size all s y)
structure ExRel (w wr : World) (size S b : Nat) (r' : Option Nat) (s : St) (all : List UInt8) (A : Option Addr) (c : Nat) : Prop where
  st : Blk wr S 39 (stC s.n s.a s.b s.c s.d)
  win : Win wr w.heap.size b r' size all
  own : wr.ownsRow w.heap.size 5 1 (.slice A all.length c) all.length (bys all)
  below : Below w.heap.size w wr
  base : w.heap.size ≤ S
  ne : ∀ g, (Value.slice A all.length c).ownBlock = some g → r' ≠ some g
theorem st_five {w : World} {g t : Nat} {n a b c d : Int} (h : Blk w g t (stC n a b c d)) : (w.cell? ⟨g, 0, none⟩ = some (.int .i64 n) ∧ w.cell? ⟨g, 1, none⟩ = some (.int .i64 a) ∧ w.cell? ⟨g, 2, none⟩ = some (.int .i64 b) ∧ w.cell? ⟨g, 3, none⟩ = some (.int .i64 c) ∧ w.cell? ⟨g, 4, none⟩ = some (.int .i64 d)) ∧
    (w.frozen? ⟨g, 0, none⟩ = false ∧ w.frozen? ⟨g, 1, none⟩ = false ∧ w.frozen? ⟨g, 2, none⟩ = false ∧ w.frozen? ⟨g, 3, none⟩ = false ∧ w.frozen? ⟨g, 4, none⟩ = false) := ⟨⟨h.cell 0, h.cell 1, h.cell 2, h.cell 3, h.cell 4⟩, ⟨h.frozen 0, h.frozen 1, h.frozen 2, h.frozen 3, h.frozen 4⟩⟩
theorem set5_st {w : World} {g t : Nat} {n a b c d : Int} (h : Blk w g t (stC n a b c d)) (n' a' b' c' d' : Int) :
    Blk (((((w.setCell ⟨g, 0, none⟩ (.int .i64 n')).setCell ⟨g, 1, none⟩ (.int .i64 a')).setCell ⟨g, 2, none⟩ (.int .i64 b')).setCell ⟨g, 3, none⟩ (.int .i64 c')).setCell ⟨g, 4, none⟩ (.int .i64 d')) g t (stC n' a' b' c' d') :=
  ((((h.set_ 0 _).set_ 1 _).set_ 2 _).set_ 3 _).set_ 4 _
theorem set5_fr (w : World) (g : Nat) (n' a' b' c' d' : Int) :
    Fr (fun k => k = g) w (((((w.setCell ⟨g, 0, none⟩ (.int .i64 n')).setCell ⟨g, 1, none⟩ (.int .i64 a')).setCell ⟨g, 2, none⟩ (.int .i64 b')).setCell ⟨g, 3, none⟩ (.int .i64 c')).setCell ⟨g, 4, none⟩ (.int .i64 d')) := fr5 g w _ _ _ _ _
/-- a round that was taken -/
theorem ExRel.step {w wr w1 w2 w4 w5 : World} {size S b : Nat} {r' r2 : Option Nat} {s t : St} {all bs : List UInt8} {A A1 A2 : Option Addr} {c c1 c2 : Nat} (h : ExRel w wr size S b r' s all A c)
    (hb : Below wr.heap.size wr w1) (hW : Win w2 w.heap.size b r2 size (all ++ bs)) (hO : w2.ownsRow w1.heap.size 5 1 (.slice A1 bs.length c1) bs.length (bys bs)) (hF : Fr (fun k => k = b ∨ some k = r') w1 w2)
    (hA : ∀ g, r2 = some g → r' = some g ∨ w1.heap.size ≤ g) (hN : ∀ g, (Value.slice A1 bs.length c1).ownBlock = some g → r2 ≠ some g)
    (hF4 : Fr (fun k => k = S) w2 w4) (hS4 : Blk w4 S 39 (stC t.n t.a t.b t.c t.d))
    (hO5 : w5.ownsRow w.heap.size 5 1 (.slice A2 (all.length + bs.length) c2) (all.length + bs.length) (bys all ++ bys bs)) (hg : w4.grownBy w5 (Value.slice A all.length c).ownBlock)
    (hat : (Value.slice A2 (all.length + bs.length) c2).ownBlock = (Value.slice A all.length c).ownBlock ∨ (Value.slice A2 (all.length + bs.length) c2).ownBlock = some w4.heap.size) :
    ExRel w w5 size S b r2 t (all ++ bs) A2 c2 := by
  have hbl := h.win.lt.1
  have hrl := h.win.lt.2
  have hSl := h.st.lt
  have hSb : S ≠ b := (show BT wr S 39 from ⟨_, h.st⟩).ne h.win.bt.1 (by decide)
  have hSr : ∀ g, r' = some g → S ≠ g := fun g hg => (show BT wr S 39 from ⟨_, h.st⟩).ne (h.win.bt.2 g hg) (by decide)
  have hs1 := hb.size
  have hs2 := hF.size
  have hs4 := hF4.size
  have hs5 := hg.size
  have hbase := h.below.size
  have hown : ∀ g, (Value.slice A all.length c).ownBlock = some g → w.heap.size ≤ g ∧ g < wr.heap.size := fun g hg => own_lt h.own hg
  have hr2 : ∀ g, r2 = some g → g < w2.heap.size := fun g hg => (hW.lt.2 g hg).2
  have hSr2 : ∀ g, r2 = some g → S ≠ g := fun g hg => by
    rcases hA g hg with h1 | h1
    · exact hSr g h1
    · omega
  have hOS : some S ≠ (Value.slice A all.length c).ownBlock := own_ne h.own h.st (by decide)
  have hOb : some b ≠ (Value.slice A all.length c).ownBlock := fun e => (own_bt h.own e.symm).ne h.win.bt.1 (by decide) rfl
  have hOr2 : ∀ g, r2 = some g → some g ≠ (Value.slice A all.length c).ownBlock := fun g hg e => by
    rcases hA g hg with h1 | h1
    · exact h.ne g e.symm h1
    · have := (hown g e.symm).2; omega
  refine ⟨hS4.same (hg.block S (by omega) hOS), ?_, ?_, ?_, h.base, ?_⟩
  · have hW4 : Win w4 w.heap.size b r2 size (all ++ bs) := hW.fr hF4 (fun e => hSb e.symm) (fun g hg e => hSr2 g hg e.symm)
    exact hW4.keep (hg.block b hW4.lt.1 hOb) fun g hgg => hg.block g (hW4.lt.2 g hgg).2 (hOr2 g hgg)
  · rw [bys_append, List.length_append]; exact hO5
  · have f1 : Fr (fun k => w.heap.size ≤ k) w wr := Fr.of_below h.below
    have f2 : Fr (fun k => w.heap.size ≤ k) w w2 := (f1.of_below' hb).trans' hF (fun i hi hx => by
      rcases hx with hx | hx
      · have := h.win.base; omega
      · exact (hrl i hx.symm).1)
    have f4 : Fr (fun k => w.heap.size ≤ k) w w4 := f2.trans' hF4 (fun i hi hx => by have := h.base; omega)
    exact (f4.grown hg (fun g hgg => .inl (hown g hgg).1)).below (Nat.le_refl _) (fun k hk => hk)
  · intro g hgg e
    rw [List.length_append] at hgg
    rcases hat with h1 | h1
    · rw [h1] at hgg
      exact hOr2 g e hgg.symm
    · rw [h1] at hgg
      injection hgg with hgg
      have := hr2 g e
      omega
def ExPost (p : List UInt8 × Nat × Int) (w : World) (en : Ending) (w' : World) : Prop :=
  ∃ A c, en = .returned (.tuple #[.slice A p.1.length c, .int .i64 (p.2.1 : Int), .int .i64 p.2.2]) ∧ w'.ownsRow w.heap.size 5 1 (.slice A p.1.length c) p.1.length (bys p.1) ∧ Below w.heap.size w w'
set_option maxHeartbeats 4000000 in
theorem Expand_yes (size : Nat) (A : Option Addr) (m mc : Nat) (l : List Sy) (w : World) (hI : InS w A m l) (hl : Laid w) (h1 : 1 ≤ size) (h2 : size ≤ 4294967295) :
    Calls Tryd.prog 29 #[.int .i64 (size : Int), .slice A m mc] w (ExPost (exGo size 0 St.start [] l) w) := by
  obtain ⟨i0, hi0, hz0, hz1, hz2⟩ := info_parts infou8
  have hlen := hI.len
  have hm := hI.2.2
  go_enter Tryd.func29, Tryd.ntmps29
  go_wp2_with fail
  refine (New_yes size w h1 h2).mono ?_
  rintro e w0 ⟨rfl, hW0, hB0, hs0⟩
  go_wp2_with fail
  refine (New_any w0).mono ?_
  rintro e w1 ⟨rfl, hB1⟩
  unfold stV
  have hR0 : ExRel w (w1.alloc (.cells (stC 0 1 1 1 1) 39)) size w1.heap.size w.heap.size none St.start [] none 0 :=
    ⟨Blk.new _ _ _, (hW0.below hB1).below ((Below.refl _ _).alloc (Nat.le_refl _) _), World.ownsRow_nil _ _ _ _, bmk (bup hB0 hB1) _, (bup hB0 hB1).size, fun g hg => by cases hg⟩
  obtain ⟨S, hS⟩ : ∃ S, w1.heap.size = S := ⟨_, rfl⟩
  rw [hS] at hR0
  have H := Lib.hid hR0
  have HE : Hid (exGo size 0 St.start [] l = exGo size 0 St.start [] (l.drop 0)) := rfl
  have Hlen := Lib.hid hlen
  go_wp2_with fail
  clear hR0 hS hW0 hB0 hs0 hB1 hlen
  go_loopw [27, 10] (fun s27 s10 wr => ∃ (i : Nat) (s : St) (all : List UInt8) (A' : Option Addr) (cp : Nat) (r' : Option Nat), s27 = .int .i64 (i : Int) ∧ i ≤ m ∧ s10 = .slice A' all.length cp ∧ all.length ≤ i * 273 ∧ Hid (exGo size 0 St.start [] l = exGo size i s all (l.drop i)) ∧ Hid (ExRel w wr size S w.heap.size r' s all A' cp)) (fun s27 _ _ => m - (intOf s27).toNat)
  case atStart => exact ⟨0, St.start, [], none, 0, none, rfl, Nat.zero_le _, rfl, by simp, HE, H⟩
  case round =>
    clear H HE
    obtain ⟨i, s, all, A', cp, r', rfl, hi, rfl, hal, HE, H⟩ := hrel
    by_cases him : i < m
    · have him' : (i : Int) < (m : Int) := by omega
      have hIr : InS wr A m l := hI.below H.out.below
      obtain ⟨yb, yo, y, rfl, hy, hyb, y0, y1, y2, y3⟩ := hIr.at him
      rw [← Nat.add_assoc] at y1 y2 y3
      have HE1 : Hid (exGo size 0 St.start [] l = if apE size all s y = 0 then exGo size (i + 1) (apS size all s y) (all ++ apB size all s y) (l.drop (i + 1)) else ([], i, apE size all s y)) := by
        have := HE.out
        rw [List.drop_eq_getElem_cons (by have := Hlen.out; omega)] at this
        have hyi : l[i]'(by have := Hlen.out; omega) = y := by
          have := (List.getElem?_eq_some_iff.1 hy)
          exact this.2
        rw [hyi] at this
        exact this
      clear HE hy hIr
      obtain ⟨n, a, b, c, d⟩ := s
      obtain ⟨k, z, yl, x⟩ := y
      simp only [] at y0 y1 y2 y3
      obtain ⟨⟨s0, s1, s2, s3, s4⟩, ⟨f0, f1, f2, f3, f4⟩⟩ := st_five H.out.st
      have hSl := H.out.st.lt
      go_wp2_with fail
      refine (Apply_sp w.heap.size w.heap.size size r' all n a b c d k yl x z _ (H.out.win.below ((Below.refl _ _).alloc (Nat.le_refl _) _)) ((hl.below H.out.below).below ((Below.refl _ _).alloc (Nat.le_refl _) _)) (by omega)).mono ?_
      rintro e w2 ⟨A1, c1, r2, rfl, hW2, hO2, hF2, hA2, hN2⟩
      obtain ⟨t, ht⟩ : ∃ t, apS size all ⟨n, a, b, c, d⟩ ⟨k, z, yl, x⟩ = t := ⟨_, rfl⟩
      obtain ⟨f, hf⟩ : ∃ f, apE size all ⟨n, a, b, c, d⟩ ⟨k, z, yl, x⟩ = f := ⟨_, rfl⟩
      obtain ⟨bs, hbs⟩ : ∃ bs, apB size all ⟨n, a, b, c, d⟩ ⟨k, z, yl, x⟩ = bs := ⟨_, rfl⟩
      have hb273 := apB_len size all ⟨n, a, b, c, d⟩ ⟨k, z, yl, x⟩
      rw [ht, hf, hbs] at HE1
      rw [hbs] at hW2 hO2 hN2 hb273 ⊢
      rw [ht, hf]
      clear ht hf hbs
      obtain ⟨n', a', b', c', d'⟩ := t
      simp only []
      have hrl : ∀ g, r' = some g → g < wr.heap.size := fun g hg => (H.out.win.lt.2 g hg).2
      have hSb : S ≠ w.heap.size := (show BT wr S 39 from ⟨_, H.out.st⟩).ne H.out.win.bt.1 (by decide)
      have hSr : ∀ g, r' = some g → S ≠ g := fun g hg => (show BT wr S 39 from ⟨_, H.out.st⟩).ne (H.out.win.bt.2 g hg) (by decide)
      have hS2 : Blk w2 S 39 (stC n a b c d) := (H.out.st.alloc (.cells #[.int .i64 k, .int .u8 (z.toNat : Int), .int .i64 yl, .int .i64 x] 38)).same (hF2.block S (by simp only [World.size_alloc]; omega) (by
        rintro (e | e)
        · exact hSb e
        · exact hSr _ e.symm rfl))
      have hs2 := hF2.size
      simp only [World.size_alloc] at hs2
      have HW2 := Lib.hid hW2
      have HO2 := Lib.hid hO2
      have HF2 := Lib.hid hF2
      have HA2 := Lib.hid hA2
      have HN2 := Lib.hid hN2
      have HS2 := Lib.hid hS2
      have Hrl := Lib.hid hrl
      clear s0 s1 s2 s3 s4 f0 f1 f2 f3 f4 y0 y1 y2 y3 hW2 hO2 hF2 hA2 hN2 hS2 hSr hrl
      by_cases hf0 : f = 0
      · subst hf0
        have HE2 : Hid (exGo size 0 St.start [] l = exGo size (i + 1) ⟨n', a', b', c', d'⟩ (all ++ bs) (l.drop (i + 1))) := by
          have := HE1.out
          rw [if_pos rfl] at this
          exact this
        clear HE1
        obtain ⟨⟨s0, s1, s2, s3, s4⟩, ⟨f0, f1, f2, f3, f4⟩⟩ := st_five HS2.out
        have hSl2 := HS2.out.lt
        have HO : Hid (w2.ownsRow w.heap.size 5 1 (.slice A' all.length cp) all.length (bys all)) := own_same (H.out.own.alloc (.cells #[.int .i64 k, .int .u8 (z.toNat : Int), .int .i64 yl, .int .i64 x] 38)) (fun g hg => HF2.out.block g (by have := (own_lt H.out.own hg).2; simp only [World.size_alloc]; omega) (by
          rintro (e | e)
          · exact (own_bt H.out.own hg).ne H.out.win.bt.1 (by decide) e
          · exact H.out.ne g hg e.symm))
        have HOS : Hid (∀ g, (Value.slice A' all.length cp).ownBlock = some g → ¬ g = S) := fun g hg e => own_ne H.out.own H.out.st (by decide) (by rw [hg, e])
        clear hSl
        go_upto_region 13 with (fail)
        have hF4 : Fr (fun k => k = S) w2 (((((((w2.setCell ⟨S, 0, none⟩ (.int .i64 n')).setCell ⟨S, 1, none⟩ (.int .i64 a')).setCell ⟨S, 2, none⟩ (.int .i64 b')).setCell ⟨S, 3, none⟩ (.int .i64 c')).setCell ⟨S, 4, none⟩ (.int .i64 d')).alloc (.cells #[.int .i64 n', .int .i64 a', .int .i64 b', .int .i64 c', .int .i64 d'] 39))) := (fr5 S w2 _ _ _ _ _).alloc _
        have hS4 := (set5_st HS2.out n' a' b' c' d').alloc (.cells #[.int .i64 n', .int .i64 a', .int .i64 b', .int .i64 c', .int .i64 d'] 39)
        obtain ⟨w4, hw4⟩ : ∃ w4, (((((((w2.setCell ⟨S, 0, none⟩ (.int .i64 n')).setCell ⟨S, 1, none⟩ (.int .i64 a')).setCell ⟨S, 2, none⟩ (.int .i64 b')).setCell ⟨S, 3, none⟩ (.int .i64 c')).setCell ⟨S, 4, none⟩ (.int .i64 d')).alloc (.cells #[.int .i64 n', .int .i64 a', .int .i64 b', .int .i64 c', .int .i64 d'] 39))) = w4 := ⟨_, rfl⟩
        rw [hw4] at hF4 hS4 ⊢
        have HO4 := Lib.hid (own_fr HO.out hF4 HOS.out)
        have HR4 := Lib.hid (Rd.of_own (own_fr HO2.out hF4 (fun g hg e => by have h0 := H.out.st.lt; have := (own_lt HO2.out hg).1; simp only [World.size_alloc] at this; omega)))
        have hs4 : w.heap.size ≤ w4.heap.size := by have := hF4.size; have := H.out.below.size; omega
        have HF4 := Lib.hid hF4
        have HS4 := Lib.hid hS4
        clear hw4 hF4 hS4 s0 s1 s2 s3 s4 f0 f1 f2 f3 f4
        go_wp2_with (at_builtin; refine wpList_append_rd (w := w4) rfl (.tmp 45) (.tmp 46) 23 rfl w.heap.size 5 i0 _ 1 1 Tryd.underlying23 hi0 hz0 hz1 hz2 rfl (by decide) (.slice A' all.length cp) all.length (bys all) rfl HO4.out A1 bs.length c1 (bys bs) rfl HR4.out (bys_one _) (by simp only [maxLen]; omega) (by omega) hs4 ?_; intro A2 c2 w5 hown2 hg2 hat2)
        go_roundw
        case rel =>
          refine ⟨i + 1, ⟨n', a', b', c', d'⟩, all ++ bs, A2, c2, r2, by go_num, by omega, by rw [List.length_append], by rw [List.length_append]; omega, HE2, ?_⟩
          exact H.out.step (t := ⟨n', a', b', c', d'⟩) ((Below.refl _ _).alloc (Nat.le_refl _) _) HW2.out HO2.out HF2.out HA2.out HN2.out HF4.out HS4.out hown2 hg2 hat2
        case measure => simp [intOf]; omega
      · have hf1 : (f == 0) = false := beq_eq_false_iff_ne.2 hf0
        have hf2 : (f != 0) = true := bne_iff_ne.2 hf0
        have HE2 : Hid (exGo size 0 St.start [] l = ([], i, f)) := by
          have := HE1.out
          rw [if_neg hf0] at this
          exact this
        have Hf0 := Lib.hid hf0
        clear HE1 hf0
        go_wp2_with fail
        refine bodyPost_ret (v := .tuple #[.slice none 0 0, .int .i64 (i : Int), .int .i64 f]) (by simp [results, Tryd.results29, go_sem, *]) rfl ?_
        rw [HE2.out]
        refine ⟨none, 0, rfl, World.ownsRow_nil _ _ _ _, ?_⟩
        have f1 : Fr (fun k => w.heap.size ≤ k) w wr := Fr.of_below H.out.below
        have f2 : Fr (fun k => w.heap.size ≤ k) w w2 := (f1.alloc _).trans' HF2.out (fun i hi hx => by
          rcases hx with hx | hx
          · omega
          · exact (H.out.win.lt.2 i hx.symm).1)
        exact (f2.alloc _).below (Nat.le_refl _) (fun k hk => hk)
    · obtain rfl : i = m := by omega
      have HE2 : Hid (exGo size 0 St.start [] l = (all, i, 0)) := by
        have := HE.out
        rw [List.drop_of_length_le (by have := Hlen.out; omega)] at this
        exact this
      clear HE
      go_wp2_with fail
      refine bodyPost_ret (v := .tuple #[.slice A' all.length cp, .int .i64 (i : Int), .int .i64 0]) (by simp [results, Tryd.results29, go_sem, *]) rfl ?_
      rw [HE2.out]
      exact ⟨A', cp, rfl, H.out.own, H.out.below⟩
end Go.Proofs.YthcgchkcanhmnaaDoor
