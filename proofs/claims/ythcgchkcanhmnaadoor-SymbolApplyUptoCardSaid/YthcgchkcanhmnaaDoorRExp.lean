
/-
  The document's Apply as a whole, Expand and Literals: the same plain functions as the program's. Conditions: the window as WinR says; the symbols lie in memory.
-/
import Derived.Test.YthcgchkcanhmnaaDoorRApply
import Derived.Test.YthcgchkcanhmnaaDoorSymL
namespace Go.Proofs.YthcgchkcanhmnaaDoor
open Go.RowKit

theorem szF_len {s : St} {y : Sy} (h : nextE s y = 0) : szF y = lenOf y := by
  unfold szF lenOf
  rw [if_pos]
  unfold nextE
  rw [if_pos start_right]
  exact (nextE_zero h).2
theorem lenOf_bd {s : St} {y : Sy} (h : nextE s y = 0) : 1 ≤ lenOf y ∧ lenOf y ≤ 273 := by
  have hf := formedN_zero (nextE_zero h).2
  unfold lenOf
  split
  · rename_i hk
    have hl : isL y.l := by
      rcases hf with h1 | h1 | h1 | h1
      · omega
      · omega
      · exact h1.2.1
      · exact h1.2.1
    unfold isL at hl; omega
  · omega
theorem RApply_any (B b size : Nat) (r : Option Nat) (all : List UInt8) (s : St) (y : Sy) (w : World) (h : WinR w B b r size all) (hlen : all.length + 274 < 140737488355328) :
    Calls Tryd.prog 14 #[.pointer (some ⟨b, 0, none⟩), s.v, y.v] w (RApPost size B b r all (apB size all s y) (apS size all s y) (apE size all s y) w) := by
  by_cases he : nextE s y = 0
  · have hE : apE size all s y = (if y.k = 1 then 0 else if 1 ≤ distOf s y ∧ distOf s y ≤ full size all then 0 else 7) := if_pos he
    have hbd := lenOf_bd he
    by_cases k1 : y.k = 1
    · have e0 : apE size all s y = 0 := by rw [hE, if_pos k1]
      have e1 : apB size all s y = [y.y] := by unfold apB; rw [if_pos e0, if_pos k1]
      have e2 : apS size all s y = nextS s y := by unfold apS; rw [if_pos e0]
      rw [e0, e1, e2]
      exact RApply_lit B b size r all s y w h he k1 (by omega)
    · by_cases hin : 1 ≤ distOf s y ∧ distOf s y ≤ full size all
      · have e0 : apE size all s y = 0 := by rw [hE, if_neg k1, if_pos hin]
        have e1 : apB size all s y = (ext (distOf s y).toNat (lenOf y).toNat all).drop all.length := by unfold apB; rw [if_pos e0, if_neg k1]
        have e2 : apS size all s y = nextS s y := by unfold apS; rw [if_pos e0]
        rw [e0, e1, e2]
        exact RApply_copy B b size r all s y w h he k1 (distOf s y).toNat (lenOf y).toNat (by omega) (by rw [szF_len he]; omega) (by omega) (by omega) (by omega) hlen
      · have e0 : apE size all s y = 7 := by rw [hE, if_neg k1, if_neg hin]
        have e1 : apB size all s y = [] := by unfold apB; rw [if_neg (by omega)]
        have e2 : apS size all s y = St.zero := by unfold apS; rw [if_neg (by omega)]
        rw [e0, e1, e2]
        exact RApply_copy_no B b size r all s y w h he k1 hin
  · have e0 : apE size all s y = nextE s y := if_neg he
    have e1 : apB size all s y = [] := by unfold apB; rw [if_neg (by rw [e0]; exact he)]
    have e2 : apS size all s y = St.zero := by unfold apS; rw [if_neg (by rw [e0]; exact he)]
    rw [e0, e1, e2]
    exact RApply_bad B b size r all s y w h he
theorem RApply_sp (B b size : Nat) (r : Option Nat) (all : List UInt8) (n a b' c d k l x : Int) (z : UInt8) (w : World) (h : WinR w B b r size all) (hlen : all.length + 274 < 140737488355328) :
    Calls Tryd.prog 14 #[.pointer (some ⟨b, 0, none⟩), .agg #[.int .i64 n, .int .i64 a, .int .i64 b', .int .i64 c, .int .i64 d], .agg #[.int .i64 k, .int .u8 (z.toNat : Int), .int .i64 l, .int .i64 x]] w (RApPost size B b r all (apB size all ⟨n, a, b', c, d⟩ ⟨k, z, l, x⟩) (apS size all ⟨n, a, b', c, d⟩ ⟨k, z, l, x⟩) (apE size all ⟨n, a, b', c, d⟩ ⟨k, z, l, x⟩) w) :=
  RApply_any B b size r all ⟨n, a, b', c, d⟩ ⟨k, z, l, x⟩ w h hlen
structure RExRel (w wr : World) (size S b : Nat) (r' : Option Nat) (s : St) (all : List UInt8) (A : Option Addr) (c : Nat) : Prop where
  st : Blk wr S 35 (stC s.n s.a s.b s.c s.d)
  win : WinR wr w.heap.size b r' size all
  own : wr.ownsRow w.heap.size 5 1 (.slice A all.length c) all.length (bys all)
  below : Below w.heap.size w wr
  base : w.heap.size ≤ S
  ne : ∀ g, (Value.slice A all.length c).ownBlock = some g → r' ≠ some g
/-- behind a call of Apply -/
theorem RExRel.applied {w wr w1 w2 : World} {size S b : Nat} {r' r2 : Option Nat} {s : St} {all all2 : List UInt8} {A : Option Addr} {c : Nat} (h : RExRel w wr size S b r' s all A c)
    (hb : Below wr.heap.size wr w1) (hF : Fr (fun k => k = b ∨ some k = r') w1 w2) (hW : WinR w2 w.heap.size b r2 size all2)
    (hA : ∀ g, r2 = some g → r' = some g ∨ w1.heap.size ≤ g) :
    Blk w2 S 35 (stC s.n s.a s.b s.c s.d) ∧ w2.ownsRow w.heap.size 5 1 (.slice A all.length c) all.length (bys all) ∧ Below w.heap.size w w2 ∧ (∀ g, (Value.slice A all.length c).ownBlock = some g → r2 ≠ some g) := by
  have hbl := h.win.lt.1
  have hrl := h.win.lt.2
  have hSl := h.st.lt
  have hSb : S ≠ b := (show BT wr S 35 from ⟨_, h.st⟩).ne h.win.bt.1 (by decide)
  have hSr : ∀ g, r' = some g → S ≠ g := fun g hg => (show BT wr S 35 from ⟨_, h.st⟩).ne (h.win.bt.2 g hg) (by decide)
  have hs1 := hb.size
  refine ⟨(h.st.below hb).same (hF.block S (by omega) (by
      rintro (e | e)
      · exact hSb e
      · exact hSr _ e.symm rfl)), own_same (own_below h.own hb) (fun g hg => hF.block g (by have := (own_lt h.own hg).2; omega) (by
      rintro (e | e)
      · exact (own_bt h.own hg).ne h.win.bt.1 (by decide) e
      · exact h.ne g hg e.symm)), ?_, ?_⟩
  · have f1 : Fr (fun k => w.heap.size ≤ k) w wr := Fr.of_below h.below
    have f2 : Fr (fun k => w.heap.size ≤ k) w w2 := (f1.of_below' hb).trans' hF (fun i hi hx => by
      rcases hx with hx | hx
      · have := h.win.base; omega
      · exact (hrl i hx.symm).1)
    exact f2.below (Nat.le_refl _) (fun k hk => hk)
  · intro g hg e
    rcases hA g e with h1 | h1
    · exact h.ne g hg h1
    · have := (own_lt h.own hg).2; omega
/-- in the midst of a round: Apply has answered, its answers are laid down -/
structure RMid (w wx : World) (size S b N : Nat) (r2 : Option Nat) (s t : St) (all bs : List UInt8) (A : Option Addr) (c : Nat) (A1 : Option Addr) (c1 : Nat) : Prop where
  st : Blk wx S 35 (stC s.n s.a s.b s.c s.d)
  nx : Blk wx N 35 (stC t.n t.a t.b t.c t.d)
  win : WinR wx w.heap.size b r2 size (all ++ bs)
  own : wx.ownsRow w.heap.size 5 1 (.slice A all.length c) all.length (bys all)
  bown : wx.ownsRow w.heap.size 5 1 (.slice A1 bs.length c1) bs.length (bys bs)
  below : Below w.heap.size w wx
  base : w.heap.size ≤ S
  ne : ∀ g, (Value.slice A all.length c).ownBlock = some g → r2 ≠ some g
  sn : S ≠ N
/-- and the row is lengthened, the state taken over -/
theorem RMid.step {w wx wy wz : World} {size S b N : Nat} {r2 : Option Nat} {s t : St} {all bs : List UInt8} {A A1 A2 : Option Addr} {c c1 c2 : Nat} (h : RMid w wx size S b N r2 s t all bs A c A1 c1)
    (hF : Fr (fun k => k = S) wx wy) (hS : Blk wy S 35 (stC t.n t.a t.b t.c t.d))
    (hO : wz.ownsRow w.heap.size 5 1 (.slice A2 (all.length + bs.length) c2) (all.length + bs.length) (bys all ++ bys bs)) (hg : wy.grownBy wz (Value.slice A all.length c).ownBlock)
    (hat : (Value.slice A2 (all.length + bs.length) c2).ownBlock = (Value.slice A all.length c).ownBlock ∨ (Value.slice A2 (all.length + bs.length) c2).ownBlock = some wy.heap.size) :
    RExRel w wz size S b r2 t (all ++ bs) A2 c2 := by
  have hSb : S ≠ b := (show BT wx S 35 from ⟨_, h.st⟩).ne h.win.bt.1 (by decide)
  have hSr : ∀ g, r2 = some g → S ≠ g := fun g hg => (show BT wx S 35 from ⟨_, h.st⟩).ne (h.win.bt.2 g hg) (by decide)
  have hOS : some S ≠ (Value.slice A all.length c).ownBlock := own_ne h.own h.st (by decide)
  have hOb : some b ≠ (Value.slice A all.length c).ownBlock := fun e => (own_bt h.own e.symm).ne h.win.bt.1 (by decide) rfl
  have hOr2 : ∀ g, r2 = some g → some g ≠ (Value.slice A all.length c).ownBlock := fun g hg e => h.ne g e.symm hg
  have hs1 := hF.size
  have hW4 : WinR wy w.heap.size b r2 size (all ++ bs) := h.win.fr hF (fun e => hSb e.symm) (fun g hg e => hSr g hg e.symm)
  refine ⟨hS.same (hg.block S hS.lt hOS), hW4.keep (hg.block b hW4.lt.1 hOb) (fun g hgg => hg.block g (hW4.lt.2 g hgg).2 (hOr2 g hgg)), by rw [bys_append, List.length_append]; exact hO, ?_, h.base, ?_⟩
  · have f1 : Fr (fun k => w.heap.size ≤ k) w wx := Fr.of_below h.below
    have f2 : Fr (fun k => w.heap.size ≤ k) w wy := f1.trans' hF (fun i hi e => by have := h.base; omega)
    exact (f2.grown hg (fun g hgg => .inl (own_lt h.own hgg).1)).below (Nat.le_refl _) (fun k hk => hk)
  · intro g hgg e
    rw [List.length_append] at hgg
    rcases hat with h1 | h1
    · rw [h1] at hgg
      exact hOr2 g e hgg.symm
    · rw [h1] at hgg
      injection hgg with hgg
      have := (hW4.lt.2 g e).2
      omega
theorem RExpand_no (size : Int) (A : Option Addr) (m mc : Nat) (w : World) (h : ¬ (1 ≤ size ∧ size ≤ 4294967295)) :
    Calls Tryd.prog 31 #[.int .i64 size, .slice A m mc] w (ExPost ([], 0, 7) w) := by
  go_enter Tryd.func31, Tryd.ntmps31
  go_wp2_with fail
  refine (RNew_no size w h).mono ?_
  rintro e w0 ⟨rfl, rfl⟩
  go_wp2_with fail
  refine bodyPost_ret (v := .tuple #[.slice none 0 0, .int .i64 0, .int .i64 7]) (by simp [results, Tryd.results31, go_sem, *]) rfl ?_
  exact ⟨none, 0, rfl, World.ownsRow_nil _ _ _ _, Below.refl _ _⟩
set_option maxHeartbeats 4000000 in
set_option maxRecDepth 100000 in
theorem RExpand_yes (size : Nat) (A : Option Addr) (m mc : Nat) (l : List Sy) (w : World) (hI : InS w A m l) (h1 : 1 ≤ size) (h2 : size ≤ 4294967295) :
    Calls Tryd.prog 31 #[.int .i64 (size : Int), .slice A m mc] w (ExPost (exGo size 0 St.start [] l) w) := by
  obtain ⟨i0, hi0, hz0, hz1, hz2⟩ := info_parts infou8
  have hlen := hI.len
  have hm := hI.2.2
  go_enter Tryd.func31, Tryd.ntmps31
  go_wp2_with fail
  refine (RNew_yes size w h1 h2).mono ?_
  rintro e w0 ⟨rfl, hW0, hB0, hs0⟩
  go_wp2_with fail
  refine (NewR_any w0).mono ?_
  rintro e w1 ⟨rfl, hB1⟩
  unfold stV
  have hR0 : RExRel w (w1.alloc (.cells (stC 0 1 1 1 1) 35)) size w1.heap.size w.heap.size none St.start [] none 0 :=
    ⟨Blk.new _ _ _, (hW0.below hB1).below ((Below.refl _ _).alloc (Nat.le_refl _) _), World.ownsRow_nil _ _ _ _, bmk (bup hB0 hB1) _, (bup hB0 hB1).size, fun g hg => by cases hg⟩
  obtain ⟨S, hS⟩ : ∃ S, w1.heap.size = S := ⟨_, rfl⟩
  rw [hS] at hR0
  have H := Lib.hid hR0
  have HE : Hid (exGo size 0 St.start [] l = exGo size 0 St.start [] (l.drop 0)) := rfl
  have Hlen := Lib.hid hlen
  go_wp2_with fail
  clear hR0 hS hW0 hB0 hs0 hB1 hlen
  go_loopw [11, 10] (fun s11 s10 wr => ∃ (i : Nat) (s : St) (all : List UInt8) (A' : Option Addr) (cp : Nat) (r' : Option Nat), s11 = .int .i64 (i : Int) ∧ i ≤ m ∧ s10 = .slice A' all.length cp ∧ all.length ≤ i * 273 ∧ Hid (exGo size 0 St.start [] l = exGo size i s all (l.drop i)) ∧ Hid (RExRel w wr size S w.heap.size r' s all A' cp)) (fun s11 _ _ => m - (intOf s11).toNat)
  case atStart => exact ⟨0, St.start, [], none, 0, none, rfl, Nat.zero_le _, rfl, by simp, HE, H⟩
  case round =>
    clear H HE
    obtain ⟨i, s, all, A', cp, r', rfl, hi, rfl, hal, HE, H⟩ := hrel
    by_cases him : i < m
    · have him' : (i : Int) < (m : Int) := by omega
      have hIr : InS wr A m l := hI.below H.out.below
      obtain ⟨yb, yo, y, rfl, hy, hyb, y0, y1, y2, y3⟩ := hIr.at him
      rw [← Nat.add_assoc] at y1 y2 y3
      have HE1 : Hid (exGo size 0 St.start [] l = if apE size all s y = 0 then exGo size (i + 1) (apS size all s y) (all ++ apB size all s y) (l.drop (i + 1)) else ([], i, apE size all s y)) := by
        have := HE.out
        rw [List.drop_eq_getElem_cons (by have := Hlen.out; omega)] at this
        have hyi : l[i]'(by have := Hlen.out; omega) = y := by
          have := (List.getElem?_eq_some_iff.1 hy)
          exact this.2
        rw [hyi] at this
        exact this
      clear HE hy hIr
      obtain ⟨n, a, b, c, d⟩ := s
      obtain ⟨k, z, yl, x⟩ := y
      simp only [] at y0 y1 y2 y3
      obtain ⟨⟨s0, s1, s2, s3, s4⟩, _⟩ := st_five H.out.st
      have hSl := H.out.st.lt
      have hcall := fun (W : World) (hW : WinR W w.heap.size w.heap.size r' size all) => RApply_sp w.heap.size w.heap.size size r' all n a b c d k yl x z W hW (by omega)
      have hb273 := apB_len size all ⟨n, a, b, c, d⟩ ⟨k, z, yl, x⟩
      obtain ⟨t, ht⟩ : ∃ t, apS size all ⟨n, a, b, c, d⟩ ⟨k, z, yl, x⟩ = t := ⟨_, rfl⟩
      obtain ⟨f, hf⟩ : ∃ f, apE size all ⟨n, a, b, c, d⟩ ⟨k, z, yl, x⟩ = f := ⟨_, rfl⟩
      obtain ⟨bs, hbs⟩ : ∃ bs, apB size all ⟨n, a, b, c, d⟩ ⟨k, z, yl, x⟩ = bs := ⟨_, rfl⟩
      rw [ht, hf, hbs] at HE1 hcall
      rw [hbs] at hb273
      clear ht hf hbs
      obtain ⟨n', a', b', c', d'⟩ := t
      have Hcall := Lib.hid hcall
      have Hal := Lib.hid hal
      clear hcall hal
      go_upto_region 9 with (fail)
      go_cut [12, 13, 14] (fun s12 s13 s14 wx => ∃ (A1 : Option Addr) (c1 N : Nat) (r2 : Option Nat), s12 = .slice A1 bs.length c1 ∧ s13 = .pointer (some ⟨N, 0, none⟩) ∧ s14 = .int .i64 f ∧ Hid (RMid w wx size S w.heap.size N r2 ⟨n, a, b, c, d⟩ ⟨n', a', b', c', d'⟩ all bs A' cp A1 c1))
      case first =>
        have Hk : Hid (∀ W, Below wr.heap.size wr W → ∀ en w2, RApPost size w.heap.size w.heap.size r' all bs ⟨n', a', b', c', d'⟩ f W en w2 → ∃ A1 c1 r2, en = .returned (.tuple #[.slice A1 bs.length c1, .agg (stC n' a' b' c' d'), .int .i64 f]) ∧
          (Blk w2 S 35 (stC n a b c d) ∧ w2.ownsRow w.heap.size 5 1 (.slice A' all.length cp) all.length (bys all) ∧ Below w.heap.size w w2 ∧ (∀ g, (Value.slice A' all.length cp).ownBlock = some g → r2 ≠ some g)) ∧ WinR w2 w.heap.size w.heap.size r2 size (all ++ bs) ∧ w2.ownsRow W.heap.size 5 1 (.slice A1 bs.length c1) bs.length (bys bs) ∧
          (w2.cell? ⟨yb, yo + i * 4, none⟩ = some (.int .i64 k) ∧ w2.cell? ⟨yb, yo + i * 4 + 1, none⟩ = some (.int .u8 (z.toNat : Int)) ∧ w2.cell? ⟨yb, yo + i * 4 + 2, none⟩ = some (.int .i64 yl) ∧ w2.cell? ⟨yb, yo + i * 4 + 3, none⟩ = some (.int .i64 x)) ∧
          (∀ cs, Blk W wr.heap.size 35 cs → Blk w2 wr.heap.size 35 cs) ∧ (W.heap.size ≤ w2.heap.size ∧ (∀ g, r2 = some g → r' = some g ∨ W.heap.size ≤ g))) := fun W hW en w2 hp => by
          obtain ⟨A1, c1, r2, he, hW2, hO2, hF2, hA2, hN2⟩ := hp
          have hrl : ∀ g, r' = some g → g < wr.heap.size := fun g hg => (H.out.win.lt.2 g hg).2
          have hbl := H.out.win.lt.1
          have hws := hW.size
          have ky : ∀ j, w2.cell? ⟨yb, j, none⟩ = wr.cell? ⟨yb, j, none⟩ := fun j => by
            have hyw : yb < w.heap.size := by
              have := hI.at (i := i) him
              obtain ⟨b0, o0, y0, e0, _, hb0, _⟩ := this
              injection e0 with e0
              injection e0 with e0
              omega
            refine (hF2.cell (p := ⟨yb, j, none⟩) (by show yb < _; omega) ?_).trans (hW.cell (p := ⟨yb, j, none⟩) (by show yb < _; omega))
            rintro (e | e)
            · have e : yb = w.heap.size := e
              omega
            · have h3 := (H.out.win.lt.2 _ e.symm).1
              have h3 : w.heap.size ≤ yb := h3
              omega
          refine ⟨A1, c1, r2, he, H.out.applied hW hF2 hW2 hA2, hW2, hO2, ⟨(ky _).trans y0, (ky _).trans y1, (ky _).trans y2, (ky _).trans y3⟩, fun cs hcs => hcs.same (hF2.block _ hcs.lt (by
            rintro (e | e)
            · omega
            · have := hrl _ e.symm; omega)), hF2.size, hA2⟩
        go_region_held3 (fun w' => w'.cell? ⟨S, 0, none⟩ = some (.int .i64 n) ∧ w'.cell? ⟨S, 1, none⟩ = some (.int .i64 a) ∧ w'.cell? ⟨S, 2, none⟩ = some (.int .i64 b) ∧ w'.cell? ⟨S, 3, none⟩ = some (.int .i64 c) ∧ w'.cell? ⟨S, 4, none⟩ = some (.int .i64 d) ∧ w'.cell? ⟨yb, yo + i * 4, none⟩ = some (.int .i64 k) ∧ w'.cell? ⟨yb, yo + i * 4 + 1, none⟩ = some (.int .u8 (z.toNat : Int)) ∧ w'.cell? ⟨yb, yo + i * 4 + 2, none⟩ = some (.int .i64 yl) ∧ w'.cell? ⟨yb, yo + i * 4 + 3, none⟩ = some (.int .i64 x))
          (first | (with_reducible exact ⟨s0, s1, s2, s3, s4, y0, y1, y2, y3⟩) | (with_reducible exact ⟨q0, q1, q2, q3, q4, q5, q6, q7, q8⟩) | go_keep | exact ⟨(keep5 ns).trans q0, (keep5 ns).trans q1, (keep5 ns).trans q2, (keep5 ns).trans q3, (keep5 ns).trans q4, (keep5 ny).trans q5, (keep5 ny).trans q6, (keep5 ny).trans q7, (keep5 ny).trans q8⟩)
          (first | (go_at_call 14; refine (Hcall.out _ (H.out.win.below (by first | (with_reducible exact (Below.refl _ wr).drew) | (with_reducible exact ((Below.refl _ wr).alloc (Nat.le_refl _) _).drew)))).mono ?_; intro en w2 hp; obtain ⟨A1, c1, r2, rfl, hfo, hW2, hO2, ⟨q5, q6, q7, q8⟩, hzz, hsz2, hA2⟩ := Hk.out _ (by first | (with_reducible exact (Below.refl _ wr).drew) | (with_reducible exact ((Below.refl _ wr).alloc (Nat.le_refl _) _).drew)) _ _ hp; obtain ⟨q0, q1, q2, q3, q4⟩ := (st_five hfo.1).1; have ns : ¬ S = wr.heap.size := (by omega); have ny : ¬ yb = wr.heap.size := (by omega); (try (have hz2 : Blk w2 wr.heap.size 35 #[.int .i64 0, .int .i64 0, .int .i64 0, .int .i64 0, .int .i64 0] := (by with_reducible exact hzz _ (Blk.new wr 35 #[.int .i64 0, .int .i64 0, .int .i64 0, .int .i64 0, .int .i64 0]).drew); obtain ⟨⟨z0, z1, z2, z3, z4⟩, ⟨f0, f1, f2, f3, f4⟩⟩ := st_five hz2))))
        all_goals go_wp2_with fail
        all_goals go_meet
        · have hnb : Below w2.heap.size w2 (w2.alloc (.cells (stC n' a' b' c' d') 35)) := (Below.refl _ _).alloc (Nat.le_refl _) _
          have hsd : w.heap.size ≤ wr.heap.size := H.out.below.size
          exact ⟨A1, c1, w2.heap.size, r2, rfl, rfl, rfl, ⟨hfo.1.below hnb, Blk.new _ _ _, hW2.below hnb, own_below hfo.2.1 hnb, own_mono (own_below hO2 hnb) (by exact hsd), bup hfo.2.2.1 hnb, H.out.base, hfo.2.2.2, by have := hfo.1.lt; omega⟩⟩
        · have hsd : w.heap.size ≤ wr.heap.size := H.out.below.size
          have hf5 := fr5 wr.heap.size w2 (.int .i64 n') (.int .i64 a') (.int .i64 b') (.int .i64 c') (.int .i64 d')
          have hrl : ∀ g, r' = some g → g < wr.heap.size := fun g hg => (H.out.win.lt.2 g hg).2
          have hbl := H.out.win.lt.1
          have hszW : (wr.alloc (.cells #[.int .i64 0, .int .i64 0, .int .i64 0, .int .i64 0, .int .i64 0] 35)).drew.heap.size = wr.heap.size + 1 := by show (wr.alloc _).heap.size = _; simp
          have hO2' : w2.ownsRow (wr.heap.size + 1) 5 1 (.slice A1 bs.length c1) bs.length (bys bs) := hszW ▸ hO2
          have hA2' : ∀ g, r2 = some g → r' = some g ∨ wr.heap.size + 1 ≤ g := hszW ▸ hA2
          refine ⟨A1, c1, wr.heap.size, r2, rfl, rfl, rfl, ⟨hfo.1.fr hf5 (by omega), set5_st hz2 _ _ _ _ _, hW2.fr hf5 (by omega) (fun g hg e => ?_), own_fr hfo.2.1 hf5 (fun g hg e => ?_), own_mono (own_fr hO2' hf5 (fun g hg e => ?_)) (by omega), ?_, H.out.base, hfo.2.2.2, by omega⟩⟩
          · rcases hA2' g hg with h | h
            · have := hrl _ h; omega
            · omega
          · have := (own_lt H.out.own hg).2; omega
          · have := (own_lt hO2' hg).1; omega
          · exact ((Fr.of_below (S := fun q => w.heap.size ≤ q) hfo.2.2.1).trans' hf5 (fun i hi e => by omega)).below (Nat.le_refl _) (fun k hk => hk)
      case rest =>
        obtain ⟨A1, c1, N, r2, rfl, rfl, rfl, HM⟩ := hcut
        obtain ⟨wx, rfl⟩ : ∃ wx : World, wx = wc := ⟨_, rfl⟩
        clear s0 s1 s2 s3 s4 y0 y1 y2 y3 hSl Hcall H
        by_cases hf0 : f = 0
        · subst hf0
          have HE2 : Hid (exGo size 0 St.start [] l = exGo size (i + 1) ⟨n', a', b', c', d'⟩ (all ++ bs) (l.drop (i + 1))) := by
            have := HE1.out
            rw [if_pos rfl] at this
            exact this
          clear HE1
          obtain ⟨⟨s0, s1, s2, s3, s4⟩, ⟨f0, f1, f2, f3, f4⟩⟩ := st_five HM.out.st
          obtain ⟨⟨x0, x1, x2, x3, x4⟩, _⟩ := st_five HM.out.nx
          have hSl2 := HM.out.st.lt
          have hNl2 := HM.out.nx.lt
          have hsn := HM.out.sn
          go_upto_region 13 with (fail)
          have hF4 : Fr (fun k => k = S) wx (((((wx.setCell ⟨S, 0, none⟩ (.int .i64 n')).setCell ⟨S, 1, none⟩ (.int .i64 a')).setCell ⟨S, 2, none⟩ (.int .i64 b')).setCell ⟨S, 3, none⟩ (.int .i64 c')).setCell ⟨S, 4, none⟩ (.int .i64 d')) := fr5 S wx _ _ _ _ _
          have hS4 := set5_st HM.out.st n' a' b' c' d'
          obtain ⟨w4, hw4⟩ : ∃ w4, (((((wx.setCell ⟨S, 0, none⟩ (.int .i64 n')).setCell ⟨S, 1, none⟩ (.int .i64 a')).setCell ⟨S, 2, none⟩ (.int .i64 b')).setCell ⟨S, 3, none⟩ (.int .i64 c')).setCell ⟨S, 4, none⟩ (.int .i64 d')) = w4 := ⟨_, rfl⟩
          rw [hw4] at hF4 hS4 ⊢
          have HO4 := Lib.hid (own_fr HM.out.own hF4 (fun g hg e => own_ne HM.out.own HM.out.st (by decide) (by rw [hg, e])))
          have HR4 := Lib.hid (Rd.of_own (own_fr HM.out.bown hF4 (fun g hg e => own_ne HM.out.bown HM.out.st (by decide) (by rw [hg, e]))))
          have hs4 : w.heap.size ≤ w4.heap.size := by have := hF4.size; have := HM.out.below.size; omega
          have HF4 := Lib.hid hF4
          have HS4 := Lib.hid hS4
          have hall2 : all.length ≤ 1048600 * 273 := by have := Hal.out; omega
          clear hw4 hF4 hS4 s0 s1 s2 s3 s4 f0 f1 f2 f3 f4 x0 x1 x2 x3 x4 hSl2 hNl2 hsn
          go_wp2_with (at_builtin; refine wpList_append_rd (w := w4) rfl (.tmp 46) (.tmp 47) 23 rfl w.heap.size 5 i0 _ 1 1 Tryd.underlying23 hi0 hz0 hz1 hz2 rfl (by decide) (.slice A' all.length cp) all.length (bys all) rfl HO4.out A1 bs.length c1 (bys bs) rfl HR4.out (bys_one _) (by simp only [maxLen]; omega) (by omega) hs4 ?_; intro A2 c2 w5 hown2 hg2 hat2)
          go_roundw
          case rel =>
            refine ⟨i + 1, ⟨n', a', b', c', d'⟩, all ++ bs, A2, c2, r2, by go_num, by omega, by rw [List.length_append], by have := Hal.out; rw [List.length_append]; omega, HE2, ?_⟩
            exact HM.out.step HF4.out HS4.out hown2 hg2 hat2
          case measure => simp [intOf]; omega
        · have hf1 : (f == 0) = false := beq_eq_false_iff_ne.2 hf0
          have hf2 : (f != 0) = true := bne_iff_ne.2 hf0
          have HE2 : Hid (exGo size 0 St.start [] l = ([], i, f)) := by
            have := HE1.out
            rw [if_neg hf0] at this
            exact this
          clear HE1 hf0
          go_wp2_with fail
          refine bodyPost_ret (v := .tuple #[.slice none 0 0, .int .i64 (i : Int), .int .i64 f]) (by simp [results, Tryd.results31, go_sem, *]) rfl ?_
          rw [HE2.out]
          exact ⟨none, 0, rfl, World.ownsRow_nil _ _ _ _, HM.out.below⟩
    · obtain rfl : i = m := by omega
      have HE2 : Hid (exGo size 0 St.start [] l = (all, i, 0)) := by
        have := HE.out
        rw [List.drop_of_length_le (by have := Hlen.out; omega)] at this
        exact this
      clear HE
      go_wp2_with fail
      refine bodyPost_ret (v := .tuple #[.slice A' all.length cp, .int .i64 (i : Int), .int .i64 0]) (by simp [results, Tryd.results31, go_sem, *]) rfl ?_
      rw [HE2.out]
      exact ⟨A', cp, rfl, H.out.own, H.out.below⟩
set_option maxHeartbeats 1000000 in
theorem RLiterals_any (A : Option Addr) (n c : Nat) (l : List UInt8) (w : World) (h : In w A n l) (hn : n ≤ 1048600) :
    Calls Tryd.prog 36 #[.slice A n c] w (LitPost (litS l) w) := by
  obtain ⟨i0, hi0, hz0, hz1, hz2⟩ := info_parts infosy
  have Hlen := Lib.hid h.len
  have H : Hid (w.ownsRow w.heap.size 38 4 (.slice none 0 0) 0 (syc ((litS l).take 0)) ∧ Below w.heap.size w w) := ⟨by rw [List.take_zero]; exact World.ownsRow_nil _ _ _ _, Below.refl _ _⟩
  go_enter Tryd.func36, Tryd.ntmps36
  go_wp2_with fail
  go_loopw [3, 4] (fun s3 s4 wr => ∃ (k : Nat) (A' : Option Addr) (cp : Nat), s4 = .int .i64 (k : Int) ∧ k ≤ n ∧ s3 = .slice A' k cp ∧ Hid (wr.ownsRow w.heap.size 38 4 (.slice A' k cp) k (syc ((litS l).take k)) ∧ Below w.heap.size w wr)) (fun _ s4 _ => n - (intOf s4).toNat)
  case atStart => exact ⟨0, _, _, rfl, Nat.zero_le _, rfl, H⟩
  case round =>
    clear H
    obtain ⟨k, A', cp, rfl, hk, rfl, H⟩ := hrel
    by_cases hlt : k < n
    · have hlt' : (k : Int) < (n : Int) := by omega
      have hIr := h.below H.out.2
      obtain ⟨b, off, rfl, hc⟩ := hIr.1.cells_at (by omega)
      obtain ⟨x, hx⟩ : ∃ x, l[k]? = some x := ⟨_, List.getElem?_eq_getElem (by have := Hlen.out; omega)⟩
      have c0 := hc k x hx
      have Hst : Hid ((litS l).take (k + 1) = (litS l).take k ++ [lit x]) := by
        show _ = _
        rw [List.take_add_one]
        simp [litS, hx]
      clear hc hIr hx
      go_wp2_with (at_builtin; refine wpList_append_rd (w := wr.alloc (.cells #[.int .i64 1, .int .u8 (x.toNat : Int), .int .i64 0, .int .i64 0] 38)) rfl (.tmp 11) (.tmp 17) 24 rfl w.heap.size 38 i0 _ 4 32 Tryd.underlying24 hi0 hz0 hz1 hz2 rfl (by decide) (.slice A' k cp) k (syc ((litS l).take k)) rfl (H.out.1.alloc _) (some ⟨wr.heap.size, 0, none⟩) 1 1 (syc [lit x]) rfl (Rd.of_blk (Blk.new _ _ _) rfl rfl) (syc_one _) (by simp only [maxLen]; omega) (by omega) (by have := H.out.2.size; simp; omega) ?_; intro A2 c2 w2 hown2 hg2 hat2)
      go_roundw
      case rel =>
        refine ⟨k + 1, A2, c2, by go_num, by omega, rfl, ?_, ?_⟩
        · rw [Hst.out, syc_append]
          exact hown2
        · exact ((H.out.2.alloc H.out.2.size _).grown hg2 (by have := H.out.2.size; simp; omega) (fun g hg => (own_lt H.out.1 hg).1))
      case measure => simp [intOf]; omega
    · obtain rfl : k = n := by omega
      go_wp2_with fail
      go_ret
      have hll : (litS l).length = k := by rw [litS, List.length_map]; exact Hlen.out
      have h1 := H.out.1
      rw [List.take_of_length_le (by omega)] at h1
      refine ⟨A', cp, ?_, ?_, H.out.2⟩
      · rw [hll]; rfl
      · rw [hll]; exact h1
end Go.Proofs.YthcgchkcanhmnaaDoor
