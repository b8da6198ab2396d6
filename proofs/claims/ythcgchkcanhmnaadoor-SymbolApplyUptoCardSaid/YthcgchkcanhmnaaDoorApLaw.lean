
/-
  Walk: the law SymbolApply returns true; nothing that was there is written. Conditions: bytes and symbols lie in memory and are at most 1048576; the tables as Laid says.
-/
import Derived.Test.YthcgchkcanhmnaaDoorApL
import Derived.Outline
namespace Go.Proofs.YthcgchkcanhmnaaDoor
open Go.RowKit

/-- the book's new entry, of every number -/
def HoldPost (A : Option Addr) (n c B : Nat) (w : World) (e : Ending) (w' : World) : Prop :=
  ∃ x : HE, e = .returned (.agg #[.slice x.A x.xs.length x.c, .int .i64 (x.N : Int), .int .u8 (x.mark.toNat : Int), .string (strOf x.want), .bool x.kept]) ∧ x.ok ∧ x.N = n ∧ w'.ownsRow B 5 1 x.v x.xs.length (bys x.xs) ∧ Fr (fun k => some k = (Value.slice A n c).ownBlock) w w' ∧
    (x.v.ownBlock = (Value.slice A n c).ownBlock ∨ ∀ g, x.v.ownBlock = some g → w.heap.size ≤ g)
theorem hold_any (A : Option Addr) (n c B k : Nat) (xs : List UInt8) (w : World) (hown : w.ownsRow B 5 1 (.slice A n c) n (bys xs)) (hn : n + 70 ≤ 140737488351232) (hk : k ≤ 1048600) (hB : B ≤ w.heap.size) :
    Calls Tryd.prog 16 #[.slice A n c, .int .i64 (k : Int)] w (HoldPost A n c B w) := by
  have hxn : xs.length = n := by have := hown.1; rw [bys_length] at this; omega
  by_cases he : k % 2 = 0
  · refine (hold_even A n c B k xs w hown (by omega) hk he).mono ?_
    rintro e w1 ⟨rfl, hb⟩
    subst hxn
    exact ⟨⟨A, c, xs.length, markOf k, xs, true, xs⟩, rfl, ⟨fun _ => ⟨rfl, rfl⟩, fun h => by cases h⟩, rfl, own_below hown hb, Fr.of_below hb, .inl rfl⟩
  · refine (hold_odd A n c B k xs w hown hn hk (by omega) hB).mono ?_
    rintro e w1 ⟨A', c', rfl, hO, hF, hat⟩
    refine ⟨⟨A', c', n, markOf k, xs, false, List.replicate (n + 70) (markOf k)⟩, ?_, ⟨fun h => (by cases h), fun _ => rfl⟩, rfl, ?_, hF, ?_⟩
    · unfold heV; simp only [List.length_replicate]
    · simp only [HE.v, List.length_replicate]; exact hO
    · simp only [HE.v, List.length_replicate]; exact hat
set_option maxHeartbeats 8000000 in
set_option maxRecDepth 100000 in
theorem apply_law (dict num ra rb rc rd : Int) (A : Option Addr) (n c : Nat) (lb : List UInt8) (M : Option Addr) (m mc : Nat) (l : List Sy) (w : World) (h : In w A n lb) (hn : n ≤ 1048576) (h2 : InS w M m l) (hm : m ≤ 1048576) (hl : Laid w) :
    Calls Tryd.prog 3 #[.int .i64 dict, .int .i64 num, .agg #[.int .i64 ra, .int .i64 rb, .int .i64 rc, .int .i64 rd], .slice A n c, .slice M m mc] w fun e w' => e = .returned (.bool true) ∧ Below w.heap.size w w' := by
  obtain ⟨i0, hi0, hz0, hz1, hz2⟩ := info_parts infou8
  obtain ⟨j0, hj0, jz0, jz1, jz2⟩ := info_parts infoH
  have HL : Hid (∀ w', Below w.heap.size w w' → Laid w') := fun w' hb => hl.below hb
  have HI := Lib.hid h
  have HM := Lib.hid h2
  have Hlb := Lib.hid h.len
  have Hlen := Lib.hid h2.len
  clear h h2 hl
  by_cases hd : 1 ≤ dict ∧ dict ≤ 4294967295
  · obtain ⟨size, rfl⟩ : ∃ size : Nat, dict = (size : Int) := ⟨dict.toNat, by omega⟩
    obtain ⟨d1, d2⟩ := hd
    go_enter Tryd.func3, Tryd.ntmps3
    go_wp2_with fail
    obtain ⟨w0, hw0⟩ : ∃ w0, w.alloc (.cells #[.int .i64 ra, .int .i64 rb, .int .i64 rc, .int .i64 rd] 22) = w0 := ⟨_, rfl⟩
    have Hb0 : Hid (Below w.heap.size w w0) := by rw [← hw0]; exact (Below.refl _ _).alloc (Nat.le_refl _) _
    have HX0 : Hid (Blk w0 w.heap.size 22 #[.int .i64 ra, .int .i64 rb, .int .i64 rc, .int .i64 rd]) := by rw [← hw0]; exact Blk.new _ _ _
    rw [hw0]
    clear hw0
    refine (New_yes size w0 (by omega) (by omega)).mono ?_
    rintro e w1 ⟨rfl, hW1, hB1, hs1⟩
    obtain ⟨b, hb⟩ : ∃ b, w0.heap.size = b := ⟨_, rfl⟩
    rw [hb] at hW1 hs1 ⊢
    have HW1 : Hid (Win w1 w.heap.size b none size []) := hW1.mono (by rw [← hb]; exact Hb0.out.size)
    have Hb1 : Hid (Below w.heap.size w w1) := bup Hb0.out hB1
    have HX1 := Lib.hid (HX0.out.below hB1)
    clear hW1 hB1 hs1 hb Hb0 HX0
    go_wp2_with fail
    refine (RNew_yes size w1 (by omega) (by omega)).mono ?_
    rintro e w2 ⟨rfl, hW2, hB2, hs2⟩
    obtain ⟨cb, hcb⟩ : ∃ cb, w1.heap.size = cb := ⟨_, rfl⟩
    rw [hcb] at hW2 hs2 ⊢
    have HW2 : Hid (WinR w2 w.heap.size cb none size []) := hW2.mono (by rw [← hcb]; exact Hb1.out.size)
    have HW12 := Lib.hid (HW1.out.below hB2)
    have Hb2 : Hid (Below w.heap.size w w2) := bup Hb1.out hB2
    have HX2 := Lib.hid (HX1.out.below hB2)
    have HI2 := Lib.hid (HI.out.below Hb2.out)
    clear hW2 hB2 hs2 hcb Hb1 HX1 HW1
    go_wp2_with (at_builtin; refine wpList_fresh rfl (.tmp 53) (.tmp 54) rfl _ rfl rfl A n c lb rfl HI2.out ?_; intro a3 c3 w3 hF3; have H3 := Lib.hid hF3; clear hF3)
    refine (Put_any w.heap.size b size none [] a3 n c3 lb w3 (HW12.out.below H3.out.2) (Src.of_own H3.out.1 (HW12.out.below H3.out.2).bt.1 (fun g hg => by simp)) (by simp; omega)).mono ?_
    rintro e w4 ⟨rfl, r1, hW4, hF4, hA4⟩
    rw [List.nil_append] at hW4
    have HT : Hid (BT w3 b 79 ∧ BT w3 cb 51 ∧ BT w3 w.heap.size 22) := ⟨(HW12.out.below H3.out.2).bt.1, (HW2.out.below H3.out.2).bt.1, ⟨_, HX2.out.below H3.out.2⟩⟩
    have HR4 : Hid (WinR w4 w.heap.size cb none size []) := (HW2.out.below H3.out.2).fr hF4 (by
      rintro (e | e)
      · exact HT.out.2.1.ne HT.out.1 (by decide) e
      · cases e) (fun g hg => by cases hg)
    have HX4 : Hid (Blk w4 w.heap.size 22 #[.int .i64 ra, .int .i64 rb, .int .i64 rc, .int .i64 rd]) := (HX2.out.below H3.out.2).fr hF4 (by
      rintro (e | e)
      · exact HT.out.2.2.ne HT.out.1 (by decide) e
      · cases e)
    have HBb : Hid (w.heap.size ≤ b) := HW12.out.base
    have Hb3 : Hid (Below w.heap.size w w3) := bup Hb2.out H3.out.2
    have Hb4 : Hid (Below w.heap.size w w4) := Hb3.out.trans (hF4.below Hb3.out.size (fun k hk => by
      rcases hk with hk | hk
      · rw [hk]; exact HBb.out
      · cases hk))
    have HW4 := Lib.hid hW4
    clear hW4 hF4 hA4 H3 HT HW12 HW2 HX2 Hb2 Hb3 HI2
    go_wp2_with fail
    refine (RPut_any w.heap.size cb size none [] A n c lb w4 HR4.out (HI.out.below Hb4.out).1 (by simp; omega)).mono ?_
    rintro e w5 ⟨rfl, r2, hW5, hF5, hA5⟩
    rw [List.nil_append] at hW5
    have HT : Hid (BT w4 b 79 ∧ BT w4 cb 51 ∧ BT w4 w.heap.size 22 ∧ ∀ g, r1 = some g → BT w4 g 5) := ⟨HW4.out.bt.1, HR4.out.bt.1, ⟨_, HX4.out⟩, HW4.out.bt.2⟩
    have HX5 : Hid (Blk w5 w.heap.size 22 #[.int .i64 ra, .int .i64 rb, .int .i64 rc, .int .i64 rd]) := HX4.out.fr hF5 (by
      rintro (e | e)
      · exact HT.out.2.2.1.ne HT.out.2.1 (by decide) e
      · cases e)
    have HW5 : Hid (Win w5 w.heap.size b r1 size lb) := HW4.out.fr hF5 (by
      rintro (e | e)
      · exact HT.out.1.ne HT.out.2.1 (by decide) e
      · cases e) (fun g hg => by
      rintro (e | e)
      · exact (HT.out.2.2.2 g hg).ne HT.out.2.1 (by decide) e
      · cases e)
    have Hne12 : Hid (∀ g, r1 = some g → r2 ≠ some g) := fun g hg e => by
      rcases hA5 g e with h1 | h1
      · cases h1
      · have := (HW4.out.lt.2 g hg).2; omega
    have Hb5 : Hid (Below w.heap.size w w5) := Hb4.out.trans (hF5.below Hb4.out.size (fun k hk => by
      rcases hk with hk | hk
      · rw [hk]; exact HR4.out.base
      · cases hk))
    have HR5 := Lib.hid hW5
    obtain ⟨x0, x1, x2, x3⟩ := HX5.out.four
    clear hW5 hF5 hA5 HT HX4 HR4 HW4 Hb4
    have H0 : Hid (AL w (w5.alloc (.cells (stC num ra rb rc rd) 35)) size b cb w5.heap.size r1 r2 ⟨num, ra, rb, rc, rd⟩ lb lb none 0 0 []) :=
      ⟨HW5.out.below ((Below.refl _ _).alloc (Nat.le_refl _) _), HR5.out.below ((Below.refl _ _).alloc (Nat.le_refl _) _), Blk.new _ _ _, Hb5.out.size, World.ownsRow_nil _ _ _ _, fun i e hi => by simp at hi, fun i j e e' _ hi => by simp at hi, fun i e hi => by simp at hi, fun i e hi => by simp at hi, fun i e hi => by simp at hi, Hne12.out, bmk Hb5.out _⟩
    obtain ⟨S, hS⟩ : ∃ S, w5.heap.size = S := ⟨_, rfl⟩
    rw [hS] at H0
    go_wp2_with fail
    clear hS x0 x1 x2 x3 HX5 HW5 HR5 Hne12 Hb5
    go_loopw [65, 16] (fun s65 s16 wr => ∃ (i : Nat) (s : St) (all : List UInt8) (L : Option Addr) (lc : Nat) (es : List HE) (r1 r2 : Option Nat), s65 = .int .i64 (i : Int) ∧ i ≤ m ∧ s16 = .slice L i lc ∧ all.length ≤ 1048576 + i * 273 ∧ Hid (AL w wr size b cb S r1 r2 s all all L i lc es)) (fun s65 _ _ => m - (intOf s65).toNat)
    case atStart => exact ⟨0, _, lb, none, 0, [], r1, r2, rfl, Nat.zero_le _, rfl, by have := Hlb.out; omega, H0⟩
    case round =>
      clear H0
      obtain ⟨i, s, all, L, lc, es, r1, r2, rfl, hi, rfl, hal, H⟩ := hrel
      by_cases hlt : i < m
      · have hlt' : (i : Int) < (m : Int) := by omega
        obtain ⟨yb, yo, y, rfl, hy, hyb, y0, y1, y2, y3⟩ := (HM.out.below H.out.below).at hlt
        rw [← Nat.add_assoc] at y1 y2 y3
        obtain ⟨k, z, yl, x⟩ := y
        simp only [] at y0 y1 y2 y3
        clear hy
        have hN := Blk.new wr 38 #[.int .i64 k, .int .u8 (z.toNat : Int), .int .i64 yl, .int .i64 x]
        obtain ⟨wa, hwa⟩ : ∃ wa, wr.alloc (.cells #[.int .i64 k, .int .u8 (z.toNat : Int), .int .i64 yl, .int .i64 x] 38) = wa := ⟨_, rfl⟩
        have HA : Hid (AL w wa size b cb S r1 r2 s all all L i lc es) := by rw [← hwa]; exact H.out.keep ((Below.refl _ _).alloc (Nat.le_refl _) _)
        rw [hwa] at hN
        obtain ⟨N, hNe⟩ : ∃ N, wr.heap.size = N := ⟨_, rfl⟩
        rw [hNe] at hN
        go_upto_region 14 with (fail)
        clear y0 y1 y2 y3 hyb hwa hNe H
        have HN := Lib.hid hN
        have nlt := hN.lt
        have slt := HA.out.st.lt
        obtain ⟨sn, sa, sb, sc, sd⟩ := s
        have hcall := fun (W : World) (hW : Below wa.heap.size wa W) => Apply_sp w.heap.size b size r1 all sn sa sb sc sd k yl x z W (HA.out.win.below hW) (HL.out _ (bup HA.out.below hW)) (by omega)
        have hcallR := fun (W : World) (r : Option Nat) (hW : WinR W w.heap.size cb r size all) => RApply_sp w.heap.size cb size r all sn sa sb sc sd k yl x z W hW (by omega)
        have hb273 := apB_len size all ⟨sn, sa, sb, sc, sd⟩ ⟨k, z, yl, x⟩
        obtain ⟨t, ht⟩ : ∃ t, apS size all ⟨sn, sa, sb, sc, sd⟩ ⟨k, z, yl, x⟩ = t := ⟨_, rfl⟩
        obtain ⟨f, hf⟩ : ∃ f, apE size all ⟨sn, sa, sb, sc, sd⟩ ⟨k, z, yl, x⟩ = f := ⟨_, rfl⟩
        obtain ⟨bs, hbs⟩ : ∃ bs, apB size all ⟨sn, sa, sb, sc, sd⟩ ⟨k, z, yl, x⟩ = bs := ⟨_, rfl⟩
        rw [ht, hf, hbs] at hcall hcallR
        rw [hbs] at hb273
        clear ht hf hbs
        obtain ⟨n', a', b', c', d'⟩ := t
        have Hcall := Lib.hid hcall
        have HcallR := Lib.hid hcallR
        have Hal := Lib.hid hal
        have H273 := Lib.hid hb273
        clear hcall hcallR hN hb273
        go_cut [19, 20, 21] (fun s19 s20 s21 wx => ∃ (A1 : Option Addr) (c1 Z : Nat) (r1' : Option Nat), s19 = .slice A1 bs.length c1 ∧ s20 = .pointer (some ⟨Z, 0, none⟩) ∧ s21 = .int .i64 f ∧ Hid (AB w wx size b cb S r1' r2 ⟨sn, sa, sb, sc, sd⟩ (all ++ bs) all L i lc es A1 c1 bs ∧ Blk wx Z 39 (stC n' a' b' c' d') ∧ Blk wx N 38 #[.int .i64 k, .int .u8 (z.toNat : Int), .int .i64 yl, .int .i64 x] ∧ w.heap.size ≤ Z))
        case first =>
          obtain ⟨⟨s0, s1, s2, s3, s4⟩, _⟩ := st_five HA.out.st
          obtain ⟨y0, y1, y2, y3⟩ := HN.out.four
          have Hq : Hid (∀ W : World, Below wa.heap.size wa W → W.cell? ⟨S, 0, none⟩ = some (.int .i64 sn) ∧ W.cell? ⟨S, 1, none⟩ = some (.int .i64 sa) ∧ W.cell? ⟨S, 2, none⟩ = some (.int .i64 sb) ∧ W.cell? ⟨S, 3, none⟩ = some (.int .i64 sc) ∧ W.cell? ⟨S, 4, none⟩ = some (.int .i64 sd) ∧ W.cell? ⟨N, 0, none⟩ = some (.int .i64 k) ∧ W.cell? ⟨N, 1, none⟩ = some (.int .u8 (z.toNat : Int)) ∧ W.cell? ⟨N, 2, none⟩ = some (.int .i64 yl) ∧ W.cell? ⟨N, 3, none⟩ = some (.int .i64 x)) := fun W hW => by
            obtain ⟨⟨s0, s1, s2, s3, s4⟩, _⟩ := st_five (HA.out.st.below hW)
            obtain ⟨y0, y1, y2, y3⟩ := (HN.out.below hW).four
            exact ⟨s0, s1, s2, s3, s4, y0, y1, y2, y3⟩
          have Hk : Hid (∀ W : World, Below wa.heap.size wa W → ∀ en w2, ApP size w.heap.size b r1 all bs ⟨n', a', b', c', d'⟩ f W en w2 → ∃ A1 c1 r1', en = .returned (.tuple #[.slice A1 bs.length c1, .agg (stC n' a' b' c' d'), .int .i64 f]) ∧ AB w w2 size b cb S r1' r2 ⟨sn, sa, sb, sc, sd⟩ (all ++ bs) all L i lc es A1 c1 bs ∧ (w2.cell? ⟨S, 0, none⟩ = some (.int .i64 sn) ∧ w2.cell? ⟨S, 1, none⟩ = some (.int .i64 sa) ∧ w2.cell? ⟨S, 2, none⟩ = some (.int .i64 sb) ∧ w2.cell? ⟨S, 3, none⟩ = some (.int .i64 sc) ∧ w2.cell? ⟨S, 4, none⟩ = some (.int .i64 sd) ∧ w2.cell? ⟨N, 0, none⟩ = some (.int .i64 k) ∧ w2.cell? ⟨N, 1, none⟩ = some (.int .u8 (z.toNat : Int)) ∧ w2.cell? ⟨N, 2, none⟩ = some (.int .i64 yl) ∧ w2.cell? ⟨N, 3, none⟩ = some (.int .i64 x)) ∧ (∀ q cs, wa.heap.size ≤ q → Blk W q 39 cs → Blk w2 q 39 cs) ∧ W.heap.size ≤ w2.heap.size ∧ Blk w2 N 38 #[.int .i64 k, .int .u8 (z.toNat : Int), .int .i64 yl, .int .i64 x]) := fun W hW en w2 hp => by
            obtain ⟨A1, c1, r1', he, hW2, hO2, hF2, hA2, hN2⟩ := hp
            have hAB := AB.made (HA.out.keep hW) hW2 hF2 hA2 hO2 hN2
            have hYW := HN.out.below hW
            have hwn := (HA.out.keep hW).win
            have hY2 : Blk w2 N 38 #[.int .i64 k, .int .u8 (z.toNat : Int), .int .i64 yl, .int .i64 x] := hYW.fr hF2 (by
              rintro (e | e)
              · exact (show BT W N 38 from ⟨_, hYW⟩).ne hwn.bt.1 (by decide) e
              · exact (show BT W N 38 from ⟨_, hYW⟩).ne (hwn.bt.2 _ e.symm) (by decide) rfl)
            obtain ⟨⟨s0, s1, s2, s3, s4⟩, _⟩ := st_five hAB.al.st
            obtain ⟨y0, y1, y2, y3⟩ := hY2.four
            refine ⟨A1, c1, r1', he, hAB, ⟨s0, s1, s2, s3, s4, y0, y1, y2, y3⟩, fun q cs hq hcs => hcs.fr hF2 ?_, hF2.size, hY2⟩
            have hb1 := HA.out.win.lt
            rintro (e | e)
            · omega
            · have := (hb1.2 _ e.symm).2; omega
          have hsw : w.heap.size ≤ wa.heap.size := HA.out.below.size
          go_region_held3 (fun w' => w'.cell? ⟨S, 0, none⟩ = some (.int .i64 sn) ∧ w'.cell? ⟨S, 1, none⟩ = some (.int .i64 sa) ∧ w'.cell? ⟨S, 2, none⟩ = some (.int .i64 sb) ∧ w'.cell? ⟨S, 3, none⟩ = some (.int .i64 sc) ∧ w'.cell? ⟨S, 4, none⟩ = some (.int .i64 sd) ∧ w'.cell? ⟨N, 0, none⟩ = some (.int .i64 k) ∧ w'.cell? ⟨N, 1, none⟩ = some (.int .u8 (z.toNat : Int)) ∧ w'.cell? ⟨N, 2, none⟩ = some (.int .i64 yl) ∧ w'.cell? ⟨N, 3, none⟩ = some (.int .i64 x))
            (first | (with_reducible exact ⟨s0, s1, s2, s3, s4, y0, y1, y2, y3⟩) | (with_reducible exact ⟨p0, p1, p2, p3, p4, p5, p6, p7, p8⟩) | (with_reducible exact ⟨q0, q1, q2, q3, q4, q5, q6, q7, q8⟩) | go_keep | (with_reducible exact ⟨(keep5 ns).trans q0, (keep5 ns).trans q1, (keep5 ns).trans q2, (keep5 ns).trans q3, (keep5 ns).trans q4, (keep5 ny).trans q5, (keep5 ny).trans q6, (keep5 ny).trans q7, (keep5 ny).trans q8⟩) | (with_reducible exact ⟨(keep5 ms).trans q0, (keep5 ms).trans q1, (keep5 ms).trans q2, (keep5 ms).trans q3, (keep5 ms).trans q4, (keep5 my).trans q5, (keep5 my).trans q6, (keep5 my).trans q7, (keep5 my).trans q8⟩))
            (first | (go_at_call 13; refine (ofRef_any sn sa sb sc sd _).mono ?_; rintro en wp ⟨rfl, hbp1⟩; have hbp : Below wa.heap.size wa wp := (by first | (with_reducible exact hbp1) | (with_reducible exact bd1 hbp1) | (with_reducible exact bd2 hbp1) | (with_reducible exact bup ((Below.refl _ wa).alloc (Nat.le_refl _) _) hbp1)); obtain ⟨p0, p1, p2, p3, p4, p5, p6, p7, p8⟩ := Hq.out wp hbp; have hpsz : wa.heap.size ≤ wp.heap.size := hbp.size; (try (have hzp : Blk wp wa.heap.size 39 #[.int .i64 0, .int .i64 0, .int .i64 0, .int .i64 0, .int .i64 0] := (by first | (with_reducible exact (Blk.new wa 39 #[.int .i64 0, .int .i64 0, .int .i64 0, .int .i64 0, .int .i64 0]).drew.below hbp1) | (with_reducible exact (Blk.new wa 39 #[.int .i64 0, .int .i64 0, .int .i64 0, .int .i64 0, .int .i64 0]).below hbp1))))) | (go_at_call 12; refine (Hcall.out _ (by first | (with_reducible exact hbp) | (with_reducible exact hbp.drew) | (with_reducible exact (bmk hbp _).drew) | (with_reducible exact bmk hbp _))).mono ?_; intro en w2 hp; obtain ⟨A1, c1, r1', rfl, hAB, ⟨q0, q1, q2, q3, q4, q5, q6, q7, q8⟩, hzz, hsz2, hY2⟩ := Hk.out _ (by first | (with_reducible exact hbp) | (with_reducible exact hbp.drew) | (with_reducible exact (bmk hbp _).drew) | (with_reducible exact bmk hbp _)) _ _ hp; have ns : ¬ S = wa.heap.size := (by omega); have ny : ¬ N = wa.heap.size := (by omega); have ms : ¬ S = wp.heap.size := (by omega); have my : ¬ N = wp.heap.size := (by omega); (try (have hz2 : Blk w2 wa.heap.size 39 #[.int .i64 0, .int .i64 0, .int .i64 0, .int .i64 0, .int .i64 0] := (by first | (with_reducible exact hzz _ _ (Nat.le_refl _) hzp) | (with_reducible exact hzz _ _ (Nat.le_refl _) hzp.drew)); obtain ⟨⟨z0, z1, z2, z3, z4⟩, ⟨f0, f1, f2, f3, f4⟩⟩ := st_five hz2)); (try (have hz3 : Blk w2 wp.heap.size 39 #[.int .i64 0, .int .i64 0, .int .i64 0, .int .i64 0, .int .i64 0] := (by first | (with_reducible exact hzz _ _ hpsz (Blk.new wp 39 #[.int .i64 0, .int .i64 0, .int .i64 0, .int .i64 0, .int .i64 0]).drew) | (with_reducible exact hzz _ _ hpsz (Blk.new wp 39 #[.int .i64 0, .int .i64 0, .int .i64 0, .int .i64 0, .int .i64 0]))); obtain ⟨⟨z0, z1, z2, z3, z4⟩, ⟨f0, f1, f2, f3, f4⟩⟩ := st_five hz3))))
          all_goals go_wp2_with fail
          all_goals go_meet
          · have hnb : Below w2.heap.size w2 (w2.alloc (.cells (stC n' a' b' c' d') 39)) := (Below.refl _ _).alloc (Nat.le_refl _) _
            exact ⟨A1, c1, w2.heap.size, r1', rfl, rfl, rfl, hAB.keep hnb, Blk.new _ _ _, hY2.below hnb, hAB.al.below.size⟩
          · have hf5 := fr5 wp.heap.size w2 (.int .i64 n') (.int .i64 a') (.int .i64 b') (.int .i64 c') (.int .i64 d')
            have hle : w.heap.size ≤ wp.heap.size := by omega
            exact ⟨A1, c1, wp.heap.size, r1', rfl, rfl, rfl, hAB.temp hz3 hle hf5, set5_st hz3 _ _ _ _ _, hY2.fr hf5 my, hle⟩
          · have hf5 := fr5 wa.heap.size w2 (.int .i64 n') (.int .i64 a') (.int .i64 b') (.int .i64 c') (.int .i64 d')
            exact ⟨A1, c1, wa.heap.size, r1', rfl, rfl, rfl, hAB.temp hz2 hsw hf5, set5_st hz2 _ _ _ _ _, hY2.fr hf5 ny, hsw⟩
        case rest =>
          obtain ⟨A1, c1, Z, r1', rfl, rfl, rfl, HC⟩ := hcut
          obtain ⟨wx, rfl⟩ : ∃ wx : World, wx = wc := ⟨_, rfl⟩
          obtain ⟨⟨s0, s1, s2, s3, s4⟩, _⟩ := st_five HC.out.1.al.st
          obtain ⟨y0, y1, y2, y3⟩ := HC.out.2.2.1.four
          have zlt := HC.out.2.1.lt
          clear Hcall HA HN nlt slt
          go_wp2_with fail
          refine (HcallR.out _ r2 HC.out.1.al.rwin).mono ?_
          rintro e w7 ⟨A2, c2, r2', rfl, hW7, hO7, hF7, hA7, hN7⟩
          simp only []
          have HB7 : Hid (AB w w7 size b cb S r1' r2' ⟨sn, sa, sb, sc, sd⟩ (all ++ bs) (all ++ bs) L i lc es A1 c1 bs) := HC.out.1.win2 hW7 hF7 hA7
          have hTZ : BT wx Z 39 := ⟨_, HC.out.2.1⟩
          have hZ7 : Blk w7 Z 39 (stC n' a' b' c' d') := HC.out.2.1.fr hF7 (by
            rintro (e | e)
            · exact hTZ.ne HC.out.1.al.rwin.bt.1 (by decide) e
            · exact hTZ.ne (HC.out.1.al.rwin.bt.2 _ e.symm) (by decide) rfl)
          obtain ⟨⟨z0, z1, z2, z3, z4⟩, _⟩ := st_five hZ7
          have zl7 := hZ7.lt
          have hcv : ∀ o, (convert 23 9 (.slice A1 bs.length c1)).run Tryd.prog (w7.alloc o) = .ok (.string (strOf bs)) (w7.alloc o) := fun o => conv_rd (Rd.of_own (HB7.out.own.alloc o))
          have hcv2 : ∀ o, (convert 23 9 (.slice A2 bs.length c2)).run Tryd.prog (w7.alloc o) = .ok (.string (strOf bs)) (w7.alloc o) := fun o => conv_rd (Rd.of_own (hO7.alloc o))
          clear s0 s1 s2 s3 s4 y0 y1 y2 y3 zlt hW7 hO7 hF7 hA7 hN7 HC hTZ hZ7 HcallR
          go_wp2_with fail
          refine (alike_any n' a' b' c' d' _).mono ?_
          rintro e w9 ⟨rfl, hb9⟩
          have HB9 : Hid (AB w w9 size b cb S r1' r2' ⟨sn, sa, sb, sc, sd⟩ (all ++ bs) (all ++ bs) L i lc es A1 c1 bs) := (HB7.out.keep ((Below.refl _ _).alloc (Nat.le_refl _) _)).keep hb9
          have hT9 := (Blk.new w7 35 (stC n' a' b' c' d')).below hb9
          obtain ⟨T, hT⟩ : ∃ T, w7.heap.size = T := ⟨_, rfl⟩
          rw [hT] at hT9
          obtain ⟨⟨x0, x1, x2, x3, x4⟩, _⟩ := st_five hT9
          obtain ⟨⟨s0, s1, s2, s3, s4⟩, ⟨f0, f1, f2, f3, f4⟩⟩ := st_five HB9.out.al.st
          have sl9 := HB9.out.al.st.lt
          have tl9 := hT9.lt
          clear hcv hcv2 hb9 z0 z1 z2 z3 z4 zl7 HB7
          go_upto_if 103 with (fail)
          go_cut [19] (fun s19 wy => s19 = .slice A1 bs.length c1 ∧ ∃ s' : St, Hid (AB w wy size b cb S r1' r2' s' (all ++ bs) (all ++ bs) L i lc es A1 c1 bs))
          case first =>
            by_cases hf0 : f = 0
            · subst hf0
              go_wp2_with fail
              go_meet
              exact ⟨rfl, ⟨n', a', b', c', d'⟩, HB9.out.state (set5_st HB9.out.al.st n' a' b' c' d') (fr5 S w9 _ _ _ _ _)⟩
            · have hf1 : (f == 0) = false := beq_eq_false_iff_ne.2 hf0
              go_wp2_with fail
              go_meet
              exact ⟨rfl, _, HB9⟩
          case rest =>
            obtain ⟨rfl, s', HD⟩ := hcut
            obtain ⟨wy, rfl⟩ : ∃ wy : World, wy = wc := ⟨_, rfl⟩
            clear x0 x1 x2 x3 x4 s0 s1 s2 s3 s4 f0 f1 f2 f3 f4 HB9 sl9 tl9 hT9 hT
            go_wp2_with fail
            refine (hold_any A1 bs.length c1 w.heap.size i bs _ HD.out.own (by have := H273.out; omega) (by omega) HD.out.al.below.size).mono ?_
            rintro e w10 ⟨xe, rfl, hok, hN, hO10, hF10, hat10⟩
            obtain ⟨hal10, hn1, hn2, hn3⟩ := HD.out.hold hF10 hat10
            obtain ⟨xA, xc, xN, xm, xw, xk, xx⟩ := xe
            simp only [] at hN hO10 ⊢
            have HAL := Lib.hid hal10
            have Hx := Lib.hid (And.intro hok (And.intro hO10 (And.intro hn1 (And.intro hn2 hn3))))
            have hb1 := H273.out
            have HxN := Lib.hid hN
            clear hN hok hO10 hn1 hn2 hn3 hF10 hat10 hal10 HD
            go_wp2_with (at_builtin; refine wpList_append_rd (w := w10.alloc (.cells #[.slice xA xx.length xc, .int .i64 (xN : Int), .int .u8 (xm.toNat : Int), .string (strOf xw), .bool xk] 47)) rfl (.tmp 105) (.tmp 110) 36 rfl w.heap.size 47 j0 _ 5 64 Tryd.underlying36 hj0 jz0 jz1 jz2 rfl (by decide) (.slice L i lc) i (hec es) rfl (HAL.out.row.alloc _) (some ⟨w10.heap.size, 0, none⟩) 1 1 (hec [⟨xA, xc, xN, xm, xw, xk, xx⟩]) rfl (Rd.of_blk' (Blk.new _ _ _) rfl rfl) (hec_one _) (by simp only [maxLen]; omega) (by omega) (by have := HAL.out.below.size; simp; omega) ?_; intro L2 lc2 w11 hown11 hg11 hat11)
            go_roundw
            case rel =>
              rw [← hec_append] at hown11
              exact ⟨i + 1, s', all ++ bs, L2, lc2, es ++ [⟨xA, xc, xN, xm, xw, xk, xx⟩], r1', r2', by go_num, by omega, rfl, by have := Hal.out; rw [List.length_append]; omega, HAL.out.grow _ _ Hx.out.2.1 Hx.out.2.2.1 Hx.out.2.2.2.1 Hx.out.2.2.2.2 ⟨Hx.out.1, by show xN ≤ _; have := HxN.out; omega⟩ hown11 hg11⟩
            case measure => simp [intOf]; omega
      · obtain rfl : m = i := by omega
        obtain ⟨wl, rfl⟩ : ∃ wl : World, wl = wr := ⟨_, rfl⟩
        have HPos : Hid (∀ W, Below wl.heap.size wl W → Calls Tryd.prog 17 #[.pointer (some ⟨b, 0, none⟩)] W fun e w' => e = .returned (.int .i64 (all.length : Int)) ∧ W = w') := fun W hW => Pos_any w.heap.size b size r1 all W (H.out.keep hW).win
        obtain ⟨F, hF⟩ : ∃ F, full size all = F := ⟨_, rfl⟩
        have HFull : Hid (∀ W, Below wl.heap.size wl W → Calls Tryd.prog 18 #[.pointer (some ⟨b, 0, none⟩)] W fun e w' => e = .returned (.int .i64 (F : Int)) ∧ W = w') := fun W hW => by rw [← hF]; exact Full_any w.heap.size b size r1 all W (H.out.keep hW).win
        have HRFull : Hid (∀ W, Below wl.heap.size wl W → Calls Tryd.prog 19 #[.pointer (some ⟨cb, 0, none⟩)] W fun e w' => e = .returned (.int .i64 (F : Int)) ∧ ∃ q, w' = W.drewN q) := fun W hW => by rw [← hF]; exact RFull_any w.heap.size cb size r2 all W (H.out.keep hW).rwin
        have hFl : F ≤ all.length := by rw [← hF]; exact full_len
        have HLast : Hid (∀ W d c, Below wl.heap.size wl W → 1 ≤ d → d ≤ F → all[all.length - d]? = some c → Calls Tryd.prog 20 #[.pointer (some ⟨b, 0, none⟩), .int .i64 (d : Int)] W fun e w' => e = .returned (.tuple #[.int .u8 (c.toNat : Int), .int .i64 0]) ∧ W = w') := fun W d c hW h1 h2 hc => Last_yes w.heap.size b size r1 all d c W (H.out.keep hW).win h1 (by rw [hF]; exact h2) hc
        have HRLast : Hid (∀ W d c, Below wl.heap.size wl W → 1 ≤ d → d ≤ F → all[all.length - d]? = some c → Calls Tryd.prog 21 #[.pointer (some ⟨cb, 0, none⟩), .int .i64 (d : Int)] W fun e w' => e = .returned (.tuple #[.int .u8 (c.toNat : Int), .int .i64 0]) ∧ ∃ q, w' = W.drewN q) := fun W d c hW h1 h2 hc => RLast_yes w.heap.size cb size r2 all d c W (H.out.keep hW).rwin h1 (by rw [hF]; exact h2) (by omega) hc
        obtain ⟨VA, vc, hcb, _⟩ := H.out.rwin
        obtain ⟨c0, c1⟩ := hcb.two
        obtain ⟨al, hal2⟩ : ∃ al, all.length = al := ⟨_, rfl⟩
        have Hal2 := Lib.hid hal2
        rw [hal2] at c1 hal hFl
        have HPos2 : Hid (∀ W, Below wl.heap.size wl W → Calls Tryd.prog 17 #[.pointer (some ⟨b, 0, none⟩)] W fun e w' => e = .returned (.int .i64 (al : Int)) ∧ W = w') := by rw [← hal2]; exact HPos
        clear hF hal2 hcb HPos
        go_wp2_with fail
        go_quiet (first | (go_at_call 17; exact Calls.quiet_of_same ((HPos2.out _ (below_drewN (Below.refl _ _) _)).mono fun _ _ h => ⟨h.1, h.2.symm⟩)) | (go_at_call 18; exact Calls.quiet_of_same ((HFull.out _ (below_drewN (Below.refl _ _) _)).mono fun _ _ h => ⟨h.1, h.2.symm⟩)) | (go_at_call 19; exact Calls.quiet_of (HRFull.out _ (below_drewN (Below.refl _ _) _))))
        have HX0 : Hid (Below wl.heap.size wl (wl.drewN nq)) := below_drewN (Below.refl _ _) _
        clear c0 c1
        go_wp2_with fail
        go_loopw [25] (fun s25 wr => ∃ (d : Nat), s25 = .int .i64 (d : Int) ∧ 1 ≤ d ∧ d ≤ F + 1 ∧ Hid (Below wl.heap.size wl wr)) (fun s25 _ => F + 1 - (intOf s25).toNat)
        case atStart => exact ⟨1, rfl, Nat.le_refl _, by omega, HX0⟩
        case round =>
          clear HX0
          obtain ⟨d, rfl, hd1, hd2, HX⟩ := hrel
          go_wp2_with fail
          refine (HRFull.out _ HX.out).mono ?_
          rintro e w1 ⟨rfl, q, rfl⟩
          have HX1 : Hid (Below wl.heap.size wl (wr.drewN q)) := below_drewN HX.out _
          by_cases hdF : d ≤ F
          · have hdF' : (d : Int) ≤ (F : Int) := by omega
            by_cases h7 : d ≤ 700
            · have h7' : (d : Int) ≤ 700 := by omega
              obtain ⟨ch, hch⟩ : ∃ ch, all[all.length - d]? = some ch := ⟨_, List.getElem?_eq_getElem (by have := Hal2.out; omega)⟩
              have Hch := Lib.hid hch
              clear hch
              go_wp2_with fail
              refine (HLast.out _ d ch HX1.out hd1 hdF Hch.out).mono ?_
              rintro e w1 ⟨rfl, rfl⟩
              go_wp2_with fail
              refine (HRLast.out _ d ch HX1.out hd1 hdF Hch.out).mono ?_
              rintro e w1 ⟨rfl, q2, rfl⟩
              go_wp2_with fail
              go_roundw
              case rel => exact ⟨d + 1, by go_num, by omega, by omega, below_drewN HX.out _⟩
              case measure => simp [intOf]; omega
            · have h7' : ¬ (d : Int) ≤ 700 := by omega
              go_wp2_with fail
              refine (held_any L m lc w.heap.size es _ (InH.of_own (H.out.keep HX1.out).row) (H.out.keep HX1.out).own H.out.sep H.out.ok (H.out.keep HX1.out).below.size (by omega)).mono ?_
              rintro e wz ⟨rfl, hbz⟩
              have HBz : Hid (Below w.heap.size w wz) := (H.out.keep HX1.out).below.trans hbz
              go_wp2_with fail
              go_ret
              exact ⟨rfl, HBz.out⟩
          · have hdF' : ¬ (d : Int) ≤ (F : Int) := by omega
            go_wp2_with fail
            refine (held_any L m lc w.heap.size es _ (InH.of_own (H.out.keep HX1.out).row) (H.out.keep HX1.out).own H.out.sep H.out.ok (H.out.keep HX1.out).below.size (by omega)).mono ?_
            rintro e wz ⟨rfl, hbz⟩
            have HBz : Hid (Below w.heap.size w wz) := (H.out.keep HX1.out).below.trans hbz
            go_wp2_with fail
            go_ret
            exact ⟨rfl, HBz.out⟩
  · have hd' := hd
    go_enter Tryd.func3, Tryd.ntmps3
    go_wp2_with fail
    refine (New_no dict _ hd).mono ?_
    rintro e w1 ⟨rfl, rfl⟩
    clear hd
    go_wp2_with fail
    refine (RNew_no dict _ hd').mono ?_
    rintro e w1 ⟨rfl, rfl⟩
    clear hd'
    go_wp2_with fail
    go_ret
    exact ⟨rfl, (Below.refl _ _).alloc (Nat.le_refl _) _⟩
end Go.Proofs.YthcgchkcanhmnaaDoor
