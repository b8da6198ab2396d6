/-
  Walk of means: a row of symbols that makes the piece, behind a state, is told so. Conditions: the data and the row lie in memory, a good piece.
-/
import Derived.Test.YthlflcnpmabmbaaDoorMeR
import Derived.Test.YthlflcnpmabmbaaDoorMeG
namespace Go.Proofs.YthlflcnpmabmbaaDoor
open Go.RowKit Go.Shelf
attribute [local go_sem] Oper.semAt_some
set_option maxRecDepth 100000

theorem eqArr (a b c d : Int) (w : World) : (Op.equalIn 9999 35 (.agg #[.int .i64 a, .int .i64 b, .int .i64 c, .int .i64 d]) (.agg #[.int .i64 a, .int .i64 b, .int .i64 c, .int .i64 d])).run Tryd.prog w = .ok true w := by
  have h3 : ∀ (x : Int) (w : World), (Op.equalIn 9998 3 (.int .i64 x) (.int .i64 x)).run Tryd.prog w = .ok true w := fun x w => by
    rw [run_equalIn_int w 9997 3 .i64 .i64 x x Tryd.underlying3]; simp
  have p0 : ∀ w : World, (part 3 #[.int .i64 a, .int .i64 b, .int .i64 c, .int .i64 d] 0).run Tryd.prog w = .ok (.int .i64 a) w := fun _ => by kernel_rfl
  have p1 : ∀ w : World, (part 3 #[.int .i64 a, .int .i64 b, .int .i64 c, .int .i64 d] 1).run Tryd.prog w = .ok (.int .i64 b) w := fun _ => by kernel_rfl
  have p2 : ∀ w : World, (part 3 #[.int .i64 a, .int .i64 b, .int .i64 c, .int .i64 d] 2).run Tryd.prog w = .ok (.int .i64 c) w := fun _ => by kernel_rfl
  have p3 : ∀ w : World, (part 3 #[.int .i64 a, .int .i64 b, .int .i64 c, .int .i64 d] 3).run Tryd.prog w = .ok (.int .i64 d) w := fun _ => by kernel_rfl
  unfold Op.equalIn
  simp [run_underlying Tryd.underlying35, List.range', h3, p0, p1, p2, p3]
set_option maxHeartbeats 8000000 in
theorem means_any (A : Option Addr) (m c : Nat) (l : List UInt8) (fr tz di : Nat) (s : St) (L : Option Addr) (n lc : Nat) (ls : List Sy) (t : St) (w : World) (h : In w A m l) (hmc : m ≤ c) (hm : m ≤ 600) (h1 : fr ≤ tz) (h2 : tz ≤ m) (hd : 1 ≤ di ∧ di ≤ 4096) (hl : InS w L n ls) (hmk : makes l tz (di : Int) fr s ls t) (hL : Laid w) :
    Calls Tryd.prog 32 #[.agg (pcC A m c fr tz di s), .slice L n lc, t.v] w fun e w' => e = .returned (.bool true) ∧ Below w.heap.size w w' := by
  obtain ⟨i1, hi1, hy0, hy1, hy2⟩ := info_parts infou8
  obtain ⟨nu, ra, rb, rc, rd⟩ := s
  obtain ⟨tn, ta, tb, tc, td⟩ := t
  have hlen : l.length = m := h.len
  have hlsn := hl.len
  have hn18 := hl.2.2
  unfold pcC St.v stC
  simp only []
  obtain ⟨B, hB⟩ : ∃ B, w.heap.size = B := ⟨_, rfl⟩
  obtain ⟨w1, hw1⟩ : ∃ w1, (w.alloc (.cells #[.slice A m c, .int .i64 fr, .int .i64 tz, .int .i64 di, .int .i64 nu, .int .i64 ra, .int .i64 rb, .int .i64 rc, .int .i64 rd] 45)).alloc (.cells #[.int .i64 tn, .int .i64 ta, .int .i64 tb, .int .i64 tc, .int .i64 td] 37) = w1 := ⟨_, rfl⟩
  have hb1 : Below w.heap.size w w1 := by rw [← hw1]; exact ((Below.refl _ _).alloc (Nat.le_refl _) _).alloc (by simp) _
  have hP1 : Blk w1 B 45 #[.slice A m c, .int .i64 fr, .int .i64 tz, .int .i64 di, .int .i64 nu, .int .i64 ra, .int .i64 rb, .int .i64 rc, .int .i64 rd] := by rw [← hw1]; exact (Blk.new_at hB.symm).alloc _
  have hT1 : Blk w1 (B + 1) 37 #[.int .i64 tn, .int .i64 ta, .int .i64 tb, .int .i64 tc, .int .i64 td] := by rw [← hw1]; exact Blk.new_at (by simp [hB])
  have hz1 : w1.heap.size = B + 2 := by rw [← hw1]; simp [hB]
  have c3 : w1.cell? ⟨B, 3, none⟩ = some (.int .i64 di) := hP1.cell 3
  have H1 := Lib.hid (And.intro hb1 (And.intro hP1 (And.intro hT1 hz1)))
  have HI := Lib.hid (And.intro h (And.intro hl (And.intro hmk hL)))
  have HBe := Lib.hid hB
  have Hll := Lib.hid (And.intro hlen hlsn)
  clear h hl hmk hL hb1 hP1 hT1 hlen hlsn
  go_enter Tryd.func32, Tryd.ntmps32
  go_wp2_with fail
  clear hw1 hB
  refine (win.New_yes di w1 hd.1 (by omega)).mono ?_
  rintro e w2 ⟨rfl, hW2, hb2, hz2⟩
  rw [hz1] at hW2 hz2 ⊢
  have H2 := Lib.hid (And.intro hW2 (And.intro (bup H1.out.1 hb2) (And.intro (H1.out.2.1.below hb2) (H1.out.2.2.1.below hb2))))
  obtain ⟨⟨c0, c1, c2, c3, c4, c5, c6, c7, c8⟩, _, _⟩ := H2.out.2.2.1.nine
  have Hz2 := Lib.hid hz2
  have hfm : (fr : Int) ≤ (m : Int) := by omega
  have hfc : (fr : Int) ≤ (c : Int) := by omega
  have hmI : (m : Int) ≤ (c : Int) := by omega
  clear hW2 hb2 hz2
  go_wp2_with (at_builtin; refine wpList_fresh rfl (.tmp 29) (.tmp 34) rfl (w := w2) w2.heap.size rfl rfl A fr c (l.take fr) rfl ((HI.out.1.below H2.out.2.1).take (by omega)) ?_; intro a3 c3' w3 hF3)
  have hF3' : win.Fresh w2 w3 a3 fr c3' (l.take fr) := hF3
  refine (win.Put_fresh H2.out.1 hF3' (by show 0 + fr < _; omega)).mono ?_
  rintro e w4 ⟨rfl, r4, hW4, hFr4, hA4⟩
  have hP4 : Blk w4 B 45 #[.slice A m c, .int .i64 fr, .int .i64 tz, .int .i64 di, .int .i64 nu, .int .i64 ra, .int .i64 rb, .int .i64 rc, .int .i64 rd] := H2.out.2.2.1.fr hFr4 (fun e => by
    rcases e with e | e
    · omega
    · cases e)
  have hT4 : Blk w4 (B + 1) 37 #[.int .i64 tn, .int .i64 ta, .int .i64 tb, .int .i64 tc, .int .i64 td] := H2.out.2.2.2.fr hFr4 (fun e => by
    rcases e with e | e
    · omega
    · cases e)
  have hB4 : Below w.heap.size w w4 := H2.out.2.1.trans (hFr4.below H2.out.2.1.size (fun k e => by
    rcases e with e | e
    · have := HBe.out; omega
    · cases e))
  rw [List.nil_append] at hW4
  have H4 := Lib.hid (And.intro hW4 (And.intro hP4 (And.intro hT4 hB4)))
  obtain ⟨⟨c0, c1, c2, c3, c4, c5, c6, c7, c8⟩, _, _⟩ := hP4.nine
  clear hF3 hF3' hW4 hFr4 hA4 hP4 hT4 hB4 H2 H1 Hz2
  go_upto_region 6 with (fail)
  obtain ⟨S, hS⟩ : ∃ S, w4.heap.size = S := ⟨_, rfl⟩
  obtain ⟨w5, hw5⟩ : ∃ w5, w4.alloc (.cells #[.int .i64 nu, .int .i64 ra, .int .i64 rb, .int .i64 rc, .int .i64 rd] 37) = w5 := ⟨_, rfl⟩
  have hb5 : Below w4.heap.size w4 w5 := by rw [← hw5]; exact (Below.refl _ _).alloc (Nat.le_refl _) _
  have hS5 : Blk w5 S 37 (stC nu ra rb rc rd) := by rw [← hw5]; exact Blk.new_at hS.symm
  obtain ⟨pv, hpv⟩ : ∃ pv : Array Value, #[.slice A m c, .int .i64 fr, .int .i64 tz, .int .i64 di, .int .i64 nu, .int .i64 ra, .int .i64 rb, .int .i64 rc, .int .i64 rd] = pv := ⟨_, rfl⟩
  obtain ⟨tv, htv⟩ : ∃ tv : Array Value, #[.int .i64 tn, .int .i64 ta, .int .i64 tb, .int .i64 tc, .int .i64 td] = tv := ⟨_, rfl⟩
  have HR0 : Hid (win.MeRel w w5 di S (B + 2) B (B + 1) r4 ⟨nu, ra, rb, rc, rd⟩ (l.take fr) [] none 0 pv tv) := by
    have hB := HBe.out
    have h4 := H4.out.2.2.1.lt
    refine ⟨hS5, (H4.out.1.below hb5).mono (by omega), World.ownsRow_nil _ _ _ _, bup H4.out.2.2.2 hb5, by omega, (fun g hg => (by cases hg)), ?_, ?_, by omega⟩
    · rw [← hpv]; exact H4.out.2.1.below hb5
    · rw [← htv]; exact H4.out.2.2.1.below hb5
  have HPV := Lib.hid hpv
  have HTV := Lib.hid htv
  simp only [hw5, hS]
  clear hw5 hS hb5 hS5 hpv htv H4 c0 c1 c2 c3 c4 c5 c6 c7 c8
  go_wp2_with fail
  go_loopw [44, 10] (fun s44 s10 wr => ∃ (i p : Nat) (s' : St) (acc : List UInt8) (A' : Option Addr) (cp : Nat) (r' : Option Nat), s44 = .int .i64 (i : Int) ∧ i ≤ n ∧ s10 = .slice A' acc.length cp ∧ p ≤ tz ∧ acc.length ≤ p ∧ Hid (makes l tz (di : Int) p s' (ls.drop i) (⟨tn, ta, tb, tc, td⟩ : St) ∧ l.take fr ++ acc = l.take p) ∧ Hid (win.MeRel w wr di S (B + 2) B (B + 1) r' s' (l.take p) acc A' cp pv tv)) (fun s44 _ _ => n - (intOf s44).toNat)
  case atStart => exact ⟨0, fr, ⟨nu, ra, rb, rc, rd⟩, [], none, 0, r4, rfl, Nat.zero_le _, rfl, h1, Nat.zero_le _, ⟨HI.out.2.2.1, List.append_nil _⟩, HR0.out⟩
  case round =>
    clear HR0
    obtain ⟨i, p, s', acc, A', cp, r', rfl, hi, rfl, hpt, hap, HM, H⟩ := hrel
    by_cases him : i < n
    · have him' : (i : Int) < (n : Int) := by omega
      have hIr : InS wr L n ls := HI.out.2.1.below H.out.below
      obtain ⟨yb, yo, y, rfl, hy, hyb, y0, y1, y2, y3⟩ := hIr.at him
      rw [← Nat.add_assoc] at y1 y2 y3
      obtain ⟨hmk, hacc⟩ := HM.out
      rw [drop_at hy] at hmk
      obtain ⟨hst, hmk⟩ := hmk
      obtain ⟨q1, q2, q3, q4⟩ := ap_ok (size := di) rfl (by have := Hll.out; omega) hst
      have hpz := hst.2.1
      have HM2 : Hid (makes l tz (di : Int) (p + ysz y) (nextS s' y) (ls.drop (i + 1)) (⟨tn, ta, tb, tc, td⟩ : St) ∧ l.take fr ++ (acc ++ win.apB di (l.take p) s' y) = l.take (p + ysz y)) := ⟨hmk, by rw [← List.append_assoc, hacc, q3]⟩
      have hbl : (win.apB di (l.take p) s' y).length ≤ ysz y := by rw [q4, List.length_take]; omega
      obtain ⟨z, hz⟩ : ∃ z, ysz y = z := ⟨_, rfl⟩
      rw [hz] at HM2 hpz q3 hbl
      clear hy hIr hmk hst hacc q4 hz
      obtain ⟨sn, sa, sb, sc, sd⟩ := s'
      obtain ⟨k, zz, yl, x⟩ := y
      simp only [] at y0 y1 y2 y3
      obtain ⟨⟨s0, s1, s2, s3, s4⟩, ⟨f0, f1, f2, f3, f4⟩⟩ := st_five H.out.st
      have hSl := H.out.st.lt
      go_upto_region 10 with (fail)
      obtain ⟨we, hwe⟩ : ∃ we, wr.alloc (.cells #[.int .i64 k, .int .u8 (zz.toNat : Int), .int .i64 yl, .int .i64 x] 24) = we := ⟨_, rfl⟩
      obtain ⟨Yb, hYb⟩ : ∃ Yb, wr.heap.size = Yb := ⟨_, rfl⟩
      have hbe : Below wr.heap.size wr we := by rw [← hwe]; exact (Below.refl _ _).alloc (Nat.le_refl _) _
      have hYe : Blk we Yb 24 #[.int .i64 k, .int .u8 (zz.toNat : Int), .int .i64 yl, .int .i64 x] := by rw [← hwe]; exact Blk.new_at hYb.symm
      simp only [hwe, hYb]
      clear hwe hYb s0 s1 s2 s3 s4 y0 y1 y2 y3 f0 f1 f2 f3 f4 hSl
      obtain ⟨⟨s0, s1, s2, s3, s4⟩, _⟩ := st_five (H.out.st.below hbe)
      obtain ⟨y0, y1, y2, y3⟩ := hYe.four
      have Hbe := Lib.hid hbe
      clear hbe hYe
      go_wp2_with fail
      refine (win.Apply_sp w.heap.size (B + 2) di r' (l.take p) sn sa sb sc sd k yl x zz we (H.out.win.below Hbe.out) (HI.out.2.2.2.below (bup H.out.below Hbe.out)) (by rw [List.length_take]; omega)).mono ?_
      rintro e w2 ⟨A1, c1, r2, rfl, hW2, hO2, hF2, hA2, hN2⟩
      obtain ⟨t, ht⟩ : ∃ t, win.apS di (l.take p) ⟨sn, sa, sb, sc, sd⟩ ⟨k, zz, yl, x⟩ = t := ⟨_, rfl⟩
      obtain ⟨bs, hbs⟩ : ∃ bs, win.apB di (l.take p) ⟨sn, sa, sb, sc, sd⟩ ⟨k, zz, yl, x⟩ = bs := ⟨_, rfl⟩
      rw [← q2, ht, hbs] at HM2
      rw [hbs] at hW2 hO2 hN2 hbl q3 ⊢
      rw [ht, q1]
      rw [q3] at hW2
      clear ht hbs q1 q2
      obtain ⟨n', a', b', c', d'⟩ := t
      simp only [stC]
      have hSb : S ≠ B + 2 := (show BT wr S 37 from ⟨_, H.out.st⟩).ne H.out.win.bt.1 (by decide)
      have hSr : ∀ g, r' = some g → S ≠ g := fun g hg => (show BT wr S 37 from ⟨_, H.out.st⟩).ne (H.out.win.bt.2 g hg) (by decide)
      have hS2 : Blk w2 S 37 (stC sn sa sb sc sd) := (H.out.st.below Hbe.out).fr hF2 (fun e => by
        rcases e with e | e
        · exact hSb e
        · exact hSr _ e.symm rfl)
      have HO : Hid (w2.ownsRow w.heap.size 5 1 (.slice A' acc.length cp) acc.length (bys acc)) := own_fr (own_below H.out.own Hbe.out) hF2 (fun g hg e => by
        rcases e with e | e
        · exact (own_bt H.out.own hg).ne H.out.win.bt.1 (by decide) e
        · exact H.out.ne g hg e.symm)
      have HOS : Hid (∀ g, (Value.slice A' acc.length cp).ownBlock = some g → ¬ g = S) := fun g hg e => own_ne H.out.own H.out.st (by decide) (by rw [hg, e])
      have HOl : Hid (∀ g, (Value.slice A1 bs.length c1).ownBlock = some g → ¬ g = S) := fun g hg e => by have := (own_lt hO2 hg).1; have h1 := H.out.st.lt; have := Hbe.out.size; omega
      have H2 := Lib.hid (And.intro hW2 (And.intro hO2 (And.intro hF2 (And.intro hA2 (And.intro hN2 hS2)))))
      have hs2 : wr.heap.size ≤ w2.heap.size := Nat.le_trans Hbe.out.size hF2.size
      clear hW2 hO2 hF2 hA2 hN2 s0 s1 s2 s3 s4 y0 y1 y2 y3 hSb hSr
      go_upto_region 13 with (fail)
      obtain ⟨w3, hw3⟩ : ∃ w3, w2.alloc (.cells #[.int .i64 n', .int .i64 a', .int .i64 b', .int .i64 c', .int .i64 d'] 37) = w3 := ⟨_, rfl⟩
      obtain ⟨T3, hT3⟩ : ∃ T3, w2.heap.size = T3 := ⟨_, rfl⟩
      have hb3 : Below w2.heap.size w2 w3 := by rw [← hw3]; exact (Below.refl _ _).alloc (Nat.le_refl _) _
      have hT3b : Blk w3 T3 37 #[.int .i64 n', .int .i64 a', .int .i64 b', .int .i64 c', .int .i64 d'] := by rw [← hw3]; exact Blk.new_at hT3.symm
      simp only [hw3, hT3]
      obtain ⟨⟨t0, t1, t2, t3, t4⟩, _⟩ := st_five hT3b
      have hS3 := hS2.below hb3
      obtain ⟨⟨s0, s1, s2, s3, s4⟩, ⟨f0, f1, f2, f3, f4⟩⟩ := st_five hS3
      have hSl := hS3.lt
      obtain ⟨w4, hw4⟩ : ∃ w4, ((((w3.setCell ⟨S, 0, none⟩ (.int .i64 n')).setCell ⟨S, 1, none⟩ (.int .i64 a')).setCell ⟨S, 2, none⟩ (.int .i64 b')).setCell ⟨S, 3, none⟩ (.int .i64 c')).setCell ⟨S, 4, none⟩ (.int .i64 d') = w4 := ⟨_, rfl⟩
      have hF4 : Fr (fun k => k = S) w2 w4 := by rw [← hw4]; exact ((Fr.refl (fun k => k = S) w2).of_below' hb3).trans (win.fr5 S w3 _ _ _ _ _)
      have hS4 : Blk w4 S 37 (stC n' a' b' c' d') := by rw [← hw4]; exact set5_st hS3 n' a' b' c' d'
      have HO4 := Lib.hid (own_fr HO.out hF4 HOS.out)
      have HR4 := Lib.hid (Rd.of_own (own_fr H2.out.2.1 hF4 HOl.out))
      have hs4 : w.heap.size ≤ w4.heap.size := by have := hF4.size; have := H.out.below.size; omega
      have H4 := Lib.hid (And.intro hF4 hS4)
      clear hw3 hT3 hb3 hT3b hS2 hS3 hF4 hS4
      go_upto_region 14 with (fail)
      try simp only [hw4]
      clear hw4 t0 t1 t2 t3 t4 s0 s1 s2 s3 s4 f0 f1 f2 f3 f4 hSl
      go_wp2_with (at_builtin; refine wpList_append_rd (w := w4) rfl (.tmp 59) (.tmp 60) 34 rfl w.heap.size 5 i1 _ 1 1 Tryd.underlying34 hi1 hy0 hy1 hy2 rfl (by decide) (.slice A' acc.length cp) acc.length (bys acc) rfl HO4.out A1 bs.length c1 (bys bs) rfl HR4.out (bys_one _) (by simp only [maxLen]; omega) (by omega) hs4 ?_; intro A2 c2 w5 hown2 hg2 hat2)
      go_roundw
      case rel =>
        have hstep := H.out.step (t := ⟨n', a', b', c', d'⟩) Hbe.out (by rw [q3]; exact H2.out.1) H2.out.2.1 H2.out.2.2.1 H2.out.2.2.2.1 H2.out.2.2.2.2.1 H4.out.1 H4.out.2 hown2 hg2 hat2
        rw [q3] at hstep
        exact ⟨i + 1, p + z, ⟨n', a', b', c', d'⟩, acc ++ bs, A2, c2, r2, by go_num, by omega, by rw [List.length_append], hpz, by rw [List.length_append]; omega, HM2.out, hstep⟩
      case measure => simp [intOf]; omega
    · obtain rfl : i = n := by omega
      have hge : ¬ (i : Int) < (i : Int) := by omega
      obtain ⟨hmk, hacc⟩ := HM.out
      rw [List.drop_of_length_le (by have := Hll.out; omega)] at hmk
      obtain ⟨hpz, hst⟩ := hmk
      subst hst
      subst hpz
      have hPV : Blk wr B 45 #[.slice A m c, .int .i64 fr, .int .i64 p, .int .i64 di, .int .i64 nu, .int .i64 ra, .int .i64 rb, .int .i64 rc, .int .i64 rd] := by rw [HPV.out]; exact H.out.pc
      have hTV : Blk wr (B + 1) 37 #[.int .i64 tn, .int .i64 ta, .int .i64 tb, .int .i64 tc, .int .i64 td] := by rw [HTV.out]; exact H.out.la
      have hSV := H.out.st
      simp only [stC] at hSV
      obtain ⟨⟨c0, c1, c2, c3, c4, c5, c6, c7, c8⟩, _, _⟩ := hPV.nine
      obtain ⟨⟨t0, t1, t2, t3, t4⟩, _⟩ := st_five hTV
      obtain ⟨⟨s0, s1, s2, s3, s4⟩, _⟩ := st_five hSV
      have hds : l.take p = l.take fr ++ (l.drop fr).take (p - fr) := by
        have : p = fr + (p - fr) := by omega
        conv => lhs; rw [this]
        exact List.take_add ..
      have hac : acc = (l.drop fr).take (p - fr) := by
        rw [hds] at hacc
        exact List.append_cancel_left hacc
      obtain ⟨A2, hA2⟩ : ∃ A2, (if c = fr then A else A.map (·.add fr)) = A2 := ⟨_, rfl⟩
      have hcut := (((HI.out.1.below H.out.below).cut (k := fr) (by omega) hmc).take (k := p - fr) (by omega))
      rw [hA2] at hcut
      have hcv1 : ∀ a, (convert 34 9 (.slice A' acc.length cp)).run Tryd.prog (wr.drewN a) = .ok (.string (strOf acc)) (wr.drewN a) := fun a => conv_rd ((Rd.of_own H.out.own).keep (fun _ _ => rfl))
      have hcv2 : ∀ a, (convert 34 9 (.slice A2 (p - fr) (c - fr))).run Tryd.prog (wr.drewN a) = .ok (.string (strOf acc)) (wr.drewN a) := fun a => by
        rw [hac]
        exact conv_rd (hcut.1.keep (fun _ _ => rfl))
      have he := eqArr
      have hB : Hid (Below w.heap.size w wr) := H.out.below
      have hfp : (fr : Int) ≤ (p : Int) := by omega
      have hpc : (p : Int) ≤ (c : Int) := by omega
      clear hPV hTV hSV hds hac hcut hacc HM H
      go_upto_region 16 with (fail)
      go_quiet (fail)
      go_wp2_with fail
      go_ret
      exact ⟨rfl, below_drewN hB.out _⟩
end Go.Proofs.YthlflcnpmabmbaaDoor
