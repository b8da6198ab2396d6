/-
  Walk: the law CdcAlike returns true. Conditions: what is handed in lies in memory, at most 1048576 bytes each.
-/
import Derived.Test.YtglkahonejblpaaAlikeP
import Derived.Deep.CutBlock
import Derived.Outline
namespace Go.Proofs.Ytglkahonejblpaa
open Go.RowKit

/-- joined(joined(p, q), r) -/
theorem joined_sp (A C : Option Addr) (n c m cc : Nat) (l r : List UInt8) (w W : World) (h : In w A n l) (h2 : In w C m r) (hb : Below w.heap.size w W) (hn : n ≤ 17179869184) (hm : m ≤ 17179869184) :
    Calls Try.prog 19 #[.slice A n c, .slice C m cc] W fun e w' => ∃ O oc, e = .returned (.slice O (n + m) oc) ∧ In w' O (n + m) (l ++ r) ∧ n + m ≤ oc ∧ Below w.heap.size w w' := by
  refine (joined_any A C n c m cc l r W (h.below hb) (h2.below hb) hn hm).mono ?_
  rintro e w' ⟨O, oc, rfl, hO, hb2⟩
  exact ⟨O, oc, rfl, In.of_own hO (by omega), own_le hO, bup hb hb2⟩
theorem drop_front (A M B : List UInt8) (k : Nat) : (A ++ M ++ B).drop (A.length + M.length + k) = B.drop k := by
  rw [← List.drop_drop, ← List.length_append, List.drop_left]
theorem cutsAt_len (least most bits : Int) (l : List UInt8) : ∀ (f i : Nat), l.length ≤ f → (cutsAt least most bits i l).length ≤ l.length := by
  intro f
  induction f generalizing l with
  | zero =>
    intro i h
    have : l = [] := List.length_eq_zero_iff.1 (by omega)
    subst this
    exact Nat.le_refl _
  | succ f ih =>
    intro i h
    by_cases hl : l = []
    · subst hl; exact Nat.le_refl _
    · have hp := piece_bd least most bits l hl
      rw [cutsAt_cons _ _ _ _ _ hl, List.length_cons]
      have := ih (l.drop (pieceLen least most bits l)) (i + pieceLen least most bits l) (by rw [List.length_drop]; omega)
      rw [List.length_drop] at this
      omega
set_option maxHeartbeats 8000000 in
set_option maxRecDepth 100000 in
theorem alike_law (A M N B : Option Addr) (an ac mn mc nn nc bn bc : Nat) (la lm ln lb : List UInt8) (least most bits : Int) (w : World) (hA : In w A an la) (hM : In w M mn lm) (hN : In w N nn ln) (hB : In w B bn lb) (ha : an ≤ 1048576) (hm : mn ≤ 1048576) (hn : nn ≤ 1048576) (hb : bn ≤ 1048576) :
    Calls Try.prog 5 #[.agg #[.slice A an ac, .slice M mn mc, .slice N nn nc, .slice B bn bc], .agg #[.int .i64 least, .int .i64 most, .int .i64 bits]] w fun e w' => e = .returned (.bool true) ∧ Below w.heap.size w w' := by
  obtain ⟨w0, hw0⟩ : ∃ w0, (w.alloc (.cells #[.slice A an ac, .slice M mn mc, .slice N nn nc, .slice B bn bc] 56)).alloc (.cells #[.int .i64 least, .int .i64 most, .int .i64 bits] 23) = w0 := ⟨_, rfl⟩
  have Hb0 : Hid (Below w.heap.size w w0) := by rw [← hw0]; exact bmk_ (bmk_ (Below.refl _ _) _) _
  obtain ⟨Z, hZ⟩ : ∃ Z, w.heap.size = Z := ⟨_, rfl⟩
  have HX : Hid (Blk w0 Z 56 #[.slice A an ac, .slice M mn mc, .slice N nn nc, .slice B bn bc] ∧ Blk w0 (Z + 1) 23 #[.int .i64 least, .int .i64 most, .int .i64 bits]) := by
    rw [← hw0, ← hZ]; exact ⟨(Blk.new _ _ _).alloc _, Blk.new_at (by simp)⟩
  have HT : Hid (∀ W : World, Below w0.heap.size w0 W → W.cell? ⟨Z, 0, none⟩ = some (.slice A an ac) ∧ W.cell? ⟨Z, 1, none⟩ = some (.slice M mn mc) ∧ W.cell? ⟨Z, 2, none⟩ = some (.slice N nn nc) ∧ W.cell? ⟨Z, 3, none⟩ = some (.slice B bn bc)) := fun W hW => (HX.out.1.below hW).four
  have HC : Hid (∀ W : World, Below w0.heap.size w0 W → W.cell? ⟨Z + 1, 0, none⟩ = some (.int .i64 least) ∧ W.cell? ⟨Z + 1, 1, none⟩ = some (.int .i64 most) ∧ W.cell? ⟨Z + 1, 2, none⟩ = some (.int .i64 bits)) := fun W hW => ⟨(HX.out.2.below hW).cell 0, (HX.out.2.below hW).cell 1, (HX.out.2.below hW).cell 2⟩
  have HI : Hid (In w0 A an la ∧ In w0 M mn lm ∧ In w0 N nn ln ∧ In w0 B bn lb) := ⟨hA.below Hb0.out, hM.below Hb0.out, hN.below Hb0.out, hB.below Hb0.out⟩
  have HJ1 := Lib.hid (fun (W : World) (hW : Below w0.heap.size w0 W) => joined_sp A M an ac mn mc la lm w0 W HI.out.1 HI.out.2.1 hW (by omega) (by omega))
  have HJ2 := Lib.hid (fun (W : World) (hW : Below w0.heap.size w0 W) => joined_sp A N an ac nn nc la ln w0 W HI.out.1 HI.out.2.2.1 hW (by omega) (by omega))
  have HJ3 := Lib.hid (fun (V W : World) (O : Option Addr) (k oc : Nat) (l : List UInt8) (hV : Below w0.heap.size w0 V) (hO : In V O k l) (hk : k ≤ 17179869184) (hW : Below V.heap.size V W) => joined_sp O B k oc bn bc l lb V W hO (HI.out.2.2.2.below hV) hW hk (by omega))
  have hz0 : Z < w0.heap.size := HX.out.1.lt
  have hz1 : Z + 1 < w0.heap.size := HX.out.2.lt
  obtain ⟨x0, x1, x2, x3⟩ := HT.out w0 (Below.refl _ _)
  clear hA hM hN hB
  go_enter Try.func5, Try.ntmps5
  go_upto_region 1 with (fail)
  go_cut [5] (fun s5 wy => ∃ (O : Option Addr) (oc : Nat), s5 = .slice O (an + mn + bn) oc ∧ an + mn + bn ≤ oc ∧ Hid (In wy O (an + mn + bn) (la ++ lm ++ lb) ∧ Below w0.heap.size w0 wy))
  case first =>
    go_region_held3 (fun w' => w'.cell? ⟨Z, 0, none⟩ = some (.slice A an ac) ∧ w'.cell? ⟨Z, 1, none⟩ = some (.slice M mn mc) ∧ w'.cell? ⟨Z, 2, none⟩ = some (.slice N nn nc) ∧ w'.cell? ⟨Z, 3, none⟩ = some (.slice B bn bc))
      (first | (with_reducible exact ⟨x0, x1, x2, x3⟩) | (with_reducible exact ⟨p0, p1, p2, p3⟩) | (with_reducible exact ⟨q0, q1, q2, q3⟩) | go_keep)
      (first | (go_at_call 19; refine (HJ3.out wp _ O1 _ o1c _ hbp hO1 (by omega) (by first | (with_reducible exact (Below.refl _ _)) | (with_reducible exact (Below.refl _ _).drew))).mono ?_; rintro en wq ⟨O2, o2c, rfl, hO2, hoc2, hbq1⟩; have hbq : Below w0.heap.size w0 wq := bup hbp hbq1; obtain ⟨q0, q1, q2, q3⟩ := HT.out wq hbq) | (go_at_call 19; refine (HJ1.out _ (by first | (with_reducible exact (Below.refl _ _)) | (with_reducible exact (Below.refl _ _).drew))).mono ?_; rintro en wp ⟨O1, o1c, rfl, hO1, hoc1, hbp⟩; obtain ⟨p0, p1, p2, p3⟩ := HT.out wp hbp))
    all_goals go_wp2_with fail
    all_goals go_meet
    all_goals exact ⟨O2, o2c, rfl, hoc2, hO2, hbq⟩
  case rest =>
    obtain ⟨Ox, ox, rfl, hox, HXx⟩ := hcut
    obtain ⟨w1, rfl⟩ : ∃ w1 : World, w1 = wc := ⟨_, rfl⟩
    clear x0 x1 x2 x3
    obtain ⟨x0, x1, x2, x3⟩ := HT.out w1 HXx.out.2
    have HJ4 := Lib.hid (fun (W : World) (hW : Below w1.heap.size w1 W) => joined_sp A N an ac nn nc la ln w1 W (HI.out.1.below HXx.out.2) (HI.out.2.2.1.below HXx.out.2) hW (by omega) (by omega))
    have HT1 : Hid (∀ W : World, Below w1.heap.size w1 W → W.cell? ⟨Z, 0, none⟩ = some (.slice A an ac) ∧ W.cell? ⟨Z, 1, none⟩ = some (.slice M mn mc) ∧ W.cell? ⟨Z, 2, none⟩ = some (.slice N nn nc) ∧ W.cell? ⟨Z, 3, none⟩ = some (.slice B bn bc)) := fun W hW => HT.out W (bup HXx.out.2 hW)
    have HJ5 := Lib.hid (fun (V W : World) (O : Option Addr) (k oc : Nat) (l : List UInt8) (hV : Below w1.heap.size w1 V) (hO : In V O k l) (hk : k ≤ 17179869184) (hW : Below V.heap.size V W) => joined_sp O B k oc bn bc l lb V W hO ((HI.out.2.2.2.below HXx.out.2).below hV) hW hk (by omega))
    have hz3 : Z < w1.heap.size := by have := HXx.out.2.size; omega
    have hz4 : Z + 1 < w1.heap.size := by have := HXx.out.2.size; omega
    go_upto_region 2 with (fail)
    go_cut [6] (fun s6 wy => ∃ (O : Option Addr) (oc : Nat), s6 = .slice O (an + nn + bn) oc ∧ an + nn + bn ≤ oc ∧ Hid (In wy O (an + nn + bn) (la ++ ln ++ lb) ∧ Below w1.heap.size w1 wy))
    case first =>
      go_region_held3 (fun w' => w'.cell? ⟨Z, 0, none⟩ = some (.slice A an ac) ∧ w'.cell? ⟨Z, 1, none⟩ = some (.slice M mn mc) ∧ w'.cell? ⟨Z, 2, none⟩ = some (.slice N nn nc) ∧ w'.cell? ⟨Z, 3, none⟩ = some (.slice B bn bc))
        (first | (with_reducible exact ⟨x0, x1, x2, x3⟩) | (with_reducible exact ⟨p0, p1, p2, p3⟩) | (with_reducible exact ⟨q0, q1, q2, q3⟩) | go_keep)
        (first | (go_at_call 19; refine (HJ5.out wp _ O1 _ o1c _ hbp hO1 (by omega) (by first | (with_reducible exact (Below.refl _ _)) | (with_reducible exact (Below.refl _ _).drew))).mono ?_; rintro en wq ⟨O2, o2c, rfl, hO2, hoc2, hbq1⟩; have hbq : Below w1.heap.size w1 wq := bup hbp hbq1; obtain ⟨q0, q1, q2, q3⟩ := HT1.out wq hbq) | (go_at_call 19; refine (HJ4.out _ (by first | (with_reducible exact (Below.refl _ _)) | (with_reducible exact (Below.refl _ _).drew))).mono ?_; rintro en wp ⟨O1, o1c, rfl, hO1, hoc1, hbp⟩; obtain ⟨p0, p1, p2, p3⟩ := HT1.out wp hbp))
      all_goals go_wp2_with fail
      all_goals go_meet
      all_goals exact ⟨O2, o2c, rfl, hoc2, hO2, hbq⟩
    case rest =>
      obtain ⟨Oy, oy, rfl, hoy, HYy⟩ := hcut
      obtain ⟨w2, rfl⟩ : ∃ w2 : World, w2 = wc := ⟨_, rfl⟩
      have Hb2 : Hid (Below w0.heap.size w0 w2) := bup HXx.out.2 HYy.out.2
      have HX2 : Hid (In w2 Ox (an + mn + bn) (la ++ lm ++ lb)) := HXx.out.1.below HYy.out.2
      have HY2 : Hid (In w2 Oy (an + nn + bn) (la ++ ln ++ lb)) := HYy.out.1
      clear x0 x1 x2 x3 HJ1 HJ2 HJ3 HJ4 HJ5 HT1 hz3 hz4 HXx HYy
      obtain ⟨lx, hlx⟩ : ∃ lx, la ++ lm ++ lb = lx := ⟨_, rfl⟩
      obtain ⟨ly, hly⟩ : ∃ ly, la ++ ln ++ lb = ly := ⟨_, rfl⟩
      rw [hlx] at HX2
      rw [hly] at HY2
      have Hlx := Lib.hid hlx
      have Hly := Lib.hid hly
      have HlA := Lib.hid HI.out.1.len
      have HlM := Lib.hid HI.out.2.1.len
      have HlN := Lib.hid HI.out.2.2.1.len
      clear hlx hly
      by_cases hok : CutsOk least most bits
      · have hdec : decide (CutsOk least most bits) = true := decide_eq_true hok
        have Hok := Lib.hid hok
        clear hok
        obtain ⟨y0, y1, y2⟩ := HC.out w2 Hb2.out
        go_wp2_with fail
        refine (Cut_yes Ox (an + mn + bn) ox lx least most bits w2 HX2.out hox (by omega) Hok.out).mono ?_
        rintro e w3 ⟨L, lc, rfl, hL, hb3⟩
        obtain ⟨cl, hcl⟩ : ∃ cl, cutsL least most bits lx = cl := ⟨_, rfl⟩
        rw [hcl] at hL ⊢
        have HCL := Lib.hid hcl
        clear hcl
        have Hb3 : Hid (Below w0.heap.size w0 w3) := bup Hb2.out hb3
        have HL3 := Lib.hid hL
        have HY3 := Lib.hid (HY2.out.below hb3)
        clear y0 y1 y2 hL hb3 HX2 HY2
        obtain ⟨y0, y1, y2⟩ := HC.out w3 Hb3.out
        go_wp2_with fail
        refine (Cut_yes Oy (an + nn + bn) oy ly least most bits w3 HY3.out hoy (by omega) Hok.out).mono ?_
        rintro e w4 ⟨K, kc, rfl, hK, hb4⟩
        obtain ⟨cm, hcm⟩ : ∃ cm, cutsL least most bits ly = cm := ⟨_, rfl⟩
        rw [hcm] at hK ⊢
        have HCM := Lib.hid hcm
        clear hcm
        have HL4 := Lib.hid (own_below HL3.out hb4)
        have HK4 := Lib.hid hK
        have Hb4 : Hid (Below w0.heap.size w0 w4) := bup Hb3.out hb4
        clear y0 y1 y2 hK hb4 HL3 HY3
        go_wp2_with fail
        refine (fixed_any w4).mono ?_
        rintro e w5 ⟨rfl, hb5⟩
        have Hb5 : Hid (Below w0.heap.size w0 w5) := bup Hb4.out hb5
        have HL5 := Lib.hid (own_below HL4.out hb5)
        have HK5 := Lib.hid (own_below HK4.out hb5)
        clear hb5 HL4 HK4
        obtain ⟨y0, y1, y2⟩ := HC.out w5 Hb5.out
        have HR := Lib.hid (right_any least most bits w5)
        rw [hdec] at HR
        go_wp2_with fail
        refine HR.out.mono ?_
        rintro e w6 ⟨rfl, hb6⟩
        have Hb6 : Hid (Below w0.heap.size w0 w6) := bup Hb5.out hb6
        have HL6 := Lib.hid (own_below HL5.out hb6)
        have HK6 := Lib.hid (own_below HK5.out hb6)
        clear hb6 y0 y1 y2 HL5 HK5 HR Hb5 Hb4 Hb3 Hb2
        have hll : lx.length = an + mn + bn := by rw [← Hlx.out, List.length_append, List.length_append, HlA.out, HlM.out, HI.out.2.2.2.len]
        have hly2 : ly.length = an + nn + bn := by rw [← Hly.out, List.length_append, List.length_append, HlA.out, HlN.out, HI.out.2.2.2.len]
        have hql := cutsAt_len least most bits lx _ 0 (Nat.le_refl _)
        have hqm := cutsAt_len least most bits ly _ 0 (Nat.le_refl _)
        rw [show cutsAt least most bits 0 lx = cl from HCL.out] at hql
        rw [show cutsAt least most bits 0 ly = cm from HCM.out] at hqm
        have HF1 : Hid (∀ t e : Nat, cl[t]? = some e → e ≤ an → e < an + mn + bn → cm[t]? = some e) := fun t e h1 h2 h3 => by
          have := front_alike least most bits (lm ++ lb) (ln ++ lb) t la 0 e (by rw [← List.append_assoc, Hlx.out]; rw [← HCL.out] at h1; exact h1) (by rw [Nat.zero_add, HlA.out]; exact h2) (by rw [← List.append_assoc, Hlx.out, hll]; omega)
          rw [← List.append_assoc, Hly.out] at this
          rw [← HCM.out]
          exact this
        have HF2 : Hid (∀ t e : Nat, cm[t]? = some e → e ≤ an → e < an + nn + bn → cl[t]? = some e) := fun t e h1 h2 h3 => by
          have := front_alike least most bits (ln ++ lb) (lm ++ lb) t la 0 e (by rw [← List.append_assoc, Hly.out]; rw [← HCM.out] at h1; exact h1) (by rw [Nat.zero_add, HlA.out]; exact h2) (by rw [← List.append_assoc, Hly.out, hly2]; omega)
          rw [← List.append_assoc, Hlx.out] at this
          rw [← HCL.out]
          exact this
        have HB1 : Hid (∀ x, x ∈ cl → 0 < x ∧ x ≤ an + mn + bn) := fun x hx => by
          have := cutsAt_gt least most bits lx _ 0 (Nat.le_refl _) x (by rw [show cutsAt least most bits 0 lx = cl from HCL.out]; exact hx)
          omega
        have HB2 : Hid (∀ x, x ∈ cm → 0 < x ∧ x ≤ an + nn + bn) := fun x hx => by
          have := cutsAt_gt least most bits ly _ 0 (Nat.le_refl _) x (by rw [show cutsAt least most bits 0 ly = cm from HCM.out]; exact hx)
          omega
        obtain ⟨ql, hqle⟩ : ∃ q, cl.length = q := ⟨_, rfl⟩
        obtain ⟨qm, hqme⟩ : ∃ q, cm.length = q := ⟨_, rfl⟩
        have hlc := own_le HL6.out
        have hkc := own_le HK6.out
        have HNl : Hid (InN w6 L cl.length cl) := InN.of_own HL6.out (by omega)
        have HNm : Hid (InN w6 K cm.length cm) := InN.of_own HK6.out (by omega)
        rw [hqle] at hlc hql HNl ⊢
        rw [hqme] at hkc hqm HNm ⊢
        have Hqle := Lib.hid hqle
        have Hqme := Lib.hid hqme
        rw [hll] at hql
        rw [hly2] at hqm
        have HBE : Hid (∀ k : Nat, (an + mn + k) ∈ cl → (an + nn + k) ∈ cm → behindL ((an + mn + k : Nat) : Int) cl = behindL ((an + nn + k : Nat) : Int) cm) := fun k h1 h2 => by
          have e1 := behind_end least most bits lx _ 0 (an + mn + k) (Nat.le_refl _) (by rw [show cutsAt least most bits 0 lx = cl from HCL.out]; exact h1)
          have e2 := behind_end least most bits ly _ 0 (an + nn + k) (Nat.le_refl _) (by rw [show cutsAt least most bits 0 ly = cm from HCM.out]; exact h2)
          rw [show cutsAt least most bits 0 lx = cl from HCL.out] at e1
          rw [show cutsAt least most bits 0 ly = cm from HCM.out] at e2
          rw [e1, e2, ← Hlx.out, ← Hly.out, Nat.sub_zero, Nat.sub_zero, ← HlA.out, ← HlM.out, ← HlN.out, drop_front, drop_front]
        clear hqle hqme HL6 HK6 HCL HCM hll hly2
        have hzz : Z < w6.heap.size := by have := Hb6.out.size; omega
        go_upto_region 9 with (fail)
        go_upto_block 0 with (fail)
        go_cut [7] (fun s7 wy => s7 = .slice L ql lc ∧ Hid (Below w6.heap.size w6 wy))
        case first =>
          go_wp2_with fail
          go_loopw [11] (fun sq wr => ∃ (i : Nat), sq = .int .i64 (i : Int) ∧ i ≤ ql ∧ Hid (Below w6.heap.size w6 wr)) (fun sq _ => ql - (intOf sq).toNat)
          case atStart => exact ⟨0, rfl, Nat.zero_le _, Below.refl _ _⟩
          case round =>
            obtain ⟨i, rfl, hi, Hb⟩ := hrel
            have hz6 : Z < wr.heap.size := by have := Hb.out.size; omega
            obtain ⟨x0, x1, x2, x3⟩ := HT.out wr (bup Hb6.out Hb.out)
            by_cases hlt : i < ql
            · have hlt' : (i : Int) < (ql : Int) := by omega
              have hic : i ≤ lc ∧ i < lc := by omega
              obtain ⟨e, he⟩ : ∃ e, cl[i]? = some e := ⟨_, List.getElem?_eq_getElem (by rw [Hqle.out]; exact hlt)⟩
              obtain ⟨b1, o1, rfl, hb1, hc1⟩ := (HNl.out.below Hb.out).2.2 (by omega)
              have z1 := hc1 i e he
              have hbd := HB1.out e (List.mem_of_getElem? he)
              have He := Lib.hid he
              clear hc1 he
              by_cases hA1 : e ≤ an
              · have hA1' : (e : Int) ≤ (an : Int) := by omega
                by_cases hX1 : e < an + mn + bn
                · have hX1' : (e : Int) < (an : Int) + (mn : Int) + (bn : Int) := by omega
                  by_cases hY1 : e < an + nn + bn
                  · have hY1' : (e : Int) < (an : Int) + (nn : Int) + (bn : Int) := by omega
                    have he2 := HF1.out i e He.out hA1 (by omega)
                    have hiq : i < qm := by
                      have := (List.getElem?_eq_some_iff.1 he2).1
                      rw [Hqme.out] at this
                      exact this
                    have hiq' : ¬ (qm : Int) ≤ (i : Int) := by omega
                    have hiq2 : decide ((qm : Int) ≤ (i : Int)) = false := decide_eq_false hiq'
                    have hiq3 : (i : Int) < (qm : Int) := by omega
                    have hic2 : i ≤ kc ∧ i < kc := by omega
                    obtain ⟨b2, o2, rfl, hb2, hc2⟩ := (HNm.out.below Hb.out).2.2 (by omega)
                    have z2 := hc2 i e he2
                    clear hc2 he2
                    go_wp2_with fail
                    go_quiet (fail)
                    go_wp2_with fail
                    go_quiet (fail)
                    go_wp2_with fail
                    go_roundw
                    case rel => exact ⟨i + 1, by go_num, by omega, by first | exact below_drewN Hb.out _ | exact below_drewN (below_drewN Hb.out _) _⟩
                    case measure => simp [intOf]; omega
                  · have hY1' : decide ((e : Int) < (an : Int) + (nn : Int) + (bn : Int)) = false := decide_eq_false (by omega)
                    go_wp2_with fail
                    go_quiet (fail)
                    have Hb9 : Hid (Below w6.heap.size w6 (wr.drewN nq)) := below_drewN Hb.out _
                    go_wp2_with fail
                    go_meet
                    exact ⟨rfl, Hb9⟩
                · have hX1' : decide ((e : Int) < (an : Int) + (mn : Int) + (bn : Int)) = false := decide_eq_false (by omega)
                  go_wp2_with fail
                  go_quiet (fail)
                  have Hb9 : Hid (Below w6.heap.size w6 (wr.drewN nq)) := below_drewN Hb.out _
                  go_wp2_with fail
                  go_meet
                  exact ⟨rfl, Hb9⟩
              · have hA1' : decide ((e : Int) ≤ (an : Int)) = false := decide_eq_false (by omega)
                go_wp2_with fail
                go_quiet (fail)
                have Hb9 : Hid (Below w6.heap.size w6 (wr.drewN nq)) := below_drewN Hb.out _
                go_wp2_with fail
                go_meet
                exact ⟨rfl, Hb9⟩
            · have hlt' : decide ((i : Int) < (ql : Int)) = false := decide_eq_false (by omega)
              go_wp2_with fail
              go_quiet (fail)
              have Hb9 : Hid (Below w6.heap.size w6 (wr.drewN nq)) := below_drewN Hb.out _
              go_wp2_with fail
              go_meet
              exact ⟨rfl, Hb9⟩
        obtain ⟨rfl, Hb7⟩ := hcut
        go_upto_block 2 with (fail)
        go_cut [7] (fun s7 wy => s7 = .slice L ql lc ∧ Hid (Below w6.heap.size w6 wy))
        case first =>
          go_wp2_with fail
          go_loopw [12] (fun sq wr => ∃ (i : Nat), sq = .int .i64 (i : Int) ∧ i ≤ qm ∧ Hid (Below w6.heap.size w6 wr)) (fun sq _ => qm - (intOf sq).toNat)
          case atStart => exact ⟨0, rfl, Nat.zero_le _, Hb7⟩
          case round =>
            obtain ⟨i, rfl, hi, Hb⟩ := hrel
            have hz6 : Z < wr.heap.size := by have := Hb.out.size; omega
            obtain ⟨x0, x1, x2, x3⟩ := HT.out wr (bup Hb6.out Hb.out)
            by_cases hlt : i < qm
            · have hlt' : (i : Int) < (qm : Int) := by omega
              have hic : i ≤ kc ∧ i < kc := by omega
              obtain ⟨e, he⟩ : ∃ e, cm[i]? = some e := ⟨_, List.getElem?_eq_getElem (by rw [Hqme.out]; exact hlt)⟩
              obtain ⟨b1, o1, rfl, hb1, hc1⟩ := (HNm.out.below Hb.out).2.2 (by omega)
              have z1 := hc1 i e he
              have hbd := HB2.out e (List.mem_of_getElem? he)
              have He := Lib.hid he
              clear hc1 he
              by_cases hA1 : e ≤ an
              · have hA1' : (e : Int) ≤ (an : Int) := by omega
                by_cases hX1 : e < an + mn + bn
                · have hX1' : (e : Int) < (an : Int) + (mn : Int) + (bn : Int) := by omega
                  by_cases hY1 : e < an + nn + bn
                  · have hY1' : (e : Int) < (an : Int) + (nn : Int) + (bn : Int) := by omega
                    have he2 := HF2.out i e He.out hA1 (by omega)
                    have hiq : i < ql := by
                      have := (List.getElem?_eq_some_iff.1 he2).1
                      rw [Hqle.out] at this
                      exact this
                    have hiq' : ¬ (ql : Int) ≤ (i : Int) := by omega
                    have hiq2 : decide ((ql : Int) ≤ (i : Int)) = false := decide_eq_false hiq'
                    have hiq3 : (i : Int) < (ql : Int) := by omega
                    have hic2 : i ≤ lc ∧ i < lc := by omega
                    obtain ⟨b2, o2, rfl, hb2, hc2⟩ := (HNl.out.below Hb.out).2.2 (by omega)
                    have z2 := hc2 i e he2
                    clear hc2 he2
                    go_wp2_with fail
                    go_quiet (fail)
                    go_wp2_with fail
                    go_quiet (fail)
                    go_wp2_with fail
                    go_roundw
                    case rel => exact ⟨i + 1, by go_num, by omega, by first | exact below_drewN Hb.out _ | exact below_drewN (below_drewN Hb.out _) _⟩
                    case measure => simp [intOf]; omega
                  · have hY1' : decide ((e : Int) < (an : Int) + (nn : Int) + (bn : Int)) = false := decide_eq_false (by omega)
                    go_wp2_with fail
                    go_quiet (fail)
                    have Hb9 : Hid (Below w6.heap.size w6 (wr.drewN nq)) := below_drewN Hb.out _
                    go_wp2_with fail
                    go_meet
                    exact ⟨rfl, Hb9⟩
                · have hX1' : decide ((e : Int) < (an : Int) + (mn : Int) + (bn : Int)) = false := decide_eq_false (by omega)
                  go_wp2_with fail
                  go_quiet (fail)
                  have Hb9 : Hid (Below w6.heap.size w6 (wr.drewN nq)) := below_drewN Hb.out _
                  go_wp2_with fail
                  go_meet
                  exact ⟨rfl, Hb9⟩
              · have hA1' : decide ((e : Int) ≤ (an : Int)) = false := decide_eq_false (by omega)
                go_wp2_with fail
                go_quiet (fail)
                have Hb9 : Hid (Below w6.heap.size w6 (wr.drewN nq)) := below_drewN Hb.out _
                go_wp2_with fail
                go_meet
                exact ⟨rfl, Hb9⟩
            · have hlt' : decide ((i : Int) < (qm : Int)) = false := decide_eq_false (by omega)
              go_wp2_with fail
              go_quiet (fail)
              have Hb9 : Hid (Below w6.heap.size w6 (wr.drewN nq)) := below_drewN Hb.out _
              go_wp2_with fail
              go_meet
              exact ⟨rfl, Hb9⟩
        obtain ⟨rfl, Hb8⟩ := hcut
        obtain ⟨x0, x1, x2, x3⟩ := HT.out wc (bup Hb6.out Hb8.out)
        have hz8 : Z < wc.heap.size := by have := Hb8.out.size; omega
        clear HF1 HF2
        go_upto_block 4 with (fail)
        go_wp2_with fail
        go_loopw [15] (fun sq wr => ∃ (i : Nat), sq = .int .i64 (i : Int) ∧ i ≤ ql ∧ Hid (Below w6.heap.size w6 wr)) (fun sq _ => ql - (intOf sq).toNat)
        case atStart => exact ⟨0, rfl, Nat.zero_le _, Hb8⟩
        case round =>
          obtain ⟨i, rfl, hi, Hb⟩ := hrel
          by_cases hlt : i < ql
          · have hlt' : (i : Int) < (ql : Int) := by omega
            have hic : i ≤ lc ∧ i < lc := by omega
            obtain ⟨e, he⟩ : ∃ e, cl[i]? = some e := ⟨_, List.getElem?_eq_getElem (by rw [Hqle.out]; exact hlt)⟩
            obtain ⟨b1, o1, rfl, hb1, hc1⟩ := (HNl.out.below Hb.out).2.2 (by omega)
            have z1 := hc1 i e he
            have hbd := HB1.out e (List.mem_of_getElem? he)
            have He := Lib.hid he
            clear hc1 he
            by_cases hk : an + mn ≤ e
            · obtain ⟨k, hke⟩ : ∃ k, e = an + mn + k := ⟨e - (an + mn), by omega⟩
              have hk0 : (0 : Int) ≤ (e : Int) - ((an : Int) + (mn : Int)) := by omega
              have Hke := Lib.hid hke
              clear hke
              go_wp2_with fail
              refine (has_any K qm kc cm ((an : Int) + (nn : Int) + ((e : Int) - ((an : Int) + (mn : Int)))) _ (HNm.out.below Hb.out) hkc).mono ?_
              rintro e2 w9 ⟨rfl, rfl⟩
              by_cases hh : ∃ x, x ∈ cm ∧ (x : Int) = (an : Int) + (nn : Int) + ((e : Int) - ((an : Int) + (mn : Int)))
              · rw [decide_eq_true hh]
                go_wp2_with fail
                have hke := Hke.out
                obtain ⟨x, hx1, hx2⟩ := hh
                have hxe : x = an + nn + k := by omega
                rw [hxe] at hx1
                have HE := HBE.out k (by rw [← hke]; exact List.mem_of_getElem? He.out) hx1
                rw [show ((an + mn + k : Nat) : Int) = (an : Int) + (mn : Int) + ((e : Int) - ((an : Int) + (mn : Int))) from by omega, show ((an + nn + k : Nat) : Int) = (an : Int) + (nn : Int) + ((e : Int) - ((an : Int) + (mn : Int))) from by omega] at HE
                have hlb1 := behindL_len ((an : Int) + (mn : Int) + ((e : Int) - ((an : Int) + (mn : Int)))) cl
                have HT1 := Lib.hid (behind_any (some ⟨b1, o1, none⟩) ql lc cl ((an : Int) + (mn : Int) + ((e : Int) - ((an : Int) + (mn : Int)))) wr (HNl.out.below Hb.out) hlc (by omega) (by omega) (fun x hx => by have := HB1.out x hx; omega))
                have HT2 := Lib.hid (fun (W : World) (hW : Below w6.heap.size w6 W) => behind_any K qm kc cm ((an : Int) + (nn : Int) + ((e : Int) - ((an : Int) + (mn : Int)))) W (HNm.out.below hW) hkc (by omega) (by omega) (fun x hx => by have := HB2.out x hx; omega))
                rw [← HE] at HT2
                obtain ⟨bl, hbl⟩ : ∃ bl, behindL ((an : Int) + (mn : Int) + ((e : Int) - ((an : Int) + (mn : Int)))) cl = bl := ⟨_, rfl⟩
                rw [hbl] at HT1 HT2 hlb1
                rw [Hqle.out] at hlb1
                clear hbl HE hxe hx2 hke
                refine HT1.out.mono ?_
                rintro e3 w10 ⟨O1, c1, rfl, hO1, hb10⟩
                have Hb10 : Hid (Below w6.heap.size w6 w10) := bup Hb.out hb10
                have HO1 := Lib.hid hO1
                clear hO1 HT1
                go_wp2_with fail
                refine (HT2.out _ Hb10.out).mono ?_
                rintro e4 w11 ⟨O2, c2, rfl, hO2, hb11⟩
                have Hb11 : Hid (Below w6.heap.size w6 w11) := bup Hb10.out hb11
                have HO1' := Lib.hid (own_below HO1.out hb11)
                have HO2 := Lib.hid hO2
                clear hO2 HO1 HT2
                go_wp2_with fail
                refine (ints_same O1 O2 bl.length c1 c2 bl w11 (InN.of_own HO1'.out (by omega)) (InN.of_own HO2.out (by omega)) (own_le HO1'.out) (own_le HO2.out)).mono ?_
                rintro e5 w12 ⟨rfl, hb12⟩
                go_wp2_with fail
                go_ret
                exact ⟨rfl, by first | exact bup Hb0.out (bup Hb6.out (bup Hb11.out hb12)) | (rw [← hZ]; exact bup Hb0.out (bup Hb6.out (bup Hb11.out hb12)))⟩
              · rw [decide_eq_false hh]
                go_wp2_with fail
                go_roundw
                case rel => exact ⟨i + 1, by go_num, by omega, Hb⟩
                case measure => simp [intOf]; omega
            · have hk0 : decide ((0 : Int) ≤ (e : Int) - ((an : Int) + (mn : Int))) = false := decide_eq_false (by omega)
              go_wp2_with fail
              go_roundw
              case rel => exact ⟨i + 1, by go_num, by omega, Hb⟩
              case measure => simp [intOf]; omega
          · have hlt' : decide ((i : Int) < (ql : Int)) = false := decide_eq_false (by omega)
            go_wp2_with fail
            go_ret
            exact ⟨rfl, by first | exact bup Hb0.out (bup Hb6.out Hb.out) | (rw [← hZ]; exact bup Hb0.out (bup Hb6.out Hb.out))⟩
      · have hdec : decide (CutsOk least most bits) = false := decide_eq_false hok
        have Hok := Lib.hid hok
        clear hok
        obtain ⟨y0, y1, y2⟩ := HC.out w2 Hb2.out
        go_wp2_with fail
        refine (Cut_no Ox (an + mn + bn) ox least most bits w2 Hok.out).mono ?_
        rintro e w3 ⟨L, lc, rfl, hL, hb3⟩
        simp only [List.length_nil]
        have Hb3 : Hid (Below w0.heap.size w0 w3) := bup Hb2.out hb3
        have HL3 := Lib.hid hL
        have HY3 := Lib.hid (HY2.out.below hb3)
        clear y0 y1 y2 hL hb3 HX2 HY2
        obtain ⟨y0, y1, y2⟩ := HC.out w3 Hb3.out
        go_wp2_with fail
        refine (Cut_no Oy (an + nn + bn) oy least most bits w3 Hok.out).mono ?_
        rintro e w4 ⟨K, kc, rfl, hK, hb4⟩
        simp only [List.length_nil]
        have HL4 := Lib.hid (own_below HL3.out hb4)
        have HK4 := Lib.hid hK
        have Hb4 : Hid (Below w0.heap.size w0 w4) := bup Hb3.out hb4
        clear y0 y1 y2 hK hb4 HL3 HY3
        go_wp2_with fail
        refine (fixed_any w4).mono ?_
        rintro e w5 ⟨rfl, hb5⟩
        have Hb5 : Hid (Below w0.heap.size w0 w5) := bup Hb4.out hb5
        have HL5 := Lib.hid (own_below HL4.out hb5)
        have HK5 := Lib.hid (own_below HK4.out hb5)
        clear hb5 HL4 HK4
        obtain ⟨y0, y1, y2⟩ := HC.out w5 Hb5.out
        have HR := Lib.hid (right_any least most bits w5)
        rw [hdec] at HR
        go_wp2_with fail
        refine HR.out.mono ?_
        rintro e w6 ⟨rfl, hb6⟩
        have Hb6 : Hid (Below w0.heap.size w0 w6) := bup Hb5.out hb6
        have HL6 := Lib.hid (own_below HL5.out hb6)
        have HK6 := Lib.hid (own_below HK5.out hb6)
        clear hb6 y0 y1 y2 HL5 HK5 HR Hb5 Hb4 Hb3 Hb2
        go_wp2_with fail
        go_ret
        exact ⟨rfl, by first | exact bup Hb0.out Hb6.out | (rw [← hZ]; exact bup Hb0.out Hb6.out)⟩
end Go.Proofs.Ytglkahonejblpaa
