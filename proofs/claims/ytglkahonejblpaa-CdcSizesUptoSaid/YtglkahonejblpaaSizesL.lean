/-
  Walk: the law CdcSizes returns true. Conditions: the data lie in memory, at most 1048576 bytes.
-/
import Derived.Test.YtglkahonejblpaaSizesM
import Derived.Test.YtglkahonejblpaaAlikeP
import Derived.Deep.CutBlock
import Derived.Outline
namespace Go.Proofs.Ytglkahonejblpaa
open Go.RowKit

theorem cuts_len (least most bits : Int) (l : List UInt8) : ∀ (f i : Nat), l.length ≤ f → (cutsAt least most bits i l).length ≤ l.length := by
  intro f
  induction f generalizing l with
  | zero =>
    intro i h
    have : l = [] := List.length_eq_zero_iff.1 (by omega)
    subst this
    exact Nat.le_refl _
  | succ f ih =>
    intro i h
    by_cases hl : l = []
    · subst hl; exact Nat.le_refl _
    · have hp := piece_bd least most bits l hl
      rw [cutsAt_cons _ _ _ _ _ hl, List.length_cons]
      have := ih (l.drop (pieceLen least most bits l)) (i + pieceLen least most bits l) (by rw [List.length_drop]; omega)
      rw [List.length_drop] at this
      omega
/-- joined(p, nil) -/
theorem joined_nil (A : Option Addr) (n c : Nat) (l : List UInt8) (w : World) (h : In w A n l) (hn : n ≤ 17179869184) :
    Calls Try.prog 19 #[.slice A n c, .slice none 0 0] w fun e w' => ∃ O oc, e = .returned (.slice O n oc) ∧ Hid (In w' O n l ∧ w'.ownsRow w.heap.size 5 1 (.slice O n oc) n (bys l)) ∧ n ≤ oc ∧ Below w.heap.size w w' := by
  refine (joined_any A none n c 0 0 l [] w h (In.nil w) hn (by omega)).mono ?_
  rintro e w' ⟨O, oc, rfl, hO, hb2⟩
  rw [List.append_nil] at hO
  exact ⟨O, oc, rfl, ⟨In.of_own hO (by omega), hO⟩, own_le hO, hb2⟩
theorem Cut_in (A : Option Addr) (m c : Nat) (l : List UInt8) (cl : List Nat) (q : Nat) (least most bits : Int) (w : World) (hI : In w A m l) (hmc : m ≤ c) (hm : m ≤ 1048576) (hok : CutsOk least most bits) (hcl : cutsL least most bits l = cl) (hq : cl.length = q) :
    Calls Try.prog 18 #[.slice A m c, .agg #[.int .i64 least, .int .i64 most, .int .i64 bits]] w fun e w' => ∃ L lc, e = .returned (.tuple #[.slice L q lc, .int .i64 0]) ∧ Hid (InN w' L q cl) ∧ q ≤ lc ∧ Below w.heap.size w w' := by
  have h1 := cuts_len least most bits l _ 0 (Nat.le_refl _)
  rw [show cutsAt least most bits 0 l = cl from hcl, hI.len, hq] at h1
  refine (Cut_yes A m c l least most bits w hI hmc (by omega) hok).mono ?_
  rw [hcl]
  unfold CutPost
  rw [hq]
  rintro e w' ⟨L, lc, rfl, hL, hb⟩
  exact ⟨L, lc, rfl, InN.of_own hL (by omega), own_le hL, hb⟩
theorem Cut_none (A : Option Addr) (m c : Nat) (least most bits : Int) (w : World) (hok : ¬ CutsOk least most bits) :
    Calls Try.prog 18 #[.slice A m c, .agg #[.int .i64 least, .int .i64 most, .int .i64 bits]] w fun e w' => ∃ L lc, e = .returned (.tuple #[.slice L 0 lc, .int .i64 6]) ∧ Below w.heap.size w w' := by
  refine (Cut_no A m c least most bits w hok).mono ?_
  rintro e w' ⟨L, lc, rfl, hL, hb⟩
  exact ⟨L, lc, rfl, hb⟩
set_option maxHeartbeats 8000000 in
set_option maxRecDepth 100000 in
theorem sizes_law (A : Option Addr) (an ac : Nat) (la : List UInt8) (least most bits x : Int) (w : World) (hA : In w A an la) (hac : an ≤ ac) (ha : an ≤ 1048576) (hx0 : -9223372036854775808 ≤ x) (hx1 : x ≤ 9223372036854775807) :
    Calls Try.prog 4 #[.slice A an ac, .agg #[.int .i64 least, .int .i64 most, .int .i64 bits], .int .i64 x] w fun e w' => e = .returned (.bool true) ∧ Below w.heap.size w w' := by
  obtain ⟨w0, hw0⟩ : ∃ w0, w.alloc (.cells #[.int .i64 least, .int .i64 most, .int .i64 bits] 23) = w0 := ⟨_, rfl⟩
  have Hb0 : Hid (Below w.heap.size w w0) := by rw [← hw0]; exact bmk_ (Below.refl _ _) _
  obtain ⟨Z, hZ⟩ : ∃ Z, w.heap.size = Z := ⟨_, rfl⟩
  have HX : Hid (Blk w0 Z 23 #[.int .i64 least, .int .i64 most, .int .i64 bits]) := by rw [← hw0, ← hZ]; exact Blk.new _ _ _
  have HC : Hid (∀ W : World, Below w0.heap.size w0 W → W.cell? ⟨Z, 0, none⟩ = some (.int .i64 least) ∧ W.cell? ⟨Z, 1, none⟩ = some (.int .i64 most) ∧ W.cell? ⟨Z, 2, none⟩ = some (.int .i64 bits)) := fun W hW => ⟨(HX.out.below hW).cell 0, (HX.out.below hW).cell 1, (HX.out.below hW).cell 2⟩
  have HI : Hid (In w0 A an la) := hA.below Hb0.out
  have HJ := Lib.hid (fun (V W : World) (B : Option Addr) (k kc : Nat) (l : List UInt8) (hV : Below w0.heap.size w0 V) (hB : In V B k l) (hk : k ≤ 1048576) (hW : Below V.heap.size V W) => joined_nil B k kc l W (hB.below hW) (by omega))
  have hz0 : Z < w0.heap.size := HX.out.lt
  obtain ⟨x0, x1, x2⟩ := HC.out w0 (Below.refl _ _)
  have HlA := Lib.hid HI.out.len
  clear hA
  by_cases hok : CutsOk least most bits
  · have hdec : decide (CutsOk least most bits) = true := decide_eq_true hok
    have Hok := Lib.hid hok
    obtain ⟨hk1, hk2, hk3, hk4, hk5⟩ := hok
    obtain ⟨cl, hcl⟩ : ∃ cl, cutsL least most bits la = cl := ⟨_, rfl⟩
    obtain ⟨q, hq⟩ : ∃ q, cl.length = q := ⟨_, rfl⟩
    have Hcl := Lib.hid hcl
    have Hq := Lib.hid hq
    have hql := cuts_len least most bits la _ 0 (Nat.le_refl _)
    rw [show cutsAt least most bits 0 la = cl from hcl, HlA.out, hq] at hql
    clear hcl hq
    go_enter Try.func4, Try.ntmps4
    go_upto_region 1 with (fail)
    go_cut [7, 8] (fun s7 s8 wy => ∃ (L : Option Addr) (lc : Nat), s7 = .slice L q lc ∧ s8 = .int .i64 0 ∧ q ≤ lc ∧ Hid (InN wy L q cl ∧ Below w0.heap.size w0 wy))
    case first => as_aux_lemma =>
      go_region_held3 (fun w' => w'.cell? ⟨Z, 0, none⟩ = some (.int .i64 least) ∧ w'.cell? ⟨Z, 1, none⟩ = some (.int .i64 most) ∧ w'.cell? ⟨Z, 2, none⟩ = some (.int .i64 bits))
        (first | (with_reducible exact ⟨x0, x1, x2⟩) | (with_reducible exact ⟨p0, p1, p2⟩) | (with_reducible exact ⟨q0, q1, q2⟩) | go_keep)
        (first | (go_at_call 18; refine (Cut_in O1 an o1c la cl q least most bits _ (hO1.out.1.below (by first | (with_reducible exact (Below.refl _ _)) | (with_reducible exact (Below.refl _ _).drew))) hoc1 (by omega) Hok.out Hcl.out Hq.out).mono ?_; rintro en wq ⟨L, lc, rfl, hL, hlc, hbq1⟩; have hbq : Below w0.heap.size w0 wq := bup hbp (bup (by first | (with_reducible exact (Below.refl _ _)) | (with_reducible exact (Below.refl _ _).drew)) hbq1); obtain ⟨q0, q1, q2⟩ := HC.out wq hbq) | (go_at_call 19; refine (HJ.out w0 _ A an ac la (Below.refl _ _) HI.out (by omega) (by first | (with_reducible exact (Below.refl _ _)) | (with_reducible exact (Below.refl _ _).drew))).mono ?_; rintro en wp ⟨O1, o1c, rfl, hO1, hoc1, hbp1⟩; have hbp : Below w0.heap.size w0 wp := bup (by first | (with_reducible exact (Below.refl _ _)) | (with_reducible exact (Below.refl _ _).drew)) hbp1; obtain ⟨p0, p1, p2⟩ := HC.out wp hbp))
      all_goals go_wp2_with fail
      all_goals go_meet
      all_goals exact ⟨L, lc, rfl, rfl, hlc, hL.out, hbq⟩
    case rest => as_aux_lemma =>
      obtain ⟨L, lc, rfl, rfl, hlc, HL⟩ := hcut
      obtain ⟨w1, rfl⟩ : ∃ w1 : World, w1 = wc := ⟨_, rfl⟩
      clear x0 x1 x2
      go_wp2_with fail
      refine (fixed_any w1).mono ?_
      rintro e w2 ⟨rfl, hb2⟩
      have Hb2 : Hid (Below w0.heap.size w0 w2) := bup HL.out.2 hb2
      have HL2 : Hid (InN w2 L q cl) := HL.out.1.below hb2
      clear hb2 HL
      obtain ⟨x0, x1, x2⟩ := HC.out w2 Hb2.out
      have HR := Lib.hid (right_any least most bits w2)
      rw [hdec] at HR
      go_wp2_with fail
      refine HR.out.mono ?_
      rintro e w3 ⟨rfl, hb3⟩
      have Hb3 : Hid (Below w0.heap.size w0 w3) := bup Hb2.out hb3
      have HL3 : Hid (InN w3 L q cl) := HL2.out.below hb3
      clear hb3 HL2 Hb2 x0 x1 x2 HR
      have hz3 : Z < w3.heap.size := by have := Hb3.out.size; omega
      go_upto_region 7 with (fail)
      go_upto_block 0 with (fail)
      go_cut [9] (fun s9 wy => s9 = .int .i64 (an : Int) ∧ Hid (Below w3.heap.size w3 wy))
      case first => as_aux_lemma =>
        --<L1
        go_wp2_with fail
        go_loopw [9, 10] (fun s9 s10 wr => ∃ (i : Nat), s9 = .int .i64 (prv 0 cl i : Int) ∧ s10 = .int .i64 (i : Int) ∧ i ≤ q ∧ Hid (Below w3.heap.size w3 wr)) (fun _ s10 _ => q - (intOf s10).toNat)
        case atStart => exact ⟨0, rfl, rfl, Nat.zero_le _, Below.refl _ _⟩
        case round => as_aux_lemma =>
          obtain ⟨i, rfl, rfl, hi, Hb⟩ := hrel
          have hz6 : Z < wr.heap.size := by have := Hb.out.size; omega
          obtain ⟨x0, x1, x2⟩ := HC.out wr (bup Hb3.out Hb.out)
          by_cases hlt : i < q
          · have hlt' : (i : Int) < (q : Int) := by omega
            have hic : i ≤ lc ∧ i < lc := by omega
            obtain ⟨e, he⟩ : ∃ e, cl[i]? = some e := ⟨_, List.getElem?_eq_getElem (by rw [Hq.out]; exact hlt)⟩
            obtain ⟨b1, o1, rfl, hb1, hc1⟩ := (HL3.out.below Hb.out).2.2 (by omega)
            have z1 := hc1 i e he
            have hs := cut_sizes least most bits Hok.out la _ 0 i e (Nat.le_refl _) (by rw [show cutsAt least most bits 0 la = cl from Hcl.out]; exact he)
            rw [show cutsAt least most bits 0 la = cl from Hcl.out, HlA.out] at hs
            obtain ⟨f, hf⟩ : ∃ f, prv 0 cl i = f := ⟨_, rfl⟩
            rw [hf] at hs ⊢
            obtain ⟨_, hs1, hs2, hs3, hs4⟩ := hs
            have He := Lib.hid he
            clear hc1 he hf
            have d1 : decide ((e : Int) - (f : Int) < 1) = false := decide_eq_false (by omega)
            have d2 : decide (most < (e : Int) - (f : Int)) = false := decide_eq_false (by omega)
            have d4 : decide ((an : Int) < (e : Int)) = false := decide_eq_false (by omega)
            go_upto_region 11 with (fail)
            go_cut [93] (fun s93 wy => s93 = .bool false ∧ wr = wy)
            case first => as_aux_lemma =>
              by_cases hmn : (e : Int) - (f : Int) < least
              · obtain rfl : e = an := by have := hs3 (by omega); omega
                go_wp2_with fail
                go_meet
                exact ⟨rfl, rfl⟩
              · have hmn' : decide ((e : Int) - (f : Int) < least) = false := decide_eq_false hmn
                go_wp2_with fail
                go_meet
                exact ⟨congrArg Value.bool (decide_eq_false (by omega)), rfl⟩
            case rest => as_aux_lemma =>
              obtain ⟨rfl, rfl⟩ := hcut
              obtain ⟨A2, hA2⟩ : ∃ A2, (if ac = e then A else A.map (·.add e)) = A2 := ⟨_, rfl⟩
              have hea : e ≤ an := by omega
              have heac : e ≤ ac ∧ (e : Int) ≤ (ac : Int) ∧ (e : Int) ≤ (an : Int) := by omega
              have hI4 := (HI.out.below (bup Hb3.out Hb.out)).cut hea hac
              rw [hA2] at hI4
              have HI4 := Lib.hid hI4
              obtain ⟨rl, hrl⟩ : ∃ rl, cutsL least most bits (la.drop e) = rl := ⟨_, rfl⟩
              obtain ⟨qr, hqr⟩ : ∃ qr, rl.length = qr := ⟨_, rfl⟩
              have Hrl := Lib.hid hrl
              have Hqr := Lib.hid hqr
              have HBE : behindL (e : Int) cl = rl := by
                have := behind_end least most bits la _ 0 e (Nat.le_refl _) (by rw [show cutsAt least most bits 0 la = cl from Hcl.out]; exact List.mem_of_getElem? He.out)
                rw [show cutsAt least most bits 0 la = cl from Hcl.out] at this
                rw [this, Nat.sub_zero]
                exact Hrl.out
              have HBE := Lib.hid HBE
              have hqle := behindL_len (e : Int) cl
              rw [HBE.out, Hqr.out, Hq.out] at hqle
              clear hI4 hrl hqr
              go_upto_region 14 with (fail)
              go_cut [12, 13] (fun s12 s13 wy => ∃ (L2 : Option Addr) (lc2 : Nat), s12 = .slice L2 qr lc2 ∧ s13 = .int .i64 0 ∧ qr ≤ lc2 ∧ Hid (InN wy L2 qr rl ∧ Below w3.heap.size w3 wy))
              case first => as_aux_lemma =>
                go_region_held3 (fun w' => w'.cell? ⟨Z, 0, none⟩ = some (.int .i64 least) ∧ w'.cell? ⟨Z, 1, none⟩ = some (.int .i64 most) ∧ w'.cell? ⟨Z, 2, none⟩ = some (.int .i64 bits))
                  (first | (with_reducible exact ⟨x0, x1, x2⟩) | (with_reducible exact ⟨p0, p1, p2⟩) | (with_reducible exact ⟨q0, q1, q2⟩) | go_keep)
                  (first | (go_at_call 18; refine (Cut_in O1 (an - e) o1c (la.drop e) rl qr least most bits _ (hO1.out.1.below (by first | (with_reducible exact (Below.refl _ _)) | (with_reducible exact (Below.refl _ _).drew))) hoc1 (by omega) Hok.out Hrl.out Hqr.out).mono ?_; rintro en wq ⟨L2, lc2, rfl, hL2, hlc2, hbq1⟩; have hbq : Below w3.heap.size w3 wq := bup hbp (bup (by first | (with_reducible exact (Below.refl _ _)) | (with_reducible exact (Below.refl _ _).drew)) hbq1); obtain ⟨q0, q1, q2⟩ := HC.out wq (bup Hb3.out hbq)) | (go_at_call 19; refine (HJ.out wr _ A2 (an - e) (ac - e) (la.drop e) (bup Hb3.out Hb.out) HI4.out (by omega) (by first | (with_reducible exact (Below.refl _ _)) | (with_reducible exact (Below.refl _ _).drew))).mono ?_; rintro en wp ⟨O1, o1c, rfl, hO1, hoc1, hbp1⟩; have hbp : Below w3.heap.size w3 wp := bup Hb.out (bup (by first | (with_reducible exact (Below.refl _ _)) | (with_reducible exact (Below.refl _ _).drew)) hbp1); obtain ⟨p0, p1, p2⟩ := HC.out wp (bup Hb3.out hbp)))
                all_goals go_wp2_with fail
                all_goals go_meet
                all_goals exact ⟨L2, lc2, rfl, rfl, hlc2, hL2.out, hbq⟩
              case rest => as_aux_lemma =>
                obtain ⟨L2, lc2, rfl, rfl, hlc2, HL2⟩ := hcut
                obtain ⟨w4, rfl⟩ : ∃ w4 : World, w4 = wc := ⟨_, rfl⟩
                clear x0 x1 x2
                go_wp2_with fail
                have HT1 := Lib.hid (behind_any (some ⟨b1, o1, none⟩) q lc cl (e : Int) w4 (HL3.out.below HL2.out.2) hlc (by omega) (by omega) (fun x hx => by
                  obtain ⟨j, hj⟩ := List.mem_iff_getElem?.1 hx
                  have := (cut_sizes least most bits Hok.out la _ 0 j x (Nat.le_refl _) (by rw [show cutsAt least most bits 0 la = cl from Hcl.out]; exact hj)).2.2.2.2
                  have h2 := HlA.out
                  omega))
                rw [HBE.out, Hqr.out] at HT1
                refine HT1.out.mono ?_
                rintro e3 w5 ⟨O3, c3, rfl, hO3, hb5⟩
                have HO3 := Lib.hid hO3
                have Hb5 : Hid (Below w3.heap.size w3 w5) := bup HL2.out.2 hb5
                have HL2' : Hid (InN w5 L2 qr rl) := HL2.out.1.below hb5
                clear hO3 hb5 HT1
                go_wp2_with fail
                refine (ints_same L2 O3 qr lc2 c3 rl w5 HL2'.out (InN.of_own HO3.out (by omega)) hlc2 (own_le HO3.out)).mono ?_
                rintro e5 w6 ⟨rfl, hb6⟩
                have Hb6 : Hid (Below w3.heap.size w3 w6) := bup Hb5.out hb6
                clear hb6
                go_wp2_with fail
                go_roundw
                case rel => exact ⟨i + 1, by rw [prv_next He.out], by go_num, by omega, Hb6⟩
                case measure => simp [intOf]; omega
          · have hlt' : decide ((i : Int) < (q : Int)) = false := decide_eq_false (by omega)
            have hiq : i = q := by omega
            subst hiq
            have hp : prv 0 cl i = an := by
              have := cut_last least most bits la _ 0 (Nat.le_refl _)
              rw [show cutsAt least most bits 0 la = cl from Hcl.out, Hq.out, HlA.out] at this
              omega
            rw [hp]
            go_wp2_with fail
            go_meet
            exact ⟨rfl, Hb⟩
        --L1>
      case rest => as_aux_lemma =>
        obtain ⟨rfl, Hb4⟩ := hcut
        obtain ⟨w4, rfl⟩ : ∃ w4 : World, w4 = wc := ⟨_, rfl⟩
        obtain ⟨k, hk⟩ : ∃ k : Nat, ((x % 18446744073709551616).toNat % (an + 1)) = k := ⟨_, rfl⟩
        have hkn : k ≤ an := by rw [← hk]; have := Nat.mod_lt (x % 18446744073709551616).toNat (show 0 < an + 1 by omega); omega
        go_upto_region 19 with (fail)
        go_cut [14] (fun s14 wy => s14 = .int .i64 (k : Int) ∧ w4 = wy)
        case first => as_aux_lemma =>
          go_wp2_with fail
          go_meet
          exact ⟨congrArg (Value.int .i64) (mod_k x an k ha hk), rfl⟩
        case rest => as_aux_lemma =>
          obtain ⟨rfl, rfl⟩ := hcut
          clear hk hx0 hx1 hz3
          obtain ⟨fl, hfl⟩ : ∃ fl, cutsL least most bits (la.take k) = fl := ⟨_, rfl⟩
          obtain ⟨qf, hqf⟩ : ∃ qf, fl.length = qf := ⟨_, rfl⟩
          have Hfl := Lib.hid hfl
          have Hqf := Lib.hid hqf
          have HIk : Hid (In w4 A k (la.take k)) := (HI.out.below (bup Hb3.out Hb4.out)).take hkn
          have hqfl := cuts_len least most bits (la.take k) _ 0 (Nat.le_refl _)
          rw [show cutsAt least most bits 0 (la.take k) = fl from hfl, HIk.out.len, hqf] at hqfl
          clear hfl hqf
          have hkac : k ≤ ac ∧ (k : Int) ≤ (ac : Int) := by omega
          obtain ⟨x0, x1, x2⟩ := HC.out w4 (bup Hb3.out Hb4.out)
          have hz4 : Z < w4.heap.size := by have := Hb3.out.size; have := Hb4.out.size; omega
          go_upto_region 20 with (fail)
          go_cut [15, 16] (fun s15 s16 wy => ∃ (L3 : Option Addr) (lc3 : Nat), s15 = .slice L3 qf lc3 ∧ s16 = .int .i64 0 ∧ qf ≤ lc3 ∧ Hid (InN wy L3 qf fl ∧ Below w3.heap.size w3 wy))
          case first => as_aux_lemma =>
            go_region_held3 (fun w' => w'.cell? ⟨Z, 0, none⟩ = some (.int .i64 least) ∧ w'.cell? ⟨Z, 1, none⟩ = some (.int .i64 most) ∧ w'.cell? ⟨Z, 2, none⟩ = some (.int .i64 bits))
              (first | (with_reducible exact ⟨x0, x1, x2⟩) | (with_reducible exact ⟨p0, p1, p2⟩) | (with_reducible exact ⟨q0, q1, q2⟩) | go_keep)
              (first | (go_at_call 18; refine (Cut_in O1 k o1c (la.take k) fl qf least most bits _ (hO1.out.1.below (by first | (with_reducible exact (Below.refl _ _)) | (with_reducible exact (Below.refl _ _).drew))) hoc1 (by omega) Hok.out Hfl.out Hqf.out).mono ?_; rintro en wq ⟨L2, lc2, rfl, hL2, hlc2, hbq1⟩; have hbq : Below w3.heap.size w3 wq := bup hbp (bup (by first | (with_reducible exact (Below.refl _ _)) | (with_reducible exact (Below.refl _ _).drew)) hbq1); obtain ⟨q0, q1, q2⟩ := HC.out wq (bup Hb3.out hbq)) | (go_at_call 19; refine (HJ.out w4 _ A k ac (la.take k) (bup Hb3.out Hb4.out) HIk.out (by omega) (by first | (with_reducible exact (Below.refl _ _)) | (with_reducible exact (Below.refl _ _).drew))).mono ?_; rintro en wp ⟨O1, o1c, rfl, hO1, hoc1, hbp1⟩; have hbp : Below w3.heap.size w3 wp := bup Hb4.out (bup (by first | (with_reducible exact (Below.refl _ _)) | (with_reducible exact (Below.refl _ _).drew)) hbp1); obtain ⟨p0, p1, p2⟩ := HC.out wp (bup Hb3.out hbp)))
            all_goals go_wp2_with fail
            all_goals go_meet
            all_goals exact ⟨L2, lc2, rfl, rfl, hlc2, hL2.out, hbq⟩
          case rest => as_aux_lemma =>
            obtain ⟨L3, lc3, rfl, rfl, hlc3, HL5⟩ := hcut
            obtain ⟨w5, rfl⟩ : ∃ w5 : World, w5 = wc := ⟨_, rfl⟩
            clear x0 x1 x2 hz4 HIk
            have HLL : Hid (∀ (i e : Nat), fl[i]? = some e → i + 1 < qf → cl[i]? = some e) := fun i e he hi => by
              have := front_cut least most bits Hok.out (la.take k) (la.drop k) i e (by rw [Hfl.out]; exact he) (by rw [Hfl.out, Hqf.out]; exact hi)
              rw [List.take_append_drop, Hcl.out] at this
              exact this
            have HLE : Hid (∀ (f e e2 : Nat), qf = f + 1 → fl[f]? = some e → cl[f]? = some e2 → e ≤ e2) := fun f e e2 hf he he2 => by
              refine front_end least most bits (la.take k) (la.drop k) f e e2 (by rw [Hfl.out, Hqf.out]; exact hf) (by rw [Hfl.out]; exact he) ?_
              rw [List.take_append_drop, Hcl.out]
              exact he2
            have HL5' : Hid (InN w5 L q cl) := HL3.out.below HL5.out.2
            go_upto_block 2 with (fail)
            go_cut [17] (fun s17 wy => Hid (Below w5.heap.size w5 wy))
            case first => as_aux_lemma =>
              --<L2
              go_wp2_with fail
              go_loopw [17] (fun s17 wr => ∃ (i : Nat), s17 = .int .i64 (i : Int) ∧ i ≤ qf ∧ Hid (Below w5.heap.size w5 wr)) (fun s17 _ => qf - (intOf s17).toNat)
              case atStart => exact ⟨0, rfl, Nat.zero_le _, Below.refl _ _⟩
              case round => as_aux_lemma =>
                obtain ⟨i, rfl, hi, Hb⟩ := hrel
                by_cases hlt : i + 1 < qf
                · have hlt' : (i : Int) + 1 < (qf : Int) := by omega
                  obtain ⟨e, he⟩ : ∃ e, fl[i]? = some e := ⟨_, List.getElem?_eq_getElem (by rw [Hqf.out]; omega)⟩
                  have he2 := HLL.out i e he hlt
                  have hiq : i < q := by
                    have := (List.getElem?_eq_some_iff.1 he2).1
                    rw [Hq.out] at this
                    exact this
                  have hiq1 : ¬ (q : Int) ≤ (i : Int) := by omega
                  have hiq' : decide ((q : Int) ≤ (i : Int)) = false := decide_eq_false hiq1
                  have hic : i ≤ lc ∧ i ≤ lc3 ∧ i < lc ∧ i < lc3 ∧ i < qf := by omega
                  have hici : (i : Int) < (q : Int) ∧ (i : Int) < (qf : Int) := by omega
                  obtain ⟨b1, o1, rfl, hb1, hc1⟩ := (HL5'.out.below Hb.out).2.2 (by omega)
                  obtain ⟨b3, o3, rfl, hb3, hc3⟩ := (HL5.out.1.below Hb.out).2.2 (by omega)
                  have z1 := hc1 i e he2
                  have z3 := hc3 i e he
                  clear hc1 hc3 he he2
                  go_wp2_with fail
                  go_quiet (fail)
                  go_wp2_with fail
                  go_roundw
                  case rel => exact ⟨i + 1, by go_num, by omega, below_drewN Hb.out _⟩
                  case measure => simp [intOf]; omega
                · have hlt' : decide ((i : Int) + 1 < (qf : Int)) = false := decide_eq_false (by omega)
                  go_wp2_with fail
                  go_meet
                  exact Hb
              --L2>
            case rest => as_aux_lemma =>
              have Hb6 := hcut
              obtain ⟨w6, rfl⟩ : ∃ w6 : World, w6 = wc := ⟨_, rfl⟩
              clear hcut
              go_upto_region 28 with (fail)
              go_cut [186] (fun s186 wy => s186 = .bool false ∧ Hid (Below w5.heap.size w5 wy))
              case first => as_aux_lemma =>
                --<L3
                by_cases hq0 : qf = 0
                · subst hq0
                  go_wp2_with fail
                  go_quiet (fail)
                  have Hb9 : Hid (Below w5.heap.size w5 (w6.drewN nq)) := below_drewN Hb6.out _
                  go_wp2_with fail
                  go_meet
                  exact ⟨rfl, Hb9⟩
                · obtain ⟨f, hf⟩ : ∃ f, qf = f + 1 := ⟨qf - 1, by omega⟩
                  have hq1 : (0 : Int) < (qf : Int) := by omega
                  have hq2 : decide ((0 : Int) < (qf : Int)) = true := decide_eq_true hq1
                  have hq4 : 0 < qf := by omega
                  have hq5 : decide (0 < qf) = true := decide_eq_true hq4
                  have hq3 : IntKind.i64.wrap ((qf : Int) - 1) = (f : Int) := by rw [show (qf : Int) - 1 = (f : Int) by omega]; exact IntWalk.i64_in _ (by omega)
                  by_cases hqq : qf ≤ q
                  · have hqq' : (qf : Int) ≤ (q : Int) := by omega
                    have hqq2 : decide ((qf : Int) ≤ (q : Int)) = true := decide_eq_true hqq'
                    obtain ⟨e, he⟩ : ∃ e, fl[f]? = some e := ⟨_, List.getElem?_eq_getElem (by rw [Hqf.out]; omega)⟩
                    obtain ⟨e2, he2⟩ : ∃ e2, cl[f]? = some e2 := ⟨_, List.getElem?_eq_getElem (by rw [Hq.out]; omega)⟩
                    have hee := HLE.out f e e2 hf he he2
                    have hee' : decide ((e2 : Int) < (e : Int)) = false := decide_eq_false (by omega)
                    have hee2 : decide (e2 < e) = false := decide_eq_false (by omega)
                    have hqq3 : decide (qf ≤ q) = true := decide_eq_true hqq
                    have hic : f ≤ lc ∧ f ≤ lc3 ∧ f < lc ∧ f < lc3 ∧ f < q ∧ f < qf := by omega
                    have hici : (f : Int) < (q : Int) ∧ (f : Int) < (qf : Int) := by omega
                    obtain ⟨b1, o1, rfl, hb1, hc1⟩ := (HL5'.out.below Hb6.out).2.2 (by omega)
                    obtain ⟨b3, o3, rfl, hb3, hc3⟩ := (HL5.out.1.below Hb6.out).2.2 (by omega)
                    have z1 := hc1 f e2 he2
                    have z3 := hc3 f e he
                    clear hc1 hc3 he he2 hf
                    go_wp2_with fail
                    go_quiet (fail)
                    have Hb9 : Hid (Below w5.heap.size w5 (w6.drewN nq)) := below_drewN Hb6.out _
                    go_wp2_with fail
                    go_meet
                    exact ⟨by first | rfl | exact congrArg Value.bool hee', Hb9⟩
                  · have hqq2 : decide ((qf : Int) ≤ (q : Int)) = false := decide_eq_false (by omega)
                    have hqq3 : decide (qf ≤ q) = false := decide_eq_false hqq
                    have hqq4 : ¬ (qf : Int) ≤ (q : Int) := by omega
                    have hqq5 : q < qf := by omega
                    clear hqq hf hq3
                    go_wp2_with fail
                    go_quiet (fail)
                    have Hb9 : Hid (Below w5.heap.size w5 (w6.drewN nq)) := below_drewN Hb6.out _
                    go_wp2_with fail
                    go_meet
                    exact ⟨rfl, Hb9⟩
                --L3>
              case rest => as_aux_lemma =>
                obtain ⟨rfl, Hb7⟩ := hcut
                clear HLL HLE
                obtain ⟨w7, rfl⟩ : ∃ w7 : World, w7 = wc := ⟨_, rfl⟩
                have Hb7' : Hid (Below w3.heap.size w3 w7) := bup HL5.out.2 Hb7.out
                have HIw : Hid (In w3 A an la) := HI.out.below Hb3.out
                clear Hb7 Hb6 HL5 Hb4 HL5' Hfl Hqf
                obtain ⟨x0, x1, x2⟩ := HC.out w7 (bup Hb3.out Hb7'.out)
                have hz7 : Z < w7.heap.size := by have := Hb3.out.size; have := Hb7'.out.size; omega
                --<L4
                go_wp2_with fail
                refine (New_yes least most bits w7 Hok.out).mono ?_
                rintro e w8 ⟨X, rfl, hX0, hX, hb8⟩
                have HX8 := Lib.hid hX
                have Hb8 : Hid (Below w3.heap.size w3 w8) := bup Hb7'.out hb8
                have HX0 : Hid (w3.heap.size ≤ X) := Nat.le_trans Hb7'.out.size hX0
                clear hX hX0 hb8 x0 x1 x2 hz7
                go_upto_region 33 with (fail)
                have HJ1 := Lib.hid (HJ.out w3 w8 A k ac (la.take k) Hb3.out (HIw.out.take hkn) (by omega) Hb8.out)
                go_wp2_with fail
                refine HJ1.out.mono ?_
                rintro e w9 ⟨O1, o1c, rfl, hO1, hoc1, hb9⟩
                have Hb9 : Hid (Below w3.heap.size w3 w9) := bup Hb8.out hb9
                have HW1 := Lib.hid (Write_roll w3.heap.size w8.heap.size X least most bits 0 0 none 0 [] O1 k o1c (la.take k) w9 ⟨HX8.out.below hb9, World.ownsRow_nil _ _ _ _, HX0.out⟩ hO1.out.1 hoc1 (fun ad had => own_lt hO1.out.2 (own_addr hO1.out.2 had)) HX8.out.lt (fun g hg => by simp [Value.ownBlock] at hg) Hok.out (by simp; omega) (by omega))
                clear hO1 hoc1 hb9 HJ1 HX8
                go_wp2_with fail
                refine HW1.out.mono ?_
                rintro e w10 ⟨P1, pc1, ps, LA, lc1, lf, sm, n1, rfl, hps, hlf, hn1, HR1, HP1, HQ1, HC1, HF1⟩
                simp only [List.length_nil, Nat.zero_add] at hlf hn1
                have Hb10 : Hid (Below w3.heap.size w3 w10) := Hb9.out.trans (HF1.out.below Hb9.out.size (fun k e => by
                  rcases e with e | e
                  · rw [e]; exact HX0.out
                  · simp [Value.ownBlock] at e))
                clear HW1 HF1 Hb9 Hb8
                have HJ2 := Lib.hid (HJ.out w3 w10 (if ac = k then A else A.map (·.add k)) (an - k) (ac - k) (la.drop k) Hb3.out (HIw.out.cut hkn hac) (by omega) Hb10.out)
                obtain ⟨A3, hA3⟩ : ∃ A3, (if ac = k then A else A.map (·.add k)) = A3 := ⟨_, rfl⟩
                rw [hA3] at HJ2
                have hkn' : (k : Int) ≤ (an : Int) := by omega
                go_wp2_with fail
                refine HJ2.out.mono ?_
                rintro e w11 ⟨O2, o2c, rfl, hO2, hoc2, hb11⟩
                have Hb11 : Hid (Below w3.heap.size w3 w11) := bup Hb10.out hb11
                have HP11 := Lib.hid (HP1.out.below hb11)
                have HW2 := Lib.hid (Write_roll w3.heap.size w10.heap.size X least most bits sm n1 LA lc1 lf O2 (an - k) o2c (la.drop k) w11 (HC1.out.below hb11) hO2.out.1 hoc2 (fun ad had => own_lt hO2.out.2 (own_addr hO2.out.2 had)) HC1.out.blk.lt (fun g hg => (own_lt HC1.out.own hg).2) Hok.out (by omega) (by omega))
                have HLo := Lib.hid (fun g hg => (own_lt HC1.out.own (g := g) hg).1)
                clear hO2 hoc2 hb11 HJ2 HP1 HC1 hA3
                go_wp2_with fail
                refine HW2.out.mono ?_
                rintro e w12 ⟨P2, pc2, qs, LB, lc2, lf2, sm2, n2, rfl, hqs, hlf2, hn2, HR2, HP2, HQ2, HC2, HF2⟩
                have Hb12 : Hid (Below w3.heap.size w3 w12) := Hb11.out.trans (HF2.out.below Hb11.out.size (fun k e => by
                  rcases e with e | e
                  · rw [e]; exact HX0.out
                  · exact HLo.out k e.symm))
                have HP12 : Hid (InP w12 P1 ps) := HP11.out.fr HF2.out HQ1.out
                have HE := Lib.hid (End_any X (.slice LB lf2.length lc2) least most bits sm2 n2 w12 HC2.out.blk)
                clear HW2 HF2 Hb11 Hb10 HP11 HLo
                go_wp2_with fail
                refine HE.out.mono ?_
                rintro e w13 ⟨rfl, _, hF3⟩
                have Hb13 : Hid (Below w3.heap.size w3 w13) := Hb12.out.trans (hF3.below Hb12.out.size (fun k e => by rw [e]; exact HX0.out))
                have HP13 : Hid (InP w13 P1 ps) := HP12.out.fr hF3 (HQ1.out.mono fun _ e => .inl e)
                have HQ13 : Hid (InP w13 P2 qs) := HP2.out.fr hF3 (HQ2.out.mono fun _ e => .inl e)
                have hlow : w13.ownsRow w3.heap.size 5 1 (.slice LB lf2.length lc2) lf2.length (bys lf2) := own_fr HC2.out.own hF3 (fun g hg e => (own_bt HC2.out.own hg).ne ⟨_, HC2.out.blk⟩ (by decide) e)
                have HL13 : Hid (In w13 LB lf2.length lf2) := In.of_own hlow (by omega)
                clear HE hF3 Hb12 HP12 HP2 HQ2 HC2 HQ1 hlow
                obtain ⟨fs, hfs⟩ : ∃ fs : List Pc, ps ++ qs ++ (if lf2 = [] then [] else [(LB, lc2, lf2)]) = fs := ⟨_, rfl⟩
                have HT := Lib.hid (two_law least most bits la k ps qs sm sm2 n1 n2 lf lf2 LB lc2 HR1.out HR2.out fs hfs.symm)
                rw [Hcl.out] at HT
                have hlen : fs.length = q := by
                  have := runs_length (byP fs) 0
                  rw [HT.out.1, Hq.out] at this
                  simpa [byP] using this.symm
                have hlen2 : ps.length + qs.length + (if lf2 = [] then 0 else 1) = q := by
                  rw [← hlen, ← hfs]
                  by_cases hl : lf2 = [] <;> simp [hl] <;> omega
                have Hfs := Lib.hid hfs
                have Hlen := Lib.hid hlen
                clear hfs hlen HR1 HR2
                obtain ⟨i0, hi0, hz0, hz1, hz2⟩ := info_parts infosl
                go_upto_if 219 with (first | (at_builtin; refine wpList_lfresh rfl (.tmp 212) (.tmp 213) rfl w13.heap.size rfl rfl P1 pc1 ps rfl HP13.out (by omega) ?_; intro a1 c1 w14 hO14 hb14; have HO14 := Lib.hid hO14; have Hsz := Lib.hid hb14.size; have Hb14 : Hid (Below w3.heap.size w3 w14) := bup Hb13.out hb14; have HQ14 : Hid (InP w14 P2 qs) := HQ13.out.below hb14; have Hbb := Lib.hid hb14; clear hO14 hb14) | (at_builtin; refine wpList_append_rd (w := w14) rfl (.tmp 214) (.tmp 215) 41 rfl w13.heap.size 32 i0 _ 1 24 Try.underlying41 hi0 hz0 hz1 hz2 rfl (by decide) (.slice a1 ps.length c1) ps.length (svs ps) rfl HO14.out P2 qs.length pc2 (svs qs) rfl HQ14.out.rd (svs_one _) (by simp only [maxLen]; omega) (by omega) Hsz.out ?_; intro O oc w15 hown hg hat))
                rw [← svs_append] at hown
                have Hown := Lib.hid hown
                have Hb15 : Hid (Below w13.heap.size w13 w15) := Hbb.out.grown hg Hsz.out (fun g hg => (own_lt HO14.out hg).1)
                clear hown hg hat HO14 Hb14 HQ14 Hbb Hsz
                obtain ⟨lfn, hlfn⟩ : ∃ m, lf2.length = m := ⟨_, rfl⟩
                have Hlfn := Lib.hid hlfn
                rw [hlfn]
                clear hlfn
                go_cut [23] (fun s23 wy => ∃ (OA : Option Addr) (oa : Nat), s23 = .slice OA q oa ∧ q ≤ oa ∧ Hid (InP wy OA fs ∧ Below w13.heap.size w13 wy))
                case first => as_aux_lemma =>
                  by_cases hl : lf2 = []
                  · have hl0 : lfn = 0 := by rw [← Hlfn.out, hl]; rfl
                    have hqq : ps.length + qs.length = q := by rw [if_pos hl] at hlen2; omega
                    have hff : ps ++ qs = fs := by rw [← Hfs.out, if_pos hl, List.append_nil]
                    subst hl0
                    go_wp2_with fail
                    go_meet
                    have hown := Hown.out
                    have hlen := Hlen.out
                    rw [hqq, hff] at hown
                    refine ⟨O, oc, by rw [hqq], own_le hown, InP.of_own (by rw [hlen]; exact hown) (fun p hp => ?_), Hb15.out⟩
                    rw [← hff] at hp
                    rcases List.mem_append.1 hp with h | h
                    · exact (HP13.out.pcs p h).below Hb15.out
                    · exact (HQ13.out.pcs p h).below Hb15.out
                  · have hl0 : 0 < lfn := by rw [← Hlfn.out]; exact List.length_pos_iff.2 hl
                    have hl1 : (0 : Int) < (lfn : Int) := by omega
                    have hl2 : decide ((0 : Int) < (lfn : Int)) = true := decide_eq_true hl1
                    have hl3 : decide (0 < lfn) = true := decide_eq_true hl0
                    have hqq : ps.length + qs.length + 1 = q := by rw [if_neg hl] at hlen2; omega
                    have hff : ps ++ qs ++ [(LB, lc2, lf2)] = fs := by rw [← Hfs.out, if_neg hl]
                    have hsvs : svs [(LB, lc2, lf2)] = [.slice LB lfn lc2] := by rw [← Hlfn.out]; rfl
                    have Hsz := Lib.hid Hb15.out.size
                    go_wp2_with (at_builtin; refine wpList_append_rd (w := w15.alloc (.cells #[.slice LB lfn lc2] 32)) rfl (.tmp 220) (.tmp 222) 41 rfl w13.heap.size 32 i0 _ 1 24 Try.underlying41 hi0 hz0 hz1 hz2 rfl (by decide) (.slice O (ps.length + qs.length) oc) (ps.length + qs.length) (svs (ps ++ qs)) rfl (Hown.out.alloc _) (some ⟨w15.heap.size, 0, none⟩) 1 1 [.slice LB lfn lc2] rfl ⟨rfl, fun _ => ⟨_, rfl, World.news_of_block (heap_alloc_new w15 _)⟩⟩ (by rw [← hsvs]; exact svs_one _) (by simp only [maxLen]; omega) (by omega) (by have := Hsz.out; simp; omega) ?_; intro O3 oc3 w16 hown3 hg3 hat3)
                    go_meet
                    rw [← hsvs, ← svs_append, hff, hqq] at hown3
                    have hlen := Hlen.out
                    have hb16 : Below w13.heap.size w13 w16 := (Hb15.out.alloc Hsz.out _).grown hg3 (by have := Hsz.out; simp; omega) (fun g hg => (own_lt Hown.out hg).1)
                    refine ⟨O3, oc3, by first | rfl | rw [hqq], own_le hown3, InP.of_own (by rw [hlen]; exact hown3) (fun p hp => ?_), hb16⟩
                    rw [← hff] at hp
                    rcases List.mem_append.1 hp with h | h
                    · rcases List.mem_append.1 h with h | h
                      · exact (HP13.out.pcs p h).below hb16
                      · exact (HQ13.out.pcs p h).below hb16
                    · rw [List.mem_singleton.1 h]
                      exact HL13.out.below hb16
                case rest => as_aux_lemma =>
                  obtain ⟨OA, oa, rfl, hoa, HO⟩ := hcut
                  obtain ⟨w16, rfl⟩ : ∃ w16 : World, w16 = wc := ⟨_, rfl⟩
                  have Hb16 : Hid (Below w3.heap.size w3 w16) := bup Hb13.out HO.out.2
                  have HF := Lib.hid HO.out.1
                  have HL16 : Hid (InN w16 L q cl) := HL3.out.below Hb16.out
                  have HA16 : Hid (In w16 A an la) := HIw.out.below Hb16.out
                  clear HO Hb15 Hown HP13 HQ13 HL13 Hlfn Hfs hlen2 HJ HC
                  go_upto_block 4 with (fail)
                  go_wp2_with fail
                  go_loopw [9, 24] (fun s9 s24 wr => ∃ (i : Nat), s9 = .int .i64 (prv 0 cl i : Int) ∧ s24 = .int .i64 (i : Int) ∧ i ≤ q ∧ Hid (Below w16.heap.size w16 wr)) (fun _ s24 _ => q - (intOf s24).toNat)
                  case atStart => exact ⟨0, rfl, rfl, Nat.zero_le _, Below.refl _ _⟩
                  case round => as_aux_lemma =>
                    obtain ⟨i, rfl, rfl, hi, Hb⟩ := hrel
                    by_cases hlt : i < q
                    · have hlt' : (i : Int) < (q : Int) := by omega
                      have hic : i ≤ lc ∧ i < lc ∧ i < oa ∧ i ≤ oa := by omega
                      obtain ⟨p, hp⟩ : ∃ p, fs[i]? = some p := ⟨_, List.getElem?_eq_getElem (by rw [Hlen.out]; exact hlt)⟩
                      obtain ⟨h1, h2⟩ := piece_at la fs cl HT.out.1 HT.out.2 i p hp
                      have hpI := (HF.out.pcs p (List.mem_of_getElem? hp)).below Hb.out
                      obtain ⟨b5, o5, rfl, z5⟩ := (HF.out.below Hb.out).at hp
                      obtain ⟨pA, pc, px⟩ := p
                      simp only [] at h1 h2 hpI z5
                      obtain ⟨b1, o1, rfl, hb1, hc1⟩ := (HL16.out.below Hb.out).2.2 (by omega)
                      have z1 := hc1 i _ h1
                      have hn1 := prv_next (s := 0) h1
                      have hle : prv 0 cl i + px.length ≤ an := by
                        have := (cut_sizes least most bits Hok.out la _ 0 i _ (Nat.le_refl _) (by rw [show cutsAt least most bits 0 la = cl from Hcl.out]; exact h1)).2.2.2.2
                        rw [HlA.out] at this
                        omega
                      obtain ⟨f, hf⟩ : ∃ f, prv 0 cl i = f := ⟨_, rfl⟩
                      rw [hf] at h2 z1 hle hn1 ⊢
                      obtain ⟨m, hm⟩ : ∃ m, px.length = m := ⟨_, rfl⟩
                      rw [hm] at h2 z1 z5 hle hn1 hpI
                      obtain ⟨e, he⟩ : ∃ e, f + m = e := ⟨_, rfl⟩
                      rw [he] at z1 hle hn1
                      obtain ⟨A4, hA4⟩ : ∃ A4, (if ac = f then A else A.map (·.add f)) = A4 := ⟨_, rfl⟩
                      have hIs := ((HA16.out.below Hb.out).cut (k := f) (by omega) hac).take (k := m) (by omega)
                      rw [hA4, ← h2] at hIs
                      have hme : m = e - f := by omega
                      have hcv : ∀ a, (convert 32 9 (.slice pA m pc)).run Try.prog (wr.drewN a) = .ok (.string (strOf px)) (wr.drewN a) := fun a => conv_rd (hpI.1.keep (fun _ _ => rfl))
                      have hcv2 : ∀ a, (convert 32 9 (.slice A4 (e - f) (ac - f))).run Try.prog (wr.drewN a) = .ok (.string (strOf px)) (wr.drewN a) := fun a => conv_rd (by rw [← hme]; exact hIs.1.keep (fun _ _ => rfl))
                      have hfe : f ≤ e ∧ e ≤ an ∧ e ≤ ac ∧ f ≤ ac := by omega
                      have hfe' : (f : Int) ≤ (e : Int) ∧ (e : Int) ≤ (an : Int) ∧ (e : Int) ≤ (ac : Int) ∧ (f : Int) ≤ (ac : Int) := by omega
                      clear h1 h2 hpI hp hc1 hIs hf hm he hme
                      go_wp2_with fail
                      go_quiet (fail)
                      go_wp2_with fail
                      go_roundw
                      case rel => exact ⟨i + 1, by rw [hn1], by go_num, by omega, below_drewN Hb.out _⟩
                      case measure => simp [intOf]; omega
                    · have hlt' : decide ((i : Int) < (q : Int)) = false := decide_eq_false (by omega)
                      go_wp2_with fail
                      go_ret
                      exact ⟨rfl, by first | exact bup Hb0.out (bup Hb3.out (bup Hb16.out Hb.out)) | (rw [← hZ]; exact bup Hb0.out (bup Hb3.out (bup Hb16.out Hb.out)))⟩
                --L4>
  · have hdec : decide (CutsOk least most bits) = false := decide_eq_false hok
    have Hok := Lib.hid hok
    clear hok
    go_enter Try.func4, Try.ntmps4
    go_upto_region 1 with (fail)
    go_cut [7, 8] (fun s7 s8 wy => ∃ (L : Option Addr) (lc : Nat), s7 = .slice L 0 lc ∧ s8 = .int .i64 6 ∧ Hid (Below w0.heap.size w0 wy))
    case first => as_aux_lemma =>
      go_region_held3 (fun w' => w'.cell? ⟨Z, 0, none⟩ = some (.int .i64 least) ∧ w'.cell? ⟨Z, 1, none⟩ = some (.int .i64 most) ∧ w'.cell? ⟨Z, 2, none⟩ = some (.int .i64 bits))
        (first | (with_reducible exact ⟨x0, x1, x2⟩) | (with_reducible exact ⟨p0, p1, p2⟩) | (with_reducible exact ⟨q0, q1, q2⟩) | go_keep)
        (first | (go_at_call 18; refine (Cut_none O1 an o1c least most bits _ Hok.out).mono ?_; rintro en wq ⟨L, lc, rfl, hbq1⟩; have hbq : Below w0.heap.size w0 wq := bup hbp (bup (by first | (with_reducible exact (Below.refl _ _)) | (with_reducible exact (Below.refl _ _).drew)) hbq1); obtain ⟨q0, q1, q2⟩ := HC.out wq hbq) | (go_at_call 19; refine (HJ.out w0 _ A an ac la (Below.refl _ _) HI.out (by omega) (by first | (with_reducible exact (Below.refl _ _)) | (with_reducible exact (Below.refl _ _).drew))).mono ?_; rintro en wp ⟨O1, o1c, rfl, hO1, hoc1, hbp1⟩; have hbp : Below w0.heap.size w0 wp := bup (by first | (with_reducible exact (Below.refl _ _)) | (with_reducible exact (Below.refl _ _).drew)) hbp1; obtain ⟨p0, p1, p2⟩ := HC.out wp hbp))
      all_goals go_wp2_with fail
      all_goals go_meet
      all_goals exact ⟨L, lc, rfl, rfl, hbq⟩
    case rest => as_aux_lemma =>
      obtain ⟨L, lc, rfl, rfl, HL⟩ := hcut
      obtain ⟨w1, rfl⟩ : ∃ w1 : World, w1 = wc := ⟨_, rfl⟩
      clear x0 x1 x2
      go_wp2_with fail
      refine (fixed_any w1).mono ?_
      rintro e w2 ⟨rfl, hb2⟩
      have Hb2 : Hid (Below w0.heap.size w0 w2) := bup HL.out hb2
      clear hb2 HL
      obtain ⟨x0, x1, x2⟩ := HC.out w2 Hb2.out
      have HR := Lib.hid (right_any least most bits w2)
      rw [hdec] at HR
      go_wp2_with fail
      refine HR.out.mono ?_
      rintro e w3 ⟨rfl, hb3⟩
      have Hb3 : Hid (Below w0.heap.size w0 w3) := bup Hb2.out hb3
      clear hb3 Hb2 x0 x1 x2 HR
      go_wp2_with fail
      go_ret
      exact ⟨rfl, by first | exact bup Hb0.out Hb3.out | (rw [← hZ]; exact bup Hb0.out Hb3.out)⟩
end Go.Proofs.Ytglkahonejblpaa
