
/-
  Walk: the law SymbolLiterals returns true; nothing that was there is written. Conditions: the bytes lie in memory and are at most 1048576; the tables as Laid says.
-/
import Derived.Test.YthcgchkcanhmnaaDoorSymL
import Derived.IntWalk
namespace Go.Proofs.YthcgchkcanhmnaaDoor
open Go.RowKit

theorem lit_size (x : UInt8) (w : World) (hl : Laid w) : Calls Tryd.prog 28 #[.agg #[.int .i64 1, .int .u8 (x.toNat : Int), .int .i64 0, .int .i64 0]] w fun e w' => e = .returned (.int .i64 1) ∧ Below w.heap.size w w' := by
  have h := YSize_any 1 0 0 x w hl
  have e : szF ⟨1, x, 0, 0⟩ = 1 := by
    show (if nextE St.start (lit x) = 0 then (if (1 : Int) = 2 ∨ (1 : Int) = 3 then (0 : Int) else 1) else 0) = 1
    rw [if_pos (next_lit start_right x)]; rfl
  rw [e] at h
  exact h
theorem InS.of_own {w : World} {B : Nat} {A : Option Addr} {n c : Nat} {l : List Sy} (h : w.ownsRow B 38 4 (.slice A n c) n (syc l)) (hn : n ≤ 1048600) : InS w A n l := by
  refine ⟨Rd.of_own h, fun h0 ad had => ⟨(own_lt h (own_addr h had)).2, ?_⟩, hn⟩
  obtain ⟨g, cap, hv, _, _⟩ := h.form h0
  injection hv with hA
  rw [hA] at had
  cases had
  rfl
theorem litS_get {l : List UInt8} {i : Nat} {y : Sy} (h : (litS l)[i]? = some y) : ∃ x, l[i]? = some x ∧ y = lit x := by
  unfold litS at h
  rw [List.getElem?_map] at h
  cases hx : l[i]? with
  | none => rw [hx] at h; cases h
  | some x => rw [hx] at h; cases h; exact ⟨x, rfl, rfl⟩
set_option maxHeartbeats 4000000 in
set_option maxRecDepth 100000 in
theorem literals_law (A : Option Addr) (m mc : Nat) (lb : List UInt8) (dict n : Int) (w : World) (h : In w A m lb) (hm : m ≤ 1048576) (hl : Laid w) :
    Calls Tryd.prog 7 #[.slice A m mc, .int .i64 dict, .int .i64 n] w fun e w' => e = .returned (.bool true) ∧ Below w.heap.size w w' := by
  obtain ⟨i0, hi0, hz0, hz1, hz2⟩ := info_parts infosy
  have Hlen := Lib.hid h.len
  have hbd := dsz_bd dict
  go_enter Tryd.func7, Tryd.ntmps7
  go_wp2_with fail
  refine (sz_any dict w).mono ?_
  rintro e w' ⟨rfl, rfl⟩
  obtain ⟨sz, hsz⟩ : ∃ sz, dsz dict = sz := ⟨_, rfl⟩
  rw [hsz] at hbd ⊢
  clear hsz
  have H := Lib.hid h
  have HL := Lib.hid hl
  clear h hl
  go_wp2_with (at_builtin; refine wpList_fresh rfl (.tmp 16) (.tmp 17) rfl w.heap.size rfl rfl A m mc lb rfl H.out ?_; intro a1 c1 w1 hF)
  refine (Literals_any a1 m c1 lb w1 (hF.in_ (by omega)) (by omega)).mono ?_
  rintro e w2 ⟨L, Lc, rfl, hO, hB2⟩
  have hll : (litS lb).length = m := by rw [litS, List.length_map]; exact Hlen.out
  rw [hll] at hO ⊢
  have HB2 : Hid (Below w.heap.size w w2) := bup hF.2 hB2
  have HO := Lib.hid (own_mono hO hF.2.size)
  clear hll hF hO hB2
  go_wp2_with fail
  refine (known_any w2 (HL.out.below HB2.out)).mono ?_
  rintro e w3 ⟨rfl, hB3⟩
  have HB3 : Hid (Below w.heap.size w w3) := bup HB2.out hB3
  have HO3 := Lib.hid (own_below HO.out hB3)
  clear hB3 HB2 HO
  go_wp2_with fail
  go_loopw [31] (fun s31 wr => ∃ i : Nat, s31 = .int .i64 (i : Int) ∧ i ≤ m ∧ Hid (Below w3.heap.size w3 wr)) (fun s31 _ => m - (intOf s31).toNat)
  case atStart => exact ⟨0, rfl, Nat.zero_le _, Below.refl _ _⟩
  case round =>
    obtain ⟨i, rfl, hi, Hb⟩ := hrel
    by_cases hlt : i < m
    · have hlt' : (i : Int) < (m : Int) := by omega
      have hIS := InS.of_own (own_below HO3.out Hb.out) (by omega)
      obtain ⟨g, off, y, rfl, hy, hg, y0, y1, y2, y3⟩ := hIS.at hlt
      obtain ⟨x, hx, rfl⟩ := litS_get hy
      have hIr := (H.out.below HB3.out).below Hb.out
      obtain ⟨bb, bo, rfl, hc⟩ := hIr.1.cells_at (by omega)
      have x0 := hc i x hx
      have hbb : bb < wr.heap.size := hIr.2.1 (by omega) _ rfl
      rw [← Nat.add_assoc] at y1 y2 y3
      unfold lit at y0 y1 y2 y3
      simp only [] at y0 y1 y2 y3
      clear hc hIr hIS hy hx
      go_upto_region 8 with (fail)
      clear y0 y1 y2 y3
      have hwx : ∃ wx, wr.alloc (.cells #[.int .i64 1, .int .u8 (x.toNat : Int), .int .i64 0, .int .i64 0] 38) = wx := ⟨_, rfl⟩
      have hN := Blk.new wr 38 #[.int .i64 1, .int .u8 (x.toNat : Int), .int .i64 0, .int .i64 0]
      have hbx : Below wr.heap.size wr (wr.alloc (.cells #[.int .i64 1, .int .u8 (x.toNat : Int), .int .i64 0, .int .i64 0] 38)) := (Below.refl _ _).alloc (Nat.le_refl _) _
      obtain ⟨wx, hwx⟩ := hwx
      obtain ⟨N, hNN⟩ : ∃ N, wr.heap.size = N := ⟨_, rfl⟩
      rw [hwx] at hN hbx ⊢
      have z0 : wx.cell? ⟨bb, bo + i, none⟩ = some (.int .u8 (x.toNat : Int)) := (hbx.cell (p := ⟨bb, bo + i, none⟩) hbb).trans x0
      have hbbx : bb < wx.heap.size := Nat.lt_of_lt_of_le hbb hbx.size
      have Hbx := Lib.hid hbx
      have HLx : Hid (Laid wx) := ((HL.out.below HB3.out).below Hb.out).below hbx
      rw [hNN] at hN ⊢
      obtain ⟨y0, y1, y2, y3⟩ : wx.cell? ⟨N, 0, none⟩ = some (.int .i64 1) ∧ wx.cell? ⟨N, 1, none⟩ = some (.int .u8 (x.toNat : Int)) ∧ wx.cell? ⟨N, 2, none⟩ = some (.int .i64 0) ∧ wx.cell? ⟨N, 3, none⟩ = some (.int .i64 0) := hN.four
      have nlt := hN.lt
      clear hwx hNN hbx x0 hbb hN
      go_cut [52] (fun s52 wy => s52 = .bool false ∧ Hid (Below wx.heap.size wx wy))
      case first =>
        go_region_held3 (fun w' => w'.cell? ⟨N, 0, none⟩ = some (.int .i64 1) ∧ w'.cell? ⟨N, 1, none⟩ = some (.int .u8 (x.toNat : Int)) ∧ w'.cell? ⟨N, 2, none⟩ = some (.int .i64 0) ∧ w'.cell? ⟨N, 3, none⟩ = some (.int .i64 0) ∧ w'.cell? ⟨bb, bo + i, none⟩ = some (.int .u8 (x.toNat : Int)))
          (first | (with_reducible exact ⟨y0, y1, y2, y3, z0⟩) | (with_reducible exact ⟨p0, p1, p2, p3, p4⟩) | go_keep)
          (first | (go_at_call 28; refine (lit_size x _ (HLx.out.below ((Below.refl _ _).drew))).mono ?_; rintro en w1 ⟨rfl, hbel⟩; have hbw : Below wx.heap.size wx w1 := bd1 hbel; obtain ⟨p0, p1, p2, p3, p4⟩ : w1.cell? ⟨N, 0, none⟩ = some (.int .i64 1) ∧ w1.cell? ⟨N, 1, none⟩ = some (.int .u8 (x.toNat : Int)) ∧ w1.cell? ⟨N, 2, none⟩ = some (.int .i64 0) ∧ w1.cell? ⟨N, 3, none⟩ = some (.int .i64 0) ∧ w1.cell? ⟨bb, bo + i, none⟩ = some (.int .u8 (x.toNat : Int)) := ⟨(hbw.cell nlt).trans y0, (hbw.cell nlt).trans y1, (hbw.cell nlt).trans y2, (hbw.cell nlt).trans y3, (hbw.cell hbbx).trans z0⟩))
        go_wp2_with fail
        go_meet
        exact ⟨rfl, hbw⟩
      case rest =>
        obtain ⟨rfl, hb⟩ := hcut
        obtain ⟨wa, rfl⟩ : ∃ wa : World, wa = wc := ⟨_, rfl⟩
        have Hb2 : Hid (Below w3.heap.size w3 wa) := bup (bup Hb.out Hbx.out) hb.out
        clear y0 y1 y2 y3 z0 nlt hbbx HLx Hbx Hb hb
        go_wp2_with fail
        go_roundw
        case rel => exact ⟨i + 1, by go_num, by omega, Hb2⟩
        case measure => simp [intOf]; omega
    · obtain rfl : i = m := by omega
      have HIS := Lib.hid (InS.of_own (own_below HO3.out Hb.out) (by omega))
      have HB4 : Hid (Below w.heap.size w wr) := bup HB3.out Hb.out
      go_wp2_with fail
      have hc := Expand_yes sz L i Lc (litS lb) wr HIS.out (HL.out.below HB4.out) (by omega) (by omega)
      rw [lits_go] at hc
      refine hc.mono ?_
      rintro e w4 ⟨C, Cc, rfl, hOC, hB5⟩
      have hcv := conv_rd (c := Cc) (Rd.of_own hOC)
      have hcv2 := conv_rd (c := mc) ((H.out.below (bup HB4.out hB5)).1)
      have HOL := Lib.hid (own_below (own_below HO3.out Hb.out) hB5)
      have HB5 : Hid (Below w.heap.size w w4) := bup HB4.out hB5
      simp only [Hlen.out] at hcv ⊢
      clear hc hOC hB5 HB4 HIS HO3 Hb HB3
      have hi1 : (i : Int) ≤ 1048576 := by omega
      have hs1 : (sz : Int) ≤ 1000 := by omega
      go_upto_region 14 with (fail)
      clear hcv hcv2
      by_cases hg : 0 < i ∧ i ≤ sz ∧ 2 ≤ n ∧ n ≤ 273
      · obtain ⟨g1, g2, g3, g4⟩ := hg
        obtain ⟨nn, rfl⟩ : ∃ nn : Nat, n = (nn : Int) := ⟨n.toNat, by omega⟩
        have g1' : ((i : Int) == 0) = false := beq_eq_false_iff_ne.2 (by omega)
        have g2' : (i : Int) ≤ (sz : Int) := by omega
        have g3' : (2 : Int) ≤ (nn : Int) := by omega
        have g4' : (nn : Int) ≤ 273 := by omega
        have HB6 := Lib.hid HB5.out.size
        go_wp2_with (at_builtin; refine wpList_append_rd (w := w4.alloc (.cells #[.int .i64 2, .int .u8 0, .int .i64 (nn : Int), .int .i64 (i : Int)] 38)) rfl (.tmp 93) (.tmp 98) 24 rfl w.heap.size 38 i0 _ 4 32 Tryd.underlying24 hi0 hz0 hz1 hz2 rfl (by decide) (.slice L i Lc) i (syc (litS lb)) rfl (HOL.out.alloc _) (some ⟨w4.heap.size, 0, none⟩) 1 1 (syc [⟨2, 0, (nn : Int), (i : Int)⟩]) rfl (Rd.of_blk (Blk.new _ _ _) rfl rfl) (syc_one _) (by simp only [maxLen]; omega) (by omega) (by have := HB6.out; simp; omega) ?_; intro L2 Lc2 w5 hown5 hg5 hat5)
        have HB7 : Hid (Below w.heap.size w w5) := (HB5.out.alloc HB5.out.size _).grown hg5 (by have := HB6.out; simp; omega) (fun g hg => (own_lt HOL.out hg).1)
        have hIS5 : InS w5 L2 (i + 1) (litS lb ++ [⟨2, 0, (nn : Int), (i : Int)⟩]) := InS.of_own (by rw [syc_append]; exact hown5) (by omega)
        clear hown5 hg5 hat5 HOL
        have hc := Expand_yes sz L2 (i + 1) Lc2 _ w5 hIS5 (HL.out.below HB7.out) (by omega) (by omega)
        have hlm := lits_match sz nn lb (by have := Hlen.out; omega) (by have := Hlen.out; omega) (by omega) (by omega) (by omega)
        rw [Hlen.out] at hlm
        rw [hlm] at hc
        obtain ⟨M, hM⟩ : ∃ M, i + nn = M := ⟨_, rfl⟩
        have Hel : Hid ((ext i nn lb).length = M) := by show _ = _; rw [ext_length, Hlen.out, hM]
        have Hmod : Hid (∀ j, j < M → ∃ x, (ext i nn lb)[j]? = some x ∧ lb[j % i]? = some x) := fun j hj => by
          have := ext_mod lb nn (by have := Hlen.out; omega) j (by rw [Hlen.out, hM]; exact hj)
          rw [Hlen.out] at this
          refine ⟨_, List.getElem?_eq_getElem (by rw [Hel.out]; exact hj), ?_⟩
          rw [← this]
          exact List.getElem?_eq_getElem (by rw [Hel.out]; exact hj)
        go_wp2_with fail
        refine hc.mono ?_
        rintro e w6 ⟨D, Dc, rfl, hOD, hB8⟩
        have HOD := Lib.hid hOD
        have HB8 : Hid (Below w.heap.size w w6) := bup HB7.out hB8
        simp only [Hel.out] at HOD ⊢
        clear hc hlm hOD hB8 HB7 hIS5
        have gx : (i : Int) + (nn : Int) = (M : Int) := by omega
        have gs : M ≤ 1048576 + 273 := by omega
        have gi : i ≤ M := by omega
        clear hM
        go_wp2_with fail
        go_loopw [13] (fun s13 wr => ∃ j : Nat, s13 = .int .i64 (j : Int) ∧ i ≤ j ∧ j ≤ M ∧ Hid (Below w6.heap.size w6 wr)) (fun s13 _ => M - (intOf s13).toNat)
        case atStart => exact ⟨i, rfl, Nat.le_refl _, by omega, Below.refl _ _⟩
        case round =>
          obtain ⟨j, rfl, hj0, hj, Hb⟩ := hrel
          by_cases hlt : j < M
          · obtain ⟨x, hx1, hx2⟩ := Hmod.out j hlt
            have hlt' : (j : Int) < (M : Int) := by omega
            have hIr := (H.out.below HB8.out).below Hb.out
            obtain ⟨bb, bo, rfl, hc⟩ := hIr.1.cells_at (by omega)
            have x0 := hc _ x hx2
            obtain ⟨dd, do_, rfl, hcd⟩ := (Rd.of_own (own_below HOD.out Hb.out)).cells_at (by omega)
            have d0 := hcd _ x hx1
            have hq : j % i = (j - i) % i := Nat.mod_eq_sub_mod hj0
            rw [hq] at x0
            have hql : (j - i) % i < i := Nat.mod_lt _ g1
            have hsub : IntKind.i64.wrap ((j : Int) - (i : Int)) = ((j - i : Nat) : Int) := by
              rw [IntWalk.i64_in _ (by omega)]; omega
            have hrem : ((j - i : Nat) : Int).tmod (i : Int) = (((j - i) % i : Nat) : Int) := by
              rw [Int.tmod_eq_emod_of_nonneg (by omega)]; omega
            obtain ⟨q, hqq⟩ : ∃ q, (j - i) % i = q := ⟨_, rfl⟩
            rw [hqq] at hrem hql x0
            have hql' : (q : Int) < (i : Int) := by omega
            clear hq hqq hc hcd hIr hx1 hx2
            go_upto_region 23 with (fail)
            go_quiet (fail)
            have Hb2 : Hid (Below w6.heap.size w6 (wr.drewN nq)) := below_drewN Hb.out _
            clear hsub hrem x0 d0
            go_wp2_with fail
            go_roundw
            case rel => exact ⟨j + 1, by go_num, by omega, by omega, Hb2⟩
            case measure => simp [intOf]; omega
          · obtain rfl : j = M := by omega
            go_wp2_with fail
            go_ret
            exact ⟨rfl, bup HB8.out Hb.out⟩
      · have hg' : i = 0 ∨ (0 < i ∧ sz < i) ∨ (0 < i ∧ i ≤ sz ∧ n < 2) ∨ (0 < i ∧ i ≤ sz ∧ 2 ≤ n ∧ 273 < n) := by omega
        clear hg
        rcases hg' with g1 | ⟨g1, g2⟩ | ⟨g1, g2, g3⟩ | ⟨g1, g2, g3, g4⟩
        · have g1' : ((i : Int) == 0) = true := beq_iff_eq.2 (by omega)
          clear g1
          go_wp2_with fail
          go_ret
          exact ⟨rfl, HB5.out⟩
        · have g1' : ((i : Int) == 0) = false := beq_eq_false_iff_ne.2 (by omega)
          have g2' : (sz : Int) < (i : Int) := by omega
          go_wp2_with fail
          go_ret
          exact ⟨rfl, HB5.out⟩
        · have g1' : ((i : Int) == 0) = false := beq_eq_false_iff_ne.2 (by omega)
          have g2' : (i : Int) ≤ (sz : Int) := by omega
          go_wp2_with fail
          go_ret
          exact ⟨rfl, HB5.out⟩
        · have g1' : ((i : Int) == 0) = false := beq_eq_false_iff_ne.2 (by omega)
          have g2' : (i : Int) ≤ (sz : Int) := by omega
          go_wp2_with fail
          go_ret
          exact ⟨rfl, HB5.out⟩
theorem literals_law_ (A : Option Addr) (m mc : Nat) (lb : List UInt8) (dict n : Int) (w : World) (h : In w A m lb) (hm : m ≤ 1048576) (_h1 : -9223372036854775808 ≤ dict ∧ dict ≤ 9223372036854775807) (_h2 : -9223372036854775808 ≤ n ∧ n ≤ 9223372036854775807) (hl : Laid w) :
    Calls Tryd.prog 7 #[.slice A m mc, .int .i64 dict, .int .i64 n] w fun e w' => e = .returned (.bool true) ∧ Below w.heap.size w w' := literals_law A m mc lb dict n w h hm hl
end Go.Proofs.YthcgchkcanhmnaaDoor
