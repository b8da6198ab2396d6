
/-
  Walk: the law SymbolRows returns true; nothing that was there is written. Conditions: symbols and bytes lie in memory and are at most 1048576; the tables as Laid says.
-/
import Derived.Test.YthcgchkcanhmnaaDoorRowsC
import Derived.Outline
namespace Go.Proofs.YthcgchkcanhmnaaDoor
open Go.RowKit

def neg1 : Sy := ⟨-1, 0, 0, 0⟩
theorem syc_set4 {l : List Sy} {i : Nat} (h : i < l.length) (y : Sy) {k' l' x' : Int} (hk : y.k = k') (hl : y.l = l') (hx : y.x = x') :
    ((((syc l).set (i * 4) (.int .i64 k')).set (i * 4 + 1) (.int .u8 (y.y.toNat : Int))).set (i * 4 + 2) (.int .i64 l')).set (i * 4 + 3) (.int .i64 x') = syc (l.set i y) := by
  subst hk; subst hl; subst hx
  induction l generalizing i with
  | nil => simp at h
  | cons q r ih =>
    cases i with
    | zero => rfl
    | succ i =>
      simp at h
      rw [show (i + 1) * 4 = i * 4 + 1 + 1 + 1 + 1 by omega]
      simp only [syc, List.set_cons_succ, show i * 4 + 1 + 1 + 1 + 1 + 1 = (i * 4 + 1) + 1 + 1 + 1 + 1 from rfl, show i * 4 + 1 + 1 + 1 + 1 + 2 = (i * 4 + 2) + 1 + 1 + 1 + 1 by omega, show i * 4 + 1 + 1 + 1 + 1 + 3 = (i * 4 + 3) + 1 + 1 + 1 + 1 by omega, ih h]
theorem rep_set {α : Type} {l : List α} {i : Nat} {a : α} (h : i < l.length) : (List.replicate i a ++ l.drop i).set i a = List.replicate (i + 1) a ++ l.drop (i + 1) := by
  rw [List.set_append_right _ _ (by rw [List.length_replicate]; exact Nat.le_refl _), List.length_replicate, Nat.sub_self, List.drop_eq_getElem_cons h, List.replicate_succ', List.append_assoc]
  rfl
set_option maxHeartbeats 8000000 in
set_option maxRecDepth 100000 in
theorem rowsS_law (dict : Int) (A : Option Addr) (m mc : Nat) (l : List Sy) (A2 : Option Addr) (n c2 : Nat) (lb : List UInt8) (w : World) (h : InS w A m l) (hm : m ≤ 1048576) (h2 : In w A2 n lb) (hn : n ≤ 1048576) (hl : Laid w) :
    Calls Tryd.prog 6 #[.int .i64 dict, .slice A m mc, .slice A2 n c2] w fun e w' => e = .returned (.bool true) ∧ Below w.heap.size w w' := by
  obtain ⟨i0, hi0, hz0, hz1, hz2⟩ := info_parts infou8
  obtain ⟨j0, hj0, jz0, jz1, jz2⟩ := info_parts infosy
  have HL : Hid (∀ w', Below w.heap.size w w' → Laid w') := fun w' hb => hl.below hb
  have H := Lib.hid h
  have HI := Lib.hid h2
  have Hlen := Lib.hid h.len
  have Hlb := Lib.hid h2.len
  have hpl := exAll_len dict l
  rw [Hlen.out] at hpl
  have hEx := fun W (hW : Below w.heap.size w W) a c (h : InS W a m l) => Expand_any dict a m c l W h (HL.out W hW)
  have hRx := fun W a c (h : InS W a m l) => RExpand_any dict a m c l W h
  obtain ⟨bs, cnt, er, hp⟩ : ∃ bs cnt er, exAll dict l = (bs, cnt, er) := ⟨_, _, _, rfl⟩
  rw [hp] at hEx hRx hpl
  simp only [] at hpl
  obtain ⟨K, hK⟩ : ∃ K, bs.length = K := ⟨_, rfl⟩
  rw [hK] at hpl
  have HK := Lib.hid hK
  have HEx := Lib.hid hEx
  have HRx := Lib.hid hRx
  clear hp hEx hRx h h2 hl hK
  go_enter Tryd.func6, Tryd.ntmps6
  go_wp2_with fail
  refine (lent_any A m mc l w H.out).mono ?_
  rintro e w1 ⟨F, fc, rfl, hF, hb1⟩
  have HF := Lib.hid hF
  have HB1 := Lib.hid hb1
  have hISF := (InS.of_own hF (by omega)).take (show m ≤ m + 1 by omega)
  rw [List.take_append_of_le_length (by rw [Hlen.out]; exact Nat.le_refl _), List.take_of_length_le (by rw [Hlen.out]; exact Nat.le_refl _)] at hISF
  have HX := Lib.hid hISF
  have hmfc : m ≤ fc := by have := own_le hF; omega
  clear hF hb1 hISF
  go_wp2_with fail
  refine (HEx.out w1 HB1.out F fc HX.out).mono ?_
  rintro e w2 ⟨C, cc, rfl, hC, hb2⟩
  simp only [HK.out] at hC ⊢
  have HC := Lib.hid hC
  have HB12 := Lib.hid hb2
  have HClt : Hid (∀ g, (Value.slice C K cc).ownBlock = some g → w1.heap.size ≤ g ∧ g < w2.heap.size) := fun g hg => own_lt hC hg
  have HB2 : Hid (Below w.heap.size w w2) := bup HB1.out hb2
  clear hC hb2
  go_wp2_with fail
  refine (HRx.out w2 A mc (H.out.below HB2.out)).mono ?_
  rintro e w3 ⟨D, dc, rfl, hD, hb3⟩
  simp only [HK.out] at hD ⊢
  have HD := Lib.hid hD
  have HC3 := Lib.hid (own_below HC.out hb3)
  have HB13 : Hid (Below w1.heap.size w1 w3) := bup HB12.out hb3
  have HB3 : Hid (Below w.heap.size w w3) := bup HB2.out hb3
  have hcv := conv_rd (c := cc) (Rd.of_own HC3.out)
  have hcv2 := conv_rd (c := dc) (Rd.of_own HD.out)
  have hs23 : w2.heap.size ≤ w3.heap.size := hb3.size
  clear hD hb3 HC
  go_wp2_with fail
  clear hcv hcv2
  refine (kept_any F A m fc mc l w3 ((InS.of_own HF.out (by omega)).below HB13.out) (H.out.below HB3.out)).mono ?_
  rintro e w4 ⟨rfl, hb4⟩
  have HC4 := Lib.hid (own_below HC3.out hb4)
  have HD4 := Lib.hid (own_below HD.out hb4)
  have HB14 : Hid (Below w1.heap.size w1 w4) := bup HB13.out hb4
  have HB14s : Hid (w1.heap.size ≤ w4.heap.size) := HB14.out.size
  have HB24 : Hid (w2.heap.size ≤ w4.heap.size) := Nat.le_trans hs23 hb4.size
  have HB4 : Hid (Below w.heap.size w w4) := bup HB3.out hb4
  clear hb4 HC3 HD HB13 HB3
  go_wp2_with fail
  refine (HEx.out w4 HB4.out F fc (HX.out.below HB14.out)).mono ?_
  rintro e w5 ⟨E, ec, rfl, hE, hb5⟩
  simp only [HK.out] at hE ⊢
  have HE5 := Lib.hid hE
  have HC5 := Lib.hid (own_below HC4.out hb5)
  have HD5 := Lib.hid (own_below HD4.out hb5)
  have HB15 : Hid (Below w1.heap.size w1 w5) := bup HB14.out hb5
  have HB5 : Hid (Below w.heap.size w w5) := bup HB4.out hb5
  have hcv := conv_rd (c := ec) (Rd.of_own HE5.out)
  have hcv2 := conv_rd (c := dc) (Rd.of_own HD5.out)
  clear hE hb5 HC4 HD4 HB4
  go_wp2_with fail
  clear hcv hcv2
  refine (hold_even E K ec w4.heap.size 2 bs w5 HE5.out (by omega) (by omega) rfl).mono ?_
  rintro e w6 ⟨rfl, hb6⟩
  have HE6 := Lib.hid (own_below HE5.out hb6)
  have HC6 := Lib.hid (own_below HC5.out hb6)
  have HD6 := Lib.hid (own_below HD5.out hb6)
  have HB16 : Hid (Below w1.heap.size w1 w6) := bup HB15.out hb6
  clear hb6 HE5 HC5 HD5 HB15 HB5
  unfold heV
  go_wp2_with fail
  refine (hold_odd C K cc w1.heap.size 3 bs w6 HC6.out (by omega) (by omega) rfl HB16.out.size).mono ?_
  rintro e w7 ⟨C', cc', rfl, hC7, hF7, hat7⟩
  unfold heV
  have hs24 : w2.heap.size ≤ w4.heap.size := HB24.out
  have hs16 : w1.heap.size ≤ w6.heap.size := HB16.out.size
  have HD7 := Lib.hid (own_fr HD6.out hF7 (fun g hg e => by have := (own_lt HD6.out hg).1; have := (HClt.out g e.symm).2; omega))
  have HE7 := Lib.hid (own_fr HE6.out hF7 (fun g hg e => by have := (own_lt HE6.out hg).1; have := (HClt.out g e.symm).2; omega))
  have HB17 : Hid (Below w1.heap.size w1 w7) := HB16.out.trans (hF7.below hs16 (fun k e => (HClt.out k e.symm).1))
  have HC7 := Lib.hid hC7
  have Hat : Hid (∀ g, (Value.slice C' (K + 70) cc').ownBlock = some g → g < w2.heap.size ∨ w6.heap.size ≤ g) := fun g hg => by
    rcases hat7 with h | h
    · rw [h] at hg; exact .inl (HClt.out g hg).2
    · exact .inr (h g hg)
  have HE6b : Hid (∀ g, (Value.slice E K ec).ownBlock = some g → w4.heap.size ≤ g ∧ g < w6.heap.size) := fun g hg => own_lt HE6.out hg
  clear hC7 hF7 hat7 HE6 HC6 HD6 HB16
  obtain ⟨es, hes⟩ : ∃ es : List HE, es = [⟨E, ec, K, markOf 2, bs, true, bs⟩, ⟨C', cc', K, markOf 3, bs, false, List.replicate (K + 70) (markOf 3)⟩] := ⟨_, rfl⟩
  have HIN : Hid (∀ w', (w7.alloc (.cells #[.slice E K ec, .int .i64 (K : Int), .int .u8 ((markOf 2).toNat : Int), .string (strOf bs), .bool true, .slice C' (K + 70) cc', .int .i64 (K : Int), .int .u8 ((markOf 3).toNat : Int), .string (strOf bs), .bool false] 47)) = w' → InH w' (some ⟨w7.heap.size, 0, none⟩) 2 es ∧ Below w7.heap.size w7 w') := fun w' hw => by
    subst hw
    refine ⟨⟨Rd.of_blk' (Blk.new _ _ _) (by rw [hes]; simp only [hec, HK.out, List.length_replicate]) (by rw [hec_length, hes]; rfl), fun _ ad had => by cases had; exact ⟨by simp, rfl⟩⟩, (Below.refl _ _).alloc (Nat.le_refl _) _⟩
  have HBO : Hid (BookOwn w7 w1.heap.size es) := fun i e hi => by
    rw [hes] at hi
    rcases i with _ | _ | i
    · simp at hi
      subst hi
      simp only [HE.v, HK.out]
      exact own_mono HE7.out (by have := HB14s.out; omega)
    · simp at hi
      subst hi
      simp only [HE.v, List.length_replicate]
      exact HC7.out
    · simp at hi
  have HSEP : Hid (BookSep es) := fun i j e e' hij hi hj g hg hg' => by
    rw [hes] at hi hj
    have x1 : ∀ g, (Value.slice E K ec).ownBlock = some g → (Value.slice C' (K + 70) cc').ownBlock ≠ some g := fun g h1 h2 => by
      have a1 := HE6b.out g h1
      rcases Hat.out g h2 with a2 | a2
      · omega
      · omega
    rcases i with _ | _ | i
    · rcases j with _ | _ | j
      · omega
      · simp at hi hj
        subst hi; subst hj
        simp only [HE.v, HK.out, List.length_replicate] at hg hg'
        exact x1 g hg hg'
      · simp at hj
    · rcases j with _ | _ | j
      · simp at hi hj
        subst hi; subst hj
        simp only [HE.v, HK.out, List.length_replicate] at hg hg'
        exact x1 g hg' hg
      · omega
      · simp at hj
    · simp at hi
  have HOKS : Hid (∀ (i : Nat) (e : HE), es[i]? = some e → e.ok ∧ e.N ≤ 1073741824) := fun i e hi => by
    rw [hes] at hi
    rcases i with _ | _ | i
    · simp at hi
      subst hi
      exact ⟨⟨fun _ => ⟨rfl, HK.out.symm⟩, fun h => by cases h⟩, by simp only []; omega⟩
    · simp at hi
      subst hi
      exact ⟨⟨fun h => (by cases h), fun _ => rfl⟩, by simp only []; omega⟩
    · simp at hi
  clear hes HE6b Hat HE7 HC7
  go_upto_region 10 with (fail)
  obtain ⟨w8, hw8⟩ : ∃ w8, (w7.alloc (.cells #[.slice E K ec, .int .i64 (K : Int), .int .u8 ((markOf 2).toNat : Int), .string (strOf bs), .bool true, .slice C' (K + 70) cc', .int .i64 (K : Int), .int .u8 ((markOf 3).toNat : Int), .string (strOf bs), .bool false] 47)) = w8 := ⟨_, rfl⟩
  rw [hw8]
  obtain ⟨hin8, hb78⟩ := HIN.out w8 hw8
  have HIN8 := Lib.hid hin8
  have HBO8 := Lib.hid (HBO.out.below hb78)
  have HD8 := Lib.hid (own_below HD7.out hb78)
  have HB18 : Hid (Below w1.heap.size w1 w8) := HB17.out.trans (hb78.mono HB17.out.size)
  have HB8 : Hid (Below w.heap.size w w8) := HB1.out.trans (HB18.out.mono HB1.out.size)
  clear hw8 hin8 hb78 HIN HBO HD7 HB17
  go_wp2_with fail
  refine (HEx.out w8 HB8.out F fc (HX.out.below HB18.out)).mono ?_
  rintro e w9 ⟨G, gc, rfl, hG, hb9⟩
  simp only [HK.out] at hG ⊢
  have HD9 := Lib.hid (own_below HD8.out hb9)
  have hcv := conv_rd (c := gc) (Rd.of_own hG)
  have hcv2 := conv_rd (c := dc) (Rd.of_own HD9.out)
  have HIN9 := Lib.hid (HIN8.out.below hb9)
  have HBO9 := Lib.hid (HBO8.out.below hb9)
  have HB19 : Hid (Below w1.heap.size w1 w9) := bup HB18.out hb9
  clear hG hb9 HD8 HIN8 HBO8 HB18 HB8
  go_wp2_with fail
  clear hcv hcv2
  refine (held_any _ 2 2 w1.heap.size es w9 HIN9.out HBO9.out HSEP.out HOKS.out HB19.out.size (by omega)).mono ?_
  rintro e w10 ⟨rfl, hb10⟩
  have HB110 : Hid (Below w1.heap.size w1 w10) := HB19.out.trans hb10
  have HB10 : Hid (Below w.heap.size w w10) := HB1.out.trans (HB110.out.mono HB1.out.size)
  clear hb10 HIN9 HBO9 HB19
  go_wp2_with fail
  refine (anew_any dict F m fc w.heap.size l ⟨-9, 0, 0, 0⟩ w10 (own_below HF.out HB110.out) Hlen.out (by omega) HB10.out.size (fun w' hb => HL.out w' (HB10.out.trans hb))).mono ?_
  rintro e w11 ⟨rfl, hb11⟩
  have HB11 : Hid (Below w.heap.size w w11) := HB10.out.trans hb11
  clear hb11 HB10 HB110 HF HX HB1 HB12 HB2 HClt HD9
  go_wp2_with fail
  go_loopw [112] (fun s112 wr => ∃ (i : Nat), s112 = .int .i64 (i : Int) ∧ i ≤ m ∧ Hid (Below w11.heap.size w11 wr)) (fun s112 _ => m - (intOf s112).toNat)
  case atStart => exact ⟨0, rfl, Nat.zero_le _, Below.refl _ _⟩
  case round =>
    obtain ⟨i, rfl, hi, Hb⟩ := hrel
    by_cases hlt : i < m
    · have hlt' : (i : Int) < (m : Int) := by omega
      obtain ⟨yb, yo, y, rfl, hy, hyb, y0, y1, y2, y3⟩ := ((H.out.below HB11.out).below Hb.out).at hlt
      rw [← Nat.add_assoc] at y1 y2 y3
      obtain ⟨k, z, yl, x⟩ := y
      simp only [] at y0 y1 y2 y3
      clear hy
      have hN := Blk.new wr 38 #[.int .i64 k, .int .u8 (z.toNat : Int), .int .i64 yl, .int .i64 x]
      obtain ⟨wx, hwx⟩ : ∃ wx, wr.alloc (.cells #[.int .i64 k, .int .u8 (z.toNat : Int), .int .i64 yl, .int .i64 x] 38) = wx := ⟨_, rfl⟩
      have Hbx : Hid (Below w11.heap.size w11 wx) := by rw [← hwx]; exact bmk Hb.out _
      rw [hwx] at hN
      obtain ⟨N, hNe⟩ : ∃ N, wr.heap.size = N := ⟨_, rfl⟩
      rw [hNe] at hN
      go_upto_region 16 with (fail)
      clear y0 y1 y2 y3 hyb hwx hNe
      obtain ⟨y0, y1, y2, y3⟩ : wx.cell? ⟨N, 0, none⟩ = some (.int .i64 k) ∧ wx.cell? ⟨N, 1, none⟩ = some (.int .u8 (z.toNat : Int)) ∧ wx.cell? ⟨N, 2, none⟩ = some (.int .i64 yl) ∧ wx.cell? ⟨N, 3, none⟩ = some (.int .i64 x) := hN.four
      have nlt := hN.lt
      have Hq : Hid (∀ w' : World, Below wx.heap.size wx w' → w'.cell? ⟨N, 0, none⟩ = some (.int .i64 k) ∧ w'.cell? ⟨N, 1, none⟩ = some (.int .u8 (z.toNat : Int)) ∧ w'.cell? ⟨N, 2, none⟩ = some (.int .i64 yl) ∧ w'.cell? ⟨N, 3, none⟩ = some (.int .i64 x)) := fun w' hb => (hN.below hb).four
      have HLx : Hid (Laid wx) := HL.out _ (bup HB11.out Hbx.out)
      have hsz := fun W (hW : Laid W) => YSize_any k yl x z W hW
      have hrz := RSize_any k yl x z
      obtain ⟨f, hf⟩ : ∃ f, szF ⟨k, z, yl, x⟩ = f := ⟨_, rfl⟩
      rw [hf] at hsz hrz
      have Hsz := Lib.hid hsz
      have Hrz := Lib.hid hrz
      clear hsz hrz hf hN
      go_cut [120] (fun s120 wy => s120 = .bool false ∧ Hid (Below wx.heap.size wx wy))
      case first =>
        go_region_held3 (fun w' => w'.cell? ⟨N, 0, none⟩ = some (.int .i64 k) ∧ w'.cell? ⟨N, 1, none⟩ = some (.int .u8 (z.toNat : Int)) ∧ w'.cell? ⟨N, 2, none⟩ = some (.int .i64 yl) ∧ w'.cell? ⟨N, 3, none⟩ = some (.int .i64 x))
          (first | (with_reducible exact ⟨y0, y1, y2, y3⟩) | (with_reducible exact ⟨p0, p1, p2, p3⟩) | (with_reducible exact ⟨q0, q1, q2, q3⟩) | go_keep)
          (first | (go_at_call 28; refine (Hsz.out _ (HLx.out.below (by first | (with_reducible exact (Below.refl _ wx).drew) | (with_reducible exact hbq)))).mono ?_; rintro en wp ⟨rfl, hbp1⟩; have hbp : Below wx.heap.size wx wp := (by first | (with_reducible exact bd1 hbp1) | (with_reducible exact bup hbq hbp1)); obtain ⟨p0, p1, p2, p3⟩ := Hq.out wp hbp) | (go_at_call 34; refine (Hrz.out _).mono ?_; rintro en wq ⟨rfl, hbq1⟩; have hbq : Below wx.heap.size wx wq := (by first | (with_reducible exact bd1 hbq1) | (with_reducible exact bup hbp hbq1)); obtain ⟨q0, q1, q2, q3⟩ := Hq.out wq hbq))
        all_goals go_wp2_with fail
        all_goals go_meet
        all_goals first | exact ⟨rfl, hbq⟩ | exact ⟨rfl, hbp⟩
      case rest =>
        obtain ⟨rfl, hb⟩ := hcut
        obtain ⟨wa, rfl⟩ : ∃ wa : World, wa = wc := ⟨_, rfl⟩
        have Hb2 : Hid (Below w11.heap.size w11 wa) := bup Hbx.out hb.out
        clear y0 y1 y2 y3 nlt hb Hbx HLx Hq Hsz Hrz
        go_wp2_with fail
        go_roundw
        case rel => exact ⟨i + 1, by go_num, by omega, Hb2⟩
        case measure => simp [intOf]; omega
    · obtain rfl : i = m := by omega
      have HB12 : Hid (Below w.heap.size w wr) := bup HB11.out Hb.out
      have HI12 := Lib.hid (HI.out.below HB12.out)
      clear HB11 Hb
      go_upto_region 21 with (first | (at_builtin; refine wpList_fresh rfl (.tmp 122) (.tmp 123) rfl wr.heap.size rfl rfl A2 n c2 lb rfl HI12.out ?_; intro a1 c1 w13 hF; have H13 := Lib.hid hF; clear hF) | (at_builtin; refine wpList_append_rd (w := w13.alloc (.cells #[.int .u8 165] 5)) rfl (.tmp 125) (.tmp 126) 23 rfl wr.heap.size 5 i0 _ 1 1 Tryd.underlying23 hi0 hz0 hz1 hz2 rfl (by decide) (.slice a1 n c1) n (bys lb) rfl (H13.out.1.alloc _) (some ⟨w13.heap.size, 0, none⟩) 1 1 (bys [165]) rfl (Rd.of_blk (Blk.new _ _ _) rfl rfl) (bys_one _) (by simp only [maxLen]; omega) (by omega) (by have := H13.out.2.size; simp; omega) ?_; intro O oc w14 hown14 hg14 hat14; have hmo : n ≤ oc := (by have := own_le hown14; omega)))
      have hb14 : Below wr.heap.size wr w14 := (H13.out.2.alloc H13.out.2.size _).grown hg14 (by have := H13.out.2.size; simp; omega) (fun g hg => (own_lt H13.out.1 hg).1)
      have HB14 : Hid (Below w.heap.size w w14) := bup HB12.out hb14
      have HW14 : Hid (w.heap.size ≤ w14.heap.size) := HB14.out.size
      rw [← bys_append] at hown14
      have HO14 := Lib.hid hown14
      have HOI : Hid (In w14 O n lb) := by
        have h1 := (Rd.of_own hown14).take (show n ≤ n + 1 by omega)
        rw [Nat.mul_one, bys_take, List.take_append_of_le_length (by rw [Hlb.out]; exact Nat.le_refl _), List.take_of_length_le (by rw [Hlb.out]; exact Nat.le_refl _)] at h1
        exact ⟨h1, fun _ ad had => (own_lt hown14 (own_addr hown14 had)).2, by omega⟩
      clear hb14 hown14 hg14 hat14 H13 HI12 HB12
      go_wp2_with fail
      refine (Literals_any O n oc lb w14 HOI.out (by omega)).mono ?_
      rintro e w15 ⟨L, lc, rfl, hL, hb15⟩
      have hll : (litS lb).length = n := by rw [litS, List.length_map]; exact Hlb.out
      have Hll := Lib.hid hll
      simp only [hll] at hL ⊢
      have HLr := Lib.hid hL
      have HO15 := Lib.hid (own_below HO14.out hb15)
      have HB15 : Hid (Below w.heap.size w w15) := bup HB14.out hb15
      have HS15 : Hid (w14.heap.size ≤ w15.heap.size) := hb15.size
      clear hL hb15 HO14 HOI HB14 hll
      have hcv : ∀ a, (convert 23 9 (.slice O n oc)).run Tryd.prog (w15.drewN a) = .ok (.string (strOf lb)) (w15.drewN a) := fun a => conv_rd (by
        have h1 := ((Rd.of_own HO15.out).take (show n ≤ n + 1 by omega)).keep (w' := w15.drewN a) (fun _ _ => rfl)
        rw [Nat.mul_one, bys_take, List.take_append_of_le_length (by rw [Hlb.out]; exact Nat.le_refl _), List.take_of_length_le (by rw [Hlb.out]; exact Nat.le_refl _)] at h1
        exact h1)
      have hcv2 : ∀ a, (convert 23 9 (.slice A2 n c2)).run Tryd.prog (w15.drewN a) = .ok (.string (strOf lb)) (w15.drewN a) := fun a => conv_rd ((HI.out.below HB15.out).1.keep (fun _ _ => rfl))
      obtain ⟨ob, oo, rfl, hco⟩ := (Rd.of_own HO15.out).cells_at (by omega)
      have o0 := hco n 165 (by rw [List.getElem?_append_right (by rw [Hlb.out]; exact Nat.le_refl _), Hlb.out, Nat.sub_self]; rfl)
      have o0 : w15.cell? ⟨ob, oo + n, none⟩ = some (.int .u8 165) := o0
      have hnl' : (n : Int) < (n : Int) + 1 := by omega
      clear hco
      go_wp2_with fail
      go_quiet (fail)
      clear hcv hcv2 o0
      obtain ⟨w16, hw16⟩ : ∃ w16, w15.drewN nq = w16 := ⟨_, rfl⟩
      have HL16 : Hid (w16.ownsRow w14.heap.size 38 4 (.slice L n lc) n (syc (litS lb))) := by rw [← hw16]; exact HLr.out
      have HB16 : Hid (Below w.heap.size w w16) := by rw [← hw16]; exact below_drewN HB15.out _
      have HS16 : Hid (w14.heap.size ≤ w16.heap.size) := by rw [← hw16]; exact HS15.out
      rw [hw16]
      clear hw16 HLr HO15 HB15 HS15
      go_wp2_with fail
      refine (RLiterals_any A2 n c2 lb w16 (HI.out.below HB16.out) (by omega)).mono ?_
      rintro e w17 ⟨R, rc, rfl, hR, hb17⟩
      simp only [Hll.out] at hR ⊢
      have Hlr : Hid (∀ g, (Value.slice L n lc).ownBlock = some g → g < w16.heap.size) := fun g hg => (own_lt HL16.out hg).2
      have HX17 : Hid (w17.ownsRow w14.heap.size 38 4 (.slice L n lc) n (syc (List.replicate 0 neg1 ++ (litS lb).drop 0)) ∧ w17.ownsRow w16.heap.size 38 4 (.slice R n rc) n (syc (litS lb)) ∧ Below w.heap.size w w17 ∧ w14.heap.size ≤ w17.heap.size) := ⟨own_below HL16.out hb17, hR, bup HB16.out hb17, Nat.le_trans HS16.out hb17.size⟩
      have hw14 : w.heap.size ≤ w14.heap.size := HW14.out
      clear hR hb17 HL16
      go_wp2_with fail
      go_loopw [159] (fun s159 wr => ∃ (i : Nat), s159 = .int .i64 (i : Int) ∧ i ≤ n ∧ Hid (wr.ownsRow w14.heap.size 38 4 (.slice L n lc) n (syc (List.replicate i neg1 ++ (litS lb).drop i)) ∧ wr.ownsRow w16.heap.size 38 4 (.slice R n rc) n (syc (litS lb)) ∧ Below w.heap.size w wr ∧ w14.heap.size ≤ wr.heap.size)) (fun s159 _ => n - (intOf s159).toNat)
      case atStart => exact ⟨0, rfl, Nat.zero_le _, HX17⟩
      case round =>
        clear HX17
        obtain ⟨i, rfl, hi, HX⟩ := hrel
        by_cases hlt : i < n
        · have hlt' : (i : Int) < (n : Int) := by omega
          obtain ⟨rb, ro, y, rfl, hy, hrb, y0, y1, y2, y3⟩ := (InS.of_own HX.out.2.1 (by omega)).at hlt
          obtain ⟨x, hx, rfl⟩ := litS_get hy
          rw [← Nat.add_assoc] at y1 y2 y3
          obtain ⟨g, cap, hv, _, _⟩ := HX.out.1.form (by omega)
          injection hv with hA _ hcap
          subst hA
          subst hcap
          have hgl : g < w16.heap.size := Hlr.out g rfl
          have hrl : w16.heap.size ≤ rb := (own_lt HX.out.2.1 rfl).1
          have hle : (List.replicate i neg1 ++ (litS lb).drop i)[i]? = some (lit x) := by
            rw [List.getElem?_append_right (by rw [List.length_replicate]; exact Nat.le_refl _), List.length_replicate, Nat.sub_self, List.getElem?_drop]
            exact hy
          obtain ⟨g0, g1, g2, g3⟩ := syc_get hle
          have z0 := HX.out.1.cellAt (i * 4) (by omega)
          have z1 := HX.out.1.cellAt (i * 4 + 1) (by omega)
          have z2 := HX.out.1.cellAt (i * 4 + 2) (by omega)
          have z3 := HX.out.1.cellAt (i * 4 + 3) (by omega)
          rw [g0] at z0
          rw [g1] at z1
          rw [g2] at z2
          rw [g3] at z3
          have f0 := HX.out.1.frozenAt (i * 4)
          have f1 := HX.out.1.frozenAt (i * 4 + 1)
          have f2 := HX.out.1.frozenAt (i * 4 + 2)
          have f3 := HX.out.1.frozenAt (i * 4 + 3)
          have hglt : g < wr.heap.size := (own_lt HX.out.1 rfl).2
          unfold lit at y0 y1 y2 y3 z0 z1 z2 z3
          simp only [] at y0 y1 y2 y3 z0 z1 z2 z3
          have hlen : i < (List.replicate i neg1 ++ (litS lb).drop i).length := by rw [List.length_append, List.length_replicate, List.length_drop, Hll.out]; omega
          have Hst : Hid ((((syc (List.replicate i neg1 ++ (litS lb).drop i)).set (i * 4) (.int .i64 (-1))).set (i * 4 + 1) (.int .u8 0)).set (i * 4 + 2) (.int .i64 0) = (((syc (List.replicate i neg1 ++ (litS lb).drop i)).set (i * 4) (.int .i64 (-1))).set (i * 4 + 1) (.int .u8 0)).set (i * 4 + 2) (.int .i64 0)) := rfl
          clear Hst hy hx hle g0 g1 g2 g3
          go_upto_region 27 with (fail)
          go_quiet (fail)
          obtain ⟨wq, hwq⟩ : ∃ wq, (wr.alloc (.cells #[.int .i64 1, .int .u8 (x.toNat : Int), .int .i64 0, .int .i64 0] 38)).drewN nq = wq := ⟨_, rfl⟩
          have hbq : Below wr.heap.size wr wq := by rw [← hwq]; exact below_drewN ((Below.refl _ _).alloc (Nat.le_refl _) _) _
          have z0 := (hbq.cell (p := ⟨g, i * 4, none⟩) hglt).trans z0
          have z1 := (hbq.cell (p := ⟨g, i * 4 + 1, none⟩) hglt).trans z1
          have z2 := (hbq.cell (p := ⟨g, i * 4 + 2, none⟩) hglt).trans z2
          have z3 := (hbq.cell (p := ⟨g, i * 4 + 3, none⟩) hglt).trans z3
          have f0 := (hbq.frozen (p := ⟨g, i * 4, none⟩) hglt).trans f0
          have f1 := (hbq.frozen (p := ⟨g, i * 4 + 1, none⟩) hglt).trans f1
          have f2 := (hbq.frozen (p := ⟨g, i * 4 + 2, none⟩) hglt).trans f2
          have f3 := (hbq.frozen (p := ⟨g, i * 4 + 3, none⟩) hglt).trans f3
          rw [hwq]
          have Hbq := Lib.hid hbq
          clear hwq hbq y0 y1 y2 y3
          go_wp2_with fail
          go_roundw
          case rel =>
            refine ⟨i + 1, by go_num, by omega, ?_, ?_, ?_, ?_⟩
            · have hst := own_set (own_set (own_set (own_set (own_below HX.out.1 Hbq.out) (i * 4) (.int .i64 (-1))) (i * 4 + 1) (.int .u8 0)) (i * 4 + 2) (.int .i64 0)) (i * 4 + 3) (.int .i64 0)
              rw [show (Value.int .u8 0) = Value.int .u8 ((neg1.y).toNat : Int) from rfl, syc_set4 (k' := -1) (l' := 0) (x' := 0) hlen neg1 rfl rfl rfl, rep_set (by rw [Hll.out]; exact hlt)] at hst
              exact hst
            · have hfar := fun j u (W : World) (hW : W.ownsRow w16.heap.size 38 4 (.slice (some ⟨rb, ro, none⟩) n rc) n (syc (litS lb))) => own_far hW (p := ⟨g, j, none⟩) (fun e => by
                have e : some g = (Value.slice (some ⟨rb, ro, none⟩) n rc).ownBlock := e
                simp only [Value.ownBlock, Option.some.injEq] at e
                omega) u
              exact hfar _ _ _ (hfar _ _ _ (hfar _ _ _ (hfar _ _ _ (own_below HX.out.2.1 Hbq.out))))
            · have hgw : w.heap.size ≤ g := Nat.le_trans hw14 (own_lt HX.out.1 rfl).1
              exact (((bup HX.out.2.2.1 Hbq.out).setCell (p := ⟨g, i * 4, none⟩) hgw _).setCell (p := ⟨g, i * 4 + 1, none⟩) hgw _).setCell (p := ⟨g, i * 4 + 2, none⟩) hgw _ |>.setCell (p := ⟨g, i * 4 + 3, none⟩) hgw _
            · simp only [World.size_setCell]; exact Nat.le_trans HX.out.2.2.2 Hbq.out.size
          case measure => simp [intOf]; omega
        · obtain rfl : n = i := by omega
          have HL18 : Hid (wr.ownsRow w14.heap.size 38 4 (.slice L n lc) n (syc (List.replicate n neg1))) := by
            have h1 := HX.out.1
            rw [List.drop_of_length_le (by rw [Hll.out]; exact Nat.le_refl _), List.append_nil] at h1
            exact h1
          have HB18 := Lib.hid HX.out.2.2.1
          have HS18 : Hid (w14.heap.size ≤ wr.heap.size) := HX.out.2.2.2
          clear HX
          go_wp2_with (at_builtin; refine wpList_append_rd (w := wr.alloc (.cells #[.int .i64 (-2), .int .u8 0, .int .i64 0, .int .i64 0] 38)) rfl (.tmp 175) (.tmp 177) 24 rfl w14.heap.size 38 j0 _ 4 32 Tryd.underlying24 hj0 jz0 jz1 jz2 rfl (by decide) (.slice L n lc) n (syc (List.replicate n neg1)) rfl (HL18.out.alloc _) (some ⟨wr.heap.size, 0, none⟩) 1 1 (syc [⟨-2, 0, 0, 0⟩]) rfl (Rd.of_blk (Blk.new _ _ _) rfl rfl) (syc_one _) (by simp only [maxLen]; omega) (by omega) (by have := HS18.out; simp; omega) ?_; intro P pc w19 hown19 hg19 hat19)
          have hb19 : Below w.heap.size w w19 := (HB18.out.alloc HB18.out.size _).grown hg19 (by have := HB18.out.size; simp; omega) (fun g hg => Nat.le_trans HW14.out (own_lt HL18.out hg).1)
          have HB19 := Lib.hid hb19
          rw [← syc_append] at hown19
          have HP := Lib.hid hown19
          clear hb19 hown19 hg19 hat19 HL18 HB18 HS18 HB16
          go_wp2_with fail
          refine (Literals_any A2 n c2 lb w19 (HI.out.below HB19.out) (by omega)).mono ?_
          rintro e w20 ⟨Q, qc, rfl, hQ, hb20⟩
          simp only [Hll.out] at hQ ⊢
          have HQ := Lib.hid hQ
          have HP20 := Lib.hid (own_below HP.out hb20)
          have HB20 : Hid (Below w.heap.size w w20) := bup HB19.out hb20
          clear hQ hb20 HP HB19
          go_wp2_with fail
          go_loopw [182] (fun s182 wr => ∃ (i : Nat), s182 = .int .i64 (i : Int) ∧ i ≤ n ∧ Hid (Below w20.heap.size w20 wr)) (fun s182 _ => n - (intOf s182).toNat)
          case atStart => exact ⟨0, rfl, Nat.zero_le _, Below.refl _ _⟩
          case round =>
            obtain ⟨i, rfl, hi, Hb⟩ := hrel
            by_cases hlt : i < n
            · have hlt' : (i : Int) < (n : Int) := by omega
              have hip : i ≤ pc ∧ n < pc := ⟨by have := own_le HP20.out; omega, by have := own_le HP20.out; omega⟩
              obtain ⟨rb, ro, y, rfl, hy, hrb, y0, y1, y2, y3⟩ := (InS.of_own (own_below HQ.out Hb.out) (by omega)).at hlt
              obtain ⟨x, hx, rfl⟩ := litS_get hy
              rw [← Nat.add_assoc] at y1 y2 y3
              obtain ⟨pb, po, y, rfl, hpy, hpb, z0, z1, z2, z3⟩ := (InS.of_own (own_below HP20.out Hb.out) (by omega)).at (show i < n + 1 by omega)
              have hpy' : some y = some neg1 := by
                rw [← hpy, List.getElem?_append_left (by rw [List.length_replicate]; exact hlt), List.getElem?_replicate, if_pos hlt]
              injection hpy' with hpy'
              subst hpy'
              obtain ⟨bb, bo, rfl, hco⟩ := ((HI.out.below HB20.out).below Hb.out).1.cells_at (by omega)
              have b0 := hco i x hx
              have hbb : bb < wr.heap.size := ((HI.out.below HB20.out).below Hb.out).2.1 (by omega) _ rfl
              unfold lit at y0 y1 y2 y3
              unfold neg1 at z0
              simp only [] at y0 y1 y2 y3 z0
              clear z1 z2 z3 hy hx hpy hco
              go_upto_region 35 with (fail)
              go_quiet (fail)
              have hbq : Below wr.heap.size wr ((wr.alloc (.cells #[.int .i64 1, .int .u8 (x.toNat : Int), .int .i64 0, .int .i64 0] 38)).drewN nq) := below_drewN ((Below.refl _ _).alloc (Nat.le_refl _) _) _
              have Hb2 : Hid (Below w20.heap.size w20 ((wr.alloc (.cells #[.int .i64 1, .int .u8 (x.toNat : Int), .int .i64 0, .int .i64 0] 38)).drewN nq)) := bup Hb.out hbq
              clear hbq
              go_wp2_with fail
              go_roundw
              case rel => exact ⟨i + 1, by go_num, by omega, Hb2⟩
              case measure => simp [intOf]; omega
            · obtain rfl : n = i := by omega
              have hip : n ≤ pc ∧ n < pc := ⟨by have := own_le HP20.out; omega, by have := own_le HP20.out; omega⟩
              obtain ⟨pb, po, y, rfl, hpy, hpb, z0, z1, z2, z3⟩ := (InS.of_own (own_below HP20.out Hb.out) (by omega)).at (show n < n + 1 by omega)
              have hpy' : some y = some ⟨-2, 0, 0, 0⟩ := by
                rw [← hpy, List.getElem?_append_right (by rw [List.length_replicate]; exact Nat.le_refl _), List.length_replicate, Nat.sub_self]; rfl
              injection hpy' with hpy'
              subst hpy'
              simp only [] at z0
              have hnl : (n : Int) < (n : Int) + 1 := by omega
              have HBr : Hid (Below w.heap.size w wr) := bup HB20.out Hb.out
              clear z1 z2 z3 hpy
              go_wp2_with fail
              go_ret
              exact ⟨rfl, HBr.out⟩
theorem rowsS_law_ (dict : Int) (A : Option Addr) (m mc : Nat) (l : List Sy) (A2 : Option Addr) (n c2 : Nat) (lb : List UInt8) (w : World) (_hd : -9223372036854775808 ≤ dict ∧ dict ≤ 9223372036854775807) (h : InS w A m l) (hm : m ≤ 1048576) (_hmc : m ≤ mc) (h2 : In w A2 n lb) (hn : n ≤ 1048576) (hl : Laid w) :
    Calls Tryd.prog 6 #[.int .i64 dict, .slice A m mc, .slice A2 n c2] w fun e w' => e = .returned (.bool true) ∧ Below w.heap.size w w' := rowsS_law dict A m mc l A2 n c2 lb w h hm h2 hn hl
end Go.Proofs.YthcgchkcanhmnaaDoor
