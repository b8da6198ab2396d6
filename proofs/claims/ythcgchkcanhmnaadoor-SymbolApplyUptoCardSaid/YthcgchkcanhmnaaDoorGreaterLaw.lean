
/-
  Walk: the law SymbolGreater returns true; nothing that was there is written. Conditions: the symbols lie in memory and are at most 1048576; the tables as Laid says.
-/
import Derived.Test.YthcgchkcanhmnaaDoorSymR
import Derived.Test.YthcgchkcanhmnaaDoorLitLaw
import Derived.Outline
namespace Go.Proofs.YthcgchkcanhmnaaDoor
open Go.RowKit

theorem rgo_tk (size : Nat) (l : List Sy) : ∀ (s : St) (all : List UInt8) (row : List Sy), Tk size row s all → Tk size (rgo size s all row l).2.2 (rgo size s all row l).1 (rgo size s all row l).2.1 ∧ (rgo size s all row l).2.2.length ≤ row.length + l.length := by
  induction l with
  | nil => exact fun s all row h => ⟨h, Nat.le_refl _⟩
  | cons y l ih =>
    intro s all row h
    unfold rgo
    split
    · rename_i he
      obtain ⟨h1, h2⟩ := ih _ _ _ (Tk.snoc y h he)
      exact ⟨h1, by rw [List.length_append] at h2; simp at h2 ⊢; omega⟩
    · obtain ⟨h1, h2⟩ := ih _ _ _ h
      exact ⟨h1, by simp at h2 ⊢; omega⟩
theorem sumN_le (l : List Sy) : sumN l ≤ 273 * l.length := by
  induction l with
  | nil => exact Nat.le_refl _
  | cons y l ih =>
    have : szN y ≤ 273 := by have := szF_bd y; unfold szN; omega
    unfold sumN at ih ⊢
    simp
    omega
theorem take_snoc' {l : List Sy} {i : Nat} {y : Sy} (h : l[i]? = some y) : l.take (i + 1) = l.take i ++ [y] := by
  rw [List.take_add_one, h]; rfl
/-- a copy of symbols in new memory -/
def FreshS (w w' : World) (a : Option Addr) (n c : Nat) (l : List Sy) : Prop := w'.ownsRow w.heap.size 38 4 (.slice a n c) n (syc l) ∧ Below w.heap.size w w'
theorem wpList_freshS {ops : Array Oper} {rest : List Oper} {o : Oper} {a : Act} {Q : Exit → Act → World → Prop} (hgd : o.guard = none) (s x : Operand)
    (ho : o.op = .call { callee := .builtin .append, args := #[s, x], argTypes := #[24, 24] }) {w : World} (N : Nat) (hN : N = w.heap.size) (hs : a.eval s = .slice (some ⟨N, 0, none⟩) 0 0)
    (A : Option Addr) (m c : Nat) (l : List Sy) (hx : a.eval x = .slice A m c) (hr : InS w A m l)
    (h : ∀ a' c' w', FreshS w w' a' m c' l → wpList Tryd.prog ops Q rest (a.put o.dst (.slice a' m c')) w') : wpList Tryd.prog ops Q (o :: rest) a (w.alloc (.cells #[] 38)) := by
  obtain ⟨i0, hi0, hz0, hz1, hz2⟩ := info_parts infosy
  have hO := (World.ownsRow_made (base := w.heap.size) (e := 38) (size := 4) w #[] 0 (Nat.le_refl _) (by unfold maxLen; omega) rfl)
  have hr' := hr.below ((Below.refl _ _).alloc (Nat.le_refl _) (.cells #[] 38))
  subst hN
  refine wpList_append_rd hgd s x 24 ho w.heap.size 38 i0 _ 4 32 Tryd.underlying24 hi0 hz0 hz1 hz2 rfl (by decide) _ 0 [] hs hO A m c (syc l) hx hr'.1 (syc_one _) (by have := hr.2.2; simp only [maxLen]; omega) (by have := hr.2.2; omega) (by simp) ?_
  intro a1 c1 w1 hown hg hat
  simp only [Nat.zero_add, List.nil_append] at hown hat ⊢
  refine h a1 c1 w1 ⟨hown, ?_⟩
  refine Below.grown ((Below.refl _ w).alloc (Nat.le_refl _) _) hg (by simp) ?_
  intro k hk
  simp [Value.ownBlock] at hk; omega
def KK (k : Int) (n : Nat) : Nat := if k < 0 ∨ (n : Int) < k then n else k.toNat
set_option maxHeartbeats 4000000 in
set_option maxRecDepth 100000 in
theorem greater_law (dict more : Int) (A0 : Option Addr) (m mc : Nat) (l : List Sy) (k : Int) (w : World) (h : InS w A0 m l) (hm : m ≤ 1048576) (hl : Laid w) :
    Calls Tryd.prog 5 #[.int .i64 dict, .int .i64 more, .slice A0 m mc, .int .i64 k] w fun e w' => e = .returned (.bool true) ∧ Below w.heap.size w w' := by
  obtain ⟨i0, hi0, hz0, hz1, hz2⟩ := info_parts infosy
  have hbd := dsz_bd dict
  have hbd2 := dsz_bd more
  have hll := h.len
  go_enter Tryd.func5, Tryd.ntmps5
  go_wp2_with fail
  refine (sz_any dict w).mono ?_
  rintro e w' ⟨rfl, rfl⟩
  obtain ⟨sz, hsz⟩ : ∃ sz, dsz dict = sz := ⟨_, rfl⟩
  rw [hsz] at hbd ⊢
  clear hsz
  have HL := Lib.hid hl
  have hr := Right_yes sz A0 m mc l w h hl (by omega) (by omega)
  have hT := rgo_tk sz l St.start [] [] .nil
  generalize rgo sz St.start [] [] l = p at hr hT
  obtain ⟨s', all, row⟩ := p
  simp only [] at hr hT
  rw [hll] at hT
  have hrl : row.length ≤ 1048576 := by have := hT.2; simp at this; omega
  have HT := Lib.hid hT.1
  clear hT hll h hl
  go_wp2_with fail
  refine hr.mono ?_
  rintro e w1 ⟨R, rc, A, c, rfl, hR1, hA1, hb1⟩
  simp only [] at hR1 hA1 ⊢
  have HR1 := Lib.hid hR1
  have HA1 := Lib.hid hA1
  have HB1 := Lib.hid hb1
  clear hr hR1 hA1 hb1
  go_wp2_with fail
  refine (known_any w1 (HL.out.below HB1.out)).mono ?_
  rintro e w2 ⟨rfl, hb2⟩
  have HR2 := Lib.hid (own_below HR1.out hb2)
  have HA2 := Lib.hid (own_below HA1.out hb2)
  have HB2 : Hid (Below w.heap.size w w2) := bup HB1.out hb2
  clear HR1 HA1 HB1 hb2
  obtain ⟨n, hn⟩ : ∃ n, row.length = n := ⟨_, rfl⟩
  obtain ⟨N, hN⟩ : ∃ N, all.length = N := ⟨_, rfl⟩
  rw [hn] at HR2 hrl ⊢
  rw [hN] at HA2 ⊢
  have Hn := Lib.hid hn
  have HN := Lib.hid hN
  have hNb : N ≤ 273 * 1048576 := by have := HT.out.len; have := sumN_le row; omega
  clear hn hN
  go_wp2_with fail
  refine (sz_any more w2).mono ?_
  rintro e w' ⟨rfl, rfl⟩
  obtain ⟨sm, hsm⟩ : ∃ sm, dsz more = sm := ⟨_, rfl⟩
  rw [hsm] at hbd2 ⊢
  clear hsm
  obtain ⟨M, hM⟩ : ∃ M, sz + sm = M := ⟨_, rfl⟩
  have hMi : (sz : Int) + (sm : Int) = (M : Int) := by omega
  have hc := Expand_yes M R n rc row w2 (InS.of_own HR2.out (by omega)) (HL.out.below HB2.out) (by omega) (by omega)
  rw [(HT.out.more (by omega : sz ≤ M)).all, Hn.out] at hc
  have hbM : M ≤ 2000 := by omega
  clear hM
  go_wp2_with fail
  refine hc.mono ?_
  rintro e w3 ⟨B, bc, rfl, hB3, hb3⟩
  simp only [HN.out] at hB3 ⊢
  have hcv := conv_rd (c := bc) (Rd.of_own hB3)
  have hcv2 := conv_rd (c := c) (Rd.of_own (own_below HA2.out hb3))
  have HR3 := Lib.hid (own_below HR2.out hb3)
  have HA3 := Lib.hid (own_below HA2.out hb3)
  have HB3 : Hid (Below w.heap.size w w3) := bup HB2.out hb3
  clear hc hB3 hb3 HR2 HA2 HB2 hMi
  go_upto_region 8 with (fail)
  clear hcv hcv2
  obtain ⟨kk, hkk⟩ : ∃ kk, KK k n = kk := ⟨_, rfl⟩
  have Hkk := Lib.hid hkk
  have hkn : kk ≤ n := by rw [← hkk]; unfold KK; split <;> omega
  clear hkk
  go_cut [70] (fun s70 wx => s70 = .bool (decide (k < 0 ∨ (n : Int) < k)) ∧ w3 = wx)
  case first =>
    rcases (by omega : k < 0 ∨ (0 ≤ k ∧ (n : Int) < k) ∨ (0 ≤ k ∧ k ≤ (n : Int))) with g | ⟨g1, g2⟩ | ⟨g1, g2⟩
    · have Hd : Hid (decide (k < 0 ∨ (n : Int) < k) = true) := decide_eq_true (.inl g)
      go_wp2_with fail
      go_meet
      exact ⟨by rw [Hd.out], rfl⟩
    · have Hd : Hid (decide (k < 0 ∨ (n : Int) < k) = true) := decide_eq_true (.inr g2)
      go_wp2_with fail
      go_meet
      exact ⟨by rw [Hd.out], rfl⟩
    · have Hd : Hid (decide (k < 0 ∨ (n : Int) < k) = false) := decide_eq_false (by omega)
      go_wp2_with fail
      go_meet
      exact ⟨by rw [Hd.out]; simp; omega, rfl⟩
  case rest =>
    obtain ⟨rfl, rfl⟩ := hcut
    obtain ⟨q, hq⟩ : ∃ q, decide (k < 0 ∨ (n : Int) < k) = q := ⟨_, rfl⟩
    rw [hq]
    have Hq := Lib.hid hq
    clear hq
    go_upto_if 70 with (fail)
    go_cut [3] (fun s3 wx => s3 = .int .i64 (kk : Int) ∧ w3 = wx)
    case first =>
      cases q
      · go_wp2_with fail
        go_meet
        refine ⟨congrArg (Value.int IntKind.i64) ?_, rfl⟩
        have h1 := of_decide_eq_false Hq.out
        have h2 := Hkk.out
        unfold KK at h2
        rw [if_neg h1] at h2
        omega
      · go_wp2_with fail
        go_meet
        refine ⟨congrArg (Value.int IntKind.i64) ?_, rfl⟩
        have h1 := of_decide_eq_true Hq.out
        have h2 := Hkk.out
        unfold KK at h2
        rw [if_pos h1] at h2
        omega
    case rest =>
      obtain ⟨rfl, rfl⟩ := hcut
      have hrc : n ≤ rc := own_le HR3.out
      obtain ⟨sk, ak, hTk, hal, hpre⟩ := HT.out.front kk (by rw [Hn.out]; exact hkn)
      have hsum := hTk.len
      go_wp2_with fail
      have HTk := Lib.hid hTk
      have Hpre := Lib.hid hpre
      have Hal := Lib.hid hal
      have Hsum := Lib.hid hsum
      clear hTk hpre hal hsum
      go_loopw [77, 15] (fun s77 s15 wr => ∃ i : Nat, s77 = .int .i64 (i : Int) ∧ i ≤ kk ∧ s15 = .int .i64 (sumN (row.take i) : Int) ∧ Hid (Below w3.heap.size w3 wr)) (fun s77 _ _ => kk - (intOf s77).toNat)
      case atStart => exact ⟨0, rfl, Nat.zero_le _, rfl, Below.refl _ _⟩
      case round =>
        obtain ⟨i, rfl, hi, rfl, Hb⟩ := hrel
        have HR4 := Lib.hid (own_below HR3.out Hb.out)
        by_cases hlt : i < kk
        · have hlt' : (i : Int) < (kk : Int) := by omega
          have hIS := InS.of_own HR4.out (by omega)
          obtain ⟨g, off, y, rfl, hy, hg, y0, y1, y2, y3⟩ := hIS.at (show i < n by omega)
          have hst := take_snoc' hy
          have hz := szF_bd y
          have hs := sumN_le (row.take i)
          have hs2 : (row.take i).length ≤ i := List.length_take_le _ _
          have Hst : Hid ((sumN (row.take (i + 1)) : Int) = (sumN (row.take i) : Int) + szF y) := by
            show _ = _
            rw [hst, sumN_snoc]
            unfold szN
            omega
          rw [← Nat.add_assoc] at y1 y2 y3
          obtain ⟨u, hu⟩ : ∃ u, sumN (row.take i) = u := ⟨_, rfl⟩
          rw [hu] at Hst hs ⊢
          obtain ⟨ky, z, yl, x⟩ := y
          simp only [] at y0 y1 y2 y3
          have hq := YSize_any ky yl x z (wr.alloc (.cells #[.int .i64 ky, .int .u8 (z.toNat : Int), .int .i64 yl, .int .i64 x] 38)) (((HL.out.below HB3.out).below Hb.out).below ((Below.refl _ _).alloc (Nat.le_refl _) _))
          obtain ⟨f, hf⟩ : ∃ f, szF ⟨ky, z, yl, x⟩ = f := ⟨_, rfl⟩
          rw [hf] at hq hz Hst
          clear hIS hy hst hu hf
          go_wp2_with fail
          refine hq.mono ?_
          rintro e w4 ⟨rfl, hb4⟩
          have Hb4 : Hid (Below w3.heap.size w3 w4) := bup (bup Hb.out ((Below.refl _ _).alloc (Nat.le_refl _) _)) hb4
          clear hb4 hq y0 y1 y2 y3
          go_wp2_with fail
          go_roundw
          case rel => exact ⟨i + 1, by go_num, by omega, by rw [Hst.out], Hb4⟩
          case measure => simp [intOf]; omega
        · obtain rfl : i = kk := by omega
          have hak : sumN (row.take i) = ak.length := by rw [Hsum.out]
          have hc := Expand_yes sz R i rc (row.take i) wr ((InS.of_own HR4.out (by omega)).take (by omega)) ((HL.out.below HB3.out).below Hb.out) (by omega) (by omega)
          have hki : (row.take i).length = i := by rw [List.length_take, Hn.out]; omega
          rw [HTk.out.all, hki] at hc
          obtain ⟨u, hu⟩ : ∃ u, ak.length = u := ⟨_, rfl⟩
          rw [hak, hu]
          have Hu := Lib.hid hu
          have huN : u ≤ N := by have := Hal.out; rw [HN.out] at this; omega
          clear hak hu hki
          go_wp2_with fail
          refine hc.mono ?_
          rintro e w4 ⟨C, cc, rfl, hC4, hb4⟩
          simp only [Hu.out] at hC4 ⊢
          have HA4 := Lib.hid (own_below (own_below HA3.out Hb.out) hb4)
          have HR5 := Lib.hid (own_below HR4.out hb4)
          have HB4 : Hid (Below w.heap.size w w4) := bup (bup HB3.out Hb.out) hb4
          have HC4 := Lib.hid hC4
          clear hc hC4 hb4 HR4 HA3 HB3 Hb HR3
          have hcA : N ≤ c := own_le HA4.out
          have hcc : u ≤ cc := own_le HC4.out
          have huc : u ≤ c := by omega
          have huc' : (u : Int) ≤ (c : Int) := by omega
          have hcv : ∀ a, (convert 23 9 (.slice C u cc)).run Tryd.prog (w4.drewN a) = .ok (.string (strOf ak)) (w4.drewN a) := fun a => conv_rd ((Rd.of_own HC4.out).keep (fun _ _ => rfl))
          have hcv2 : ∀ a, (convert 23 9 (.slice A u c)).run Tryd.prog (w4.drewN a) = .ok (.string (strOf ak)) (w4.drewN a) := fun a => conv_rd (by
            have := ((Rd.of_own HA4.out).take huN).keep (w' := w4.drewN a) (fun _ _ => rfl)
            rw [Nat.mul_one, bys_take, ← Hu.out, Hpre.out, Hu.out] at this
            exact this)
          go_upto_region 17 with (fail)
          go_quiet (fail)
          obtain ⟨w5, hw5⟩ : ∃ w5, w4.drewN nq = w5 := ⟨_, rfl⟩
          have HB5 : Hid (Below w.heap.size w w5) := by rw [← hw5]; exact below_drewN HB4.out _
          have HR6 : Hid (InS w5 R i (row.take i)) := by rw [← hw5]; exact ((InS.of_own HR5.out (by omega)).take (by omega)).below (below_drewN (Below.refl _ _) _)
          have HB6 := Lib.hid HB5.out.size
          rw [hw5]
          clear hw5 hcv hcv2 HB4 HA4 HC4 HR5
          go_wp2_with (first | (at_builtin; refine wpList_freshS rfl (.tmp 123) (.tmp 126) rfl w5.heap.size rfl rfl R i rc (row.take i) rfl HR6.out ?_; intro a6 c6 w6 hF6; have H6 := Lib.hid hF6; clear hF6) | (at_builtin; refine wpList_append_rd (w := w6.alloc (.cells #[.int .i64 2, .int .u8 0, .int .i64 3, .int .i64 ((u : Int) + 1), .int .i64 1, .int .u8 5, .int .i64 0, .int .i64 0] 38)) rfl (.tmp 128) (.tmp 133) 24 rfl w5.heap.size 38 i0 _ 4 32 Tryd.underlying24 hi0 hz0 hz1 hz2 rfl (by decide) (.slice a6 i c6) i (syc (row.take i)) rfl (H6.out.1.alloc _) (some ⟨w6.heap.size, 0, none⟩) 2 2 (syc [⟨2, 0, 3, (u : Int) + 1⟩, ⟨1, 5, 0, 0⟩]) rfl (Rd.of_blk (Blk.new _ _ _) rfl rfl) (syc_one _) (by simp only [maxLen]; omega) (by omega) (by have := H6.out.2.size; simp; omega) ?_; intro a7 c7 w7 hown7 hg7 hat7))
          have HB7 : Hid (Below w.heap.size w w7) := HB5.out.trans (((H6.out.2.alloc H6.out.2.size _).grown hg7 (by have := H6.out.2.size; simp; omega) (fun g hg => (own_lt H6.out.1 hg).1)).mono HB6.out)
          have hIS7 : InS w7 a7 (i + 2) (row.take i ++ [⟨2, 0, 3, (u : Int) + 1⟩, ⟨1, 5, 0, 0⟩]) := InS.of_own (by rw [syc_append]; exact hown7) (by omega)
          have hc := Expand_yes sz a7 (i + 2) c7 _ w7 hIS7 (HL.out.below HB7.out) (by omega) (by omega)
          have hki : (row.take i).length = i := by rw [List.length_take, Hn.out]; omega
          have hfar := HTk.out.far ⟨1, 5, 0, 0⟩
          rw [Hu.out, hki] at hfar
          rw [hfar] at hc
          clear hown7 hg7 hat7 hfar hki hIS7
          refine hc.mono ?_
          rintro e w8 ⟨D, dc, rfl, hD8, hb8⟩
          have HB8 : Hid (Below w.heap.size w w8) := bup HB7.out hb8
          simp only [List.length_nil]
          clear hD8 hb8 hc
          go_wp2_with fail
          go_ret
          exact ⟨rfl, HB8.out⟩
theorem greater_law_ (dict more : Int) (A0 : Option Addr) (m mc : Nat) (l : List Sy) (k : Int) (w : World) (_h0 : -9223372036854775808 ≤ dict ∧ dict ≤ 9223372036854775807) (_h1 : -9223372036854775808 ≤ more ∧ more ≤ 9223372036854775807) (h : InS w A0 m l) (hm : m ≤ 1048576) (_hc : m ≤ mc) (_h2 : -9223372036854775808 ≤ k ∧ k ≤ 9223372036854775807) (hl : Laid w) :
    Calls Tryd.prog 5 #[.int .i64 dict, .int .i64 more, .slice A0 m mc, .int .i64 k] w fun e w' => e = .returned (.bool true) ∧ Below w.heap.size w w' := greater_law dict more A0 m mc l k w h hm hl
end Go.Proofs.YthcgchkcanhmnaaDoor
