
/-
  Walks of the law's lent, kept and anew. Conditions: the symbols lie in memory; the tables as Laid says.
-/
import Derived.Test.YthcgchkcanhmnaaDoorRExp
import Derived.Test.YthcgchkcanhmnaaDoorBook
import Derived.Test.YthcgchkcanhmnaaDoorGreaterLaw
namespace Go.Proofs.YthcgchkcanhmnaaDoor
open Go.RowKit

def exAll (dict : Int) (l : List Sy) : List UInt8 × Nat × Int := if 1 ≤ dict ∧ dict ≤ 4294967295 then exGo dict.toNat 0 St.start [] l else ([], 0, 7)
theorem Expand_any (dict : Int) (A : Option Addr) (m mc : Nat) (l : List Sy) (w : World) (hI : InS w A m l) (hl : Laid w) :
    Calls Tryd.prog 29 #[.int .i64 dict, .slice A m mc] w (ExPost (exAll dict l) w) := by
  unfold exAll
  split
  · rename_i h
    have := Expand_yes dict.toNat A m mc l w hI hl (by omega) (by omega)
    rwa [show ((dict.toNat : Nat) : Int) = dict by omega] at this
  · rename_i h
    exact Expand_no dict A m mc w h
theorem RExpand_any (dict : Int) (A : Option Addr) (m mc : Nat) (l : List Sy) (w : World) (hI : InS w A m l) :
    Calls Tryd.prog 31 #[.int .i64 dict, .slice A m mc] w (ExPost (exAll dict l) w) := by
  unfold exAll
  split
  · rename_i h
    have := RExpand_yes dict.toNat A m mc l w hI (by omega) (by omega)
    rwa [show ((dict.toNat : Nat) : Int) = dict by omega] at this
  · rename_i h
    exact RExpand_no dict A m mc w h
theorem exGo_len (size : Nat) : ∀ (l : List Sy) (i : Nat) (s : St) (all : List UInt8), (exGo size i s all l).1.length ≤ all.length + 273 * l.length := by
  intro l
  induction l with
  | nil => intro i s all; exact Nat.le_refl _
  | cons y l ih =>
    intro i s all
    rw [exGo_cons]
    split
    · have h1 := ih (i + 1) (apS size all s y) (all ++ apB size all s y)
      have h2 := apB_len size all s y
      rw [List.length_append] at h1
      simp only [List.length_cons]
      omega
    · simp
theorem exAll_len (dict : Int) (l : List Sy) : (exAll dict l).1.length ≤ 273 * l.length := by
  unfold exAll
  split
  · have := exGo_len dict.toNat l 0 St.start []
    simpa using this
  · simp
def LentPost (n : Nat) (l : List Sy) (w : World) (e : Ending) (w' : World) : Prop :=
  ∃ F fc, e = .returned (.tuple #[.slice F n fc, .slice F (n + 1) fc]) ∧ w'.ownsRow w.heap.size 38 4 (.slice F (n + 1) fc) (n + 1) (syc (l ++ [⟨-9, 0, 0, 0⟩])) ∧ Below w.heap.size w w'
set_option maxHeartbeats 1000000 in
theorem lent_any (A : Option Addr) (n c : Nat) (l : List Sy) (w : World) (h : InS w A n l) : Calls Tryd.prog 30 #[.slice A n c] w (LentPost n l w) := by
  obtain ⟨i0, hi0, hz0, hz1, hz2⟩ := info_parts infosy
  have H := Lib.hid h
  have hn := h.2.2
  clear h
  go_enter Tryd.func30, Tryd.ntmps30
  go_wp2_with (first | (at_builtin; refine wpList_freshS rfl (.tmp 5) (.tmp 6) rfl w.heap.size rfl rfl A n c l rfl H.out ?_; intro a1 c1 w1 hF; have H1 := Lib.hid hF; clear hF) | (at_builtin; refine wpList_append_rd (w := w1.alloc (.cells #[.int .i64 (-9), .int .u8 0, .int .i64 0, .int .i64 0] 38)) rfl (.tmp 8) (.tmp 10) 24 rfl w.heap.size 38 i0 _ 4 32 Tryd.underlying24 hi0 hz0 hz1 hz2 rfl (by decide) (.slice a1 n c1) n (syc l) rfl (H1.out.1.alloc _) (some ⟨w1.heap.size, 0, none⟩) 1 1 (syc [⟨-9, 0, 0, 0⟩]) rfl (Rd.of_blk (Blk.new _ _ _) rfl rfl) (syc_one _) (by simp only [maxLen]; omega) (by omega) (by have := H1.out.2.size; simp; omega) ?_; intro a2 c2 w2 hown2 hg2 hat2; have hmc2 : n ≤ c2 := (by have := own_le hown2; omega)))
  go_ret2
  exact ⟨a2, c2, rfl, by rw [syc_append]; exact hown2, (H1.out.2.alloc H1.out.2.size _).grown hg2 (by have := H1.out.2.size; simp; omega) (fun g hg => (own_lt H1.out.1 hg).1)⟩
set_option maxHeartbeats 1000000 in
theorem kept_any (F A : Option Addr) (n fc c : Nat) (l : List Sy) (w : World) (hF : InS w F (n + 1) (l ++ [⟨-9, 0, 0, 0⟩])) (h : InS w A n l) :
    Calls Tryd.prog 32 #[.slice F (n + 1) fc, .slice A n c] w fun e w' => e = .returned (.bool true) ∧ Below w.heap.size w w' := by
  have Hlen := Lib.hid h.len
  have hn := h.2.2
  go_enter Tryd.func32, Tryd.ntmps32
  go_wp2_with fail
  go_loopw [9] (fun s9 wr => ∃ (i : Nat), s9 = .int .i64 (i : Int) ∧ i ≤ n ∧ Hid (Below w.heap.size w wr)) (fun s9 _ => n - (intOf s9).toNat)
  case atStart => exact ⟨0, rfl, Nat.zero_le _, Below.refl _ _⟩
  case round =>
    obtain ⟨i, rfl, hi, Hb⟩ := hrel
    by_cases hlt : i < n
    · have hlt' : (i : Int) < (n : Int) := by omega
      obtain ⟨yb, yo, y, rfl, hy, hyb, y0, y1, y2, y3⟩ := (h.below Hb.out).at hlt
      obtain ⟨zb, zo, y', rfl, hy', hzb, z0, z1, z2, z3⟩ := (hF.below Hb.out).at (show i < n + 1 by omega)
      obtain rfl : y = y' := by
        rw [List.getElem?_append_left (by rw [Hlen.out]; exact hlt), hy] at hy'
        exact Option.some.inj hy'
      rw [← Nat.add_assoc] at y1 y2 y3 z1 z2 z3
      obtain ⟨k, z, yl, x⟩ := y
      simp only [] at y0 y1 y2 y3 z0 z1 z2 z3
      clear hy hy'
      go_upto_region 4 with (fail)
      go_quiet (fail)
      have Hb2 : Hid (Below w.heap.size w ((wr.alloc (.cells #[.int .i64 k, .int .u8 (z.toNat : Int), .int .i64 yl, .int .i64 x] 38)).drewN nq)) := below_drewN (bmk Hb.out _) _
      clear y0 y1 y2 y3 z0 z1 z2 z3
      go_wp2_with fail
      go_roundw
      case rel => exact ⟨i + 1, by go_num, by omega, Hb2⟩
      case measure => simp [intOf]; omega
    · obtain rfl : i = n := by omega
      obtain ⟨g, off, y, rfl, hy, hg, y0, y1, y2, y3⟩ := (hF.below Hb.out).at (show i < i + 1 by omega)
      rw [List.getElem?_append_right (by rw [Hlen.out]; exact Nat.le_refl _), Hlen.out, Nat.sub_self] at hy
      cases hy
      rw [← Nat.add_assoc] at y1 y2 y3
      have y1 : wr.cell? ⟨g, off + i * 4 + 1, none⟩ = some (.int .u8 0) := y1
      simp only [] at y0 y2 y3
      go_wp2_with fail
      go_ret
      exact ⟨rfl, Hb.out⟩
theorem syc_set {l : List Sy} {i : Nat} {y : Sy} (h : l[i]? = some y) (z : UInt8) : (syc l).set (i * 4 + 1) (.int .u8 (z.toNat : Int)) = syc (l.set i ⟨y.k, z, y.l, y.x⟩) := by
  induction l generalizing i with
  | nil => simp at h
  | cons q r ih =>
    cases i with
    | zero =>
      simp at h
      subst h
      rfl
    | succ i =>
      simp at h
      rw [show (i + 1) * 4 + 1 = i * 4 + 1 + 1 + 1 + 1 + 1 by omega]
      simp only [syc, List.set_cons_succ, ih h]
theorem byte_sum (z : UInt8) (i : Nat) : ((z.toNat : Int) + (i : Int) + 1) % 256 = ((z + UInt8.ofNat i + 1).toNat : Int) := by
  rw [UInt8.toNat_add, UInt8.toNat_add, UInt8.toNat_ofNat']
  have : (1 : UInt8).toNat = 1 := rfl
  rw [this]
  omega
set_option maxHeartbeats 2000000 in
theorem anew_any (dict : Int) (F : Option Addr) (n fc B : Nat) (l : List Sy) (m : Sy) (w : World) (hown : w.ownsRow B 38 4 (.slice F (n + 1) fc) (n + 1) (syc (l ++ [m]))) (hnl : l.length = n) (hn : n ≤ 1048590) (hB : B ≤ w.heap.size) (hL : ∀ w', Below B w w' → Laid w') :
    Calls Tryd.prog 33 #[.int .i64 dict, .slice F n fc] w fun e w' => e = .returned (.bool true) ∧ Below B w w' := by
  have H : Hid (l.length = n ∧ w.ownsRow B 38 4 (.slice F (n + 1) fc) (n + 1) (syc (l ++ [m])) ∧ Below B w w) := ⟨hnl, hown, Below.refl _ _⟩
  have hnc : n + 1 ≤ fc := own_le hown
  have HL := Lib.hid hL
  clear hnl hown hL
  go_enter Tryd.func33, Tryd.ntmps33
  go_wp2_with fail
  go_loopw [14] (fun s14 wr => ∃ (i : Nat) (l : List Sy), s14 = .int .i64 (i : Int) ∧ i ≤ n ∧ Hid (l.length = n ∧ wr.ownsRow B 38 4 (.slice F (n + 1) fc) (n + 1) (syc (l ++ [m])) ∧ Below B w wr)) (fun s14 _ => n - (intOf s14).toNat)
  case atStart => exact ⟨0, l, rfl, Nat.zero_le _, H⟩
  case round =>
    clear H
    obtain ⟨i, l, rfl, hi, H⟩ := hrel
    by_cases hlt : i < n
    · have hlt' : (i : Int) < (n : Int) := by omega
      obtain ⟨g, cap, hv, _, _⟩ := H.out.2.1.form (by omega)
      injection hv with hA _ hcap
      subst hA
      subst hcap
      obtain ⟨y, hy⟩ : ∃ y, l[i]? = some y := ⟨_, List.getElem?_eq_getElem (by rw [H.out.1]; exact hlt)⟩
      have hy' : (l ++ [m])[i]? = some y := by rw [List.getElem?_append_left (by rw [H.out.1]; exact hlt)]; exact hy
      have z1 := H.out.2.1.cellAt (i * 4 + 1) (by omega)
      rw [(syc_get hy').2.1] at z1
      have f1 := H.out.2.1.frozenAt (i * 4 + 1)
      have hset := own_set H.out.2.1 (i * 4 + 1) (.int .u8 ((y.y + UInt8.ofNat i + 1).toNat : Int))
      rw [syc_set hy', List.set_append_left _ _ (by rw [H.out.1]; exact hlt)] at hset
      have Hset := Lib.hid hset
      have hgB : B ≤ g := (own_lt H.out.2.1 rfl).1
      obtain ⟨k, z, yl, x⟩ := y
      simp only [] at z1
      have hbs := byte_sum z i
      clear hset hy hy'
      obtain ⟨q, hq⟩ : ∃ q, z + UInt8.ofNat i + 1 = q := ⟨_, rfl⟩
      simp only [hq] at hbs Hset
      clear hq
      go_wp2_with fail
      go_roundw
      case rel => exact ⟨i + 1, _, by go_num, by omega, by rw [List.length_set]; exact H.out.1, Hset.out, H.out.2.2.setCell (p := ⟨g, i * 4 + 1, none⟩) hgB _⟩
      case measure => simp [intOf]; omega
    · obtain rfl : i = n := by omega
      have HIS := Lib.hid (by
        have := (InS.of_own H.out.2.1 (by omega)).take (show i ≤ i + 1 by omega)
        rwa [List.take_append_of_le_length (by rw [H.out.1]; exact Nat.le_refl _), List.take_of_length_le (by rw [H.out.1]; exact Nat.le_refl _)] at this : InS wr F i l)
      have hpl := exAll_len dict l
      rw [H.out.1] at hpl
      have hc := Expand_any dict F i fc l wr HIS.out (HL.out wr H.out.2.2)
      have hcr := fun W (hW : InS W F i l) a c (h : InS W a i l) => RExpand_any dict a i c l W h
      obtain ⟨⟨bs, cnt, er⟩, hp⟩ : ∃ p, exAll dict l = p := ⟨_, rfl⟩
      rw [hp] at hc hcr hpl
      have Hcr := Lib.hid hcr
      clear hp hcr
      go_wp2_with fail
      refine hc.mono ?_
      rintro e w1 ⟨C, cc, rfl, hC, hb1⟩
      simp only [] at hC ⊢
      have HC := Lib.hid hC
      have HI1 := Lib.hid (HIS.out.below hb1)
      have HB1 : Hid (Below B w w1) := H.out.2.2.trans (hb1.mono (Nat.le_trans hB H.out.2.2.size))
      clear hC hb1 hc HIS
      go_wp2_with (at_builtin; refine wpList_freshS rfl (.tmp 40) (.tmp 41) rfl w1.heap.size rfl rfl F i fc l rfl HI1.out ?_; intro a2 c2 w2 hF; have H2 := Lib.hid hF; clear hF)
      refine (Hcr.out w2 (HI1.out.below H2.out.2) a2 c2 (InS.of_own H2.out.1 (by omega))).mono ?_
      rintro e w3 ⟨D, dc, rfl, hD, hb3⟩
      simp only [] at hD ⊢
      have hcv := conv_rd (c := dc) (Rd.of_own hD)
      have hcv2 := conv_rd (c := cc) (Rd.of_own (own_below (own_below HC.out H2.out.2) hb3))
      have HB3 : Hid (Below B w w3) := (HB1.out.trans (H2.out.2.mono (Nat.le_trans hB HB1.out.size))).trans (hb3.mono (Nat.le_trans hB (Nat.le_trans HB1.out.size H2.out.2.size)))
      clear hD hb3 HC HI1 HB1 H2 Hcr
      go_wp2_with fail
      go_ret
      exact ⟨rfl, HB3.out⟩
end Go.Proofs.YthcgchkcanhmnaaDoor
