
/-
  Walk: the law WindowForks returns true, whatever the bytes, where they are at most 2^20 of each; nothing that was there is written. Conditions: the lists lie in memory.
-/
import Derived.Test.YtcfaocbdhfmhbaaTwo
import Derived.Test.YtcfaocbdhfmhbaaStr
namespace Go.Proofs.Ytcfaocbdhfmhbaa
open Go.RowKit

/-- three windows, at P, Q and R -/
structure Three (w0 w : World) (P Q R s : Nat) (r1 r2 r3 : Option Nat) (a b c : List UInt8) : Prop where
  one : Win w P P r1 s a
  two : Win w Q Q r2 s b
  three : Win w R R r3 s c
  s12 : Sep r1 r2
  s13 : Sep r1 r3
  s23 : Sep r2 r3
  below : Below w0.heap.size w0 w
  ne : P < Q ∧ Q < R
  base : w0.heap.size ≤ P
section
variable {w0 w w' : World} {P Q R s : Nat} {r1 r2 r3 r' : Option Nat} {a b c a' : List UInt8}
theorem Three.later (h : Three w0 w P Q R s r1 r2 r3 a b c) (hb : Below w.heap.size w w') : Three w0 w' P Q R s r1 r2 r3 a b c :=
  ⟨h.one.below hb, h.two.below hb, h.three.below hb, h.s12, h.s13, h.s23, h.below.trans (hb.mono h.below.size), h.ne, h.base⟩
theorem Three.put1 (h : Three w0 w P Q R s r1 r2 r3 a b c) (hf : Fr (fun k => k = P ∨ some k = r1) w w') (hw : Win w' P P r' s a') (ha : ∀ g, r' = some g → r1 = some g ∨ w.heap.size ≤ g) : Three w0 w' P Q R s r' r2 r3 a' b c :=
  ⟨hw, h.two.other h.one hf (by have := h.ne; omega) h.s12, h.three.other h.one hf (by have := h.ne; omega) h.s13, h.s12.new ha h.two, h.s13.new ha h.three, h.s23, h.below.trans (fr_win_below hf h.one h.base), h.ne, h.base⟩
theorem Three.put2 (h : Three w0 w P Q R s r1 r2 r3 a b c) (hf : Fr (fun k => k = Q ∨ some k = r2) w w') (hw : Win w' Q Q r' s a') (ha : ∀ g, r' = some g → r2 = some g ∨ w.heap.size ≤ g) : Three w0 w' P Q R s r1 r' r3 a a' c :=
  ⟨h.one.other h.two hf (by have := h.ne; omega) h.s12.symm, hw, h.three.other h.two hf (by have := h.ne; omega) h.s23, (h.s12.symm.new ha h.one).symm, h.s13, h.s23.new ha h.three, h.below.trans (fr_win_below hf h.two (by have := h.base; have := h.ne; omega)), h.ne, h.base⟩
theorem Three.put3 (h : Three w0 w P Q R s r1 r2 r3 a b c) (hf : Fr (fun k => k = R ∨ some k = r3) w w') (hw : Win w' R R r' s a') (ha : ∀ g, r' = some g → r3 = some g ∨ w.heap.size ≤ g) : Three w0 w' P Q R s r1 r2 r' a b a' :=
  ⟨h.one.other h.three hf (by have := h.ne; omega) h.s13.symm, h.two.other h.three hf (by have := h.ne; omega) h.s23.symm, hw, h.s12, (h.s13.symm.new ha h.one).symm, (h.s23.symm.new ha h.two).symm, h.below.trans (fr_win_below hf h.three (by have := h.base; have := h.ne; omega)), h.ne, h.base⟩
end

set_option pp.deepTerms true
set_option maxHeartbeats 4000000 in
set_option maxRecDepth 100000 in
theorem forks_law (size : Int) (A : Option Addr) (n ca : Nat) (lb : List UInt8) (B : Option Addr) (m cb : Nat) (lc : List UInt8) (D : Option Addr) (k cd : Nat) (ld : List UInt8) (w : World) (hA : In w A n lb) (hB : In w B m lc) (hD : In w D k ld) (hn : n ≤ 1048576) (hm : m ≤ 1048576) (hk : k ≤ 1048576) :
    Calls Try.prog 4 #[.int .i64 size, .slice A n ca, .slice B m cb, .slice D k cd] w fun e w' => e = .returned (.bool true) ∧ Below w.heap.size w w' := by
  have hlb := Lib.hid hA.len
  have hlc := Lib.hid hB.len
  have hld := Lib.hid hD.len
  obtain ⟨s, hs⟩ : ∃ s, msize size = s := ⟨_, rfl⟩
  have hbd := msize_bd size
  rw [hs] at hbd
  have Hs := Lib.hid hs
  clear hs
  go_enter Try.func4, Try.ntmps4
  go_wp2_with fail
  refine (made_any size A n ca lb w hA).mono ?_
  rintro e w1 ⟨r1, rfl, hW1, hb1⟩
  rw [Hs.out] at hW1
  have HW1 := Lib.hid hW1
  have Hb1 := Lib.hid hb1
  clear hW1 hb1
  go_wp2_with fail
  refine (made_any size none 0 0 [] w1 (In.nil w1)).mono ?_
  rintro e w2 ⟨r2, rfl, hW2, hb2⟩
  rw [Hs.out] at hW2
  have HW12 : Hid (Win w2 w.heap.size w.heap.size r1 s lb) := HW1.out.below hb2
  have HW2 := Lib.hid hW2
  have Hb2 : Hid (Below w.heap.size w w2) := Hb1.out.trans (hb2.mono Hb1.out.size)
  have hPQ : w.heap.size < w1.heap.size := HW1.out.lt.1
  have Hs12 : Hid (Sep r1 r2) := fun g hg e => by have := (HW1.out.lt.2 g hg).2; have := (hW2.lt.2 g e).1; omega
  clear hW2 hb2 HW1 Hb1
  go_wp2_with fail
  refine (Fork_any w.heap.size w.heap.size s r1 lb w2 HW12.out).mono ?_
  rintro e w3 ⟨r3, rfl, hW3, hb3⟩
  have HT3 : Hid (Three w w3 w.heap.size w1.heap.size w2.heap.size s r1 r2 r3 lb [] lb) :=
    ⟨HW12.out.below hb3, HW2.out.below hb3, hW3, Hs12.out, (fun g hg e => by have := (HW12.out.lt.2 g hg).2; have := (hW3.lt.2 g e).1; omega), (fun g hg e => by have := (HW2.out.lt.2 g hg).2; have := (hW3.lt.2 g e).1; omega), Hb2.out.trans (hb3.mono Hb2.out.size), ⟨hPQ, HW2.out.lt.1⟩, Nat.le_refl _⟩
  clear hW3 hb3 HW12 HW2 Hb2 Hs12
  obtain ⟨P, hP⟩ : ∃ P, w.heap.size = P := ⟨_, rfl⟩
  obtain ⟨Q, hQ⟩ : ∃ Q, w1.heap.size = Q := ⟨_, rfl⟩
  obtain ⟨R, hR⟩ : ∃ R, w2.heap.size = R := ⟨_, rfl⟩
  rw [hP, hQ, hR] at HT3
  rw [hP, hQ, hR]
  have HP := Lib.hid hP
  clear hP hQ hR hPQ
  go_wp2_with fail
  refine (Pos_any R R s r3 lb w3 HT3.out.three).mono ?_
  rintro e w4 ⟨rfl, rfl⟩
  rw [hlb.out]
  go_wp2_with fail
  refine (Size_any R R s r3 lb w3 HT3.out.three).mono ?_
  rintro e w4 ⟨rfl, rfl⟩
  go_wp2_with fail
  refine (Size_any P P s r1 lb w3 HT3.out.one).mono ?_
  rintro e w4 ⟨rfl, rfl⟩
  have HB3 := Lib.hid (hB.below HT3.out.below)
  go_wp2_with (at_builtin; refine wpList_fresh rfl (.tmp 53) (.tmp 54) rfl _ rfl rfl B m _ lc rfl HB3.out ?_; intro a1 c1 w4 hF; have HF := Lib.hid hF; clear hF)
  refine (Put_fresh HT3.out.one HF.out (by have := hlb.out; omega)).mono ?_
  rintro e w5 ⟨rfl, r5, hW5, hFr5, hA5⟩
  have HT5 := Lib.hid (HT3.out.put1 hFr5 hW5 hA5)
  clear hW5 hFr5 hA5 HT3 HB3 HF
  go_wp2_with fail
  refine (Clear_any R R s r3 lb w5 HT5.out.three).mono ?_
  rintro e w6 ⟨rfl, hW6, hFr6⟩
  have HT6 := Lib.hid (HT5.out.put3 (hFr6.mono fun _ _ h => .inl h) hW6 (fun g hg => by cases hg))
  have hf0 : full s ([] : List UInt8) = 0 := by unfold full; simp
  have Hf0 := Lib.hid hf0
  clear hW6 hFr6 HT5 hf0
  go_wp2_with fail
  refine (Last_no R R s none [] 1 w6 HT6.out.three (by rw [Hf0.out]; omega)).mono ?_
  rintro e w7 ⟨rfl, rfl⟩
  go_wp2_with fail
  refine (Pos_any R R s none [] w6 HT6.out.three).mono ?_
  rintro e w7 ⟨rfl, rfl⟩
  rw [List.length_nil]
  go_wp2_with fail
  refine (Full_any R R s none [] w6 HT6.out.three).mono ?_
  rintro e w7 ⟨rfl, rfl⟩
  rw [Hf0.out]
  go_wp2_with fail
  refine (Size_any R R s none [] w6 HT6.out.three).mono ?_
  rintro e w7 ⟨rfl, rfl⟩
  go_wp2_with fail
  refine (Size_any P P s r5 (lb ++ lc) w6 HT6.out.one).mono ?_
  rintro e w7 ⟨rfl, rfl⟩
  go_wp2_with fail
  refine (Pos_any P P s r5 (lb ++ lc) w6 HT6.out.one).mono ?_
  rintro e w7 ⟨rfl, rfl⟩
  have hL : (lb ++ lc).length = n + m := by rw [List.length_append, hlb.out, hlc.out]
  have HL := Lib.hid hL
  rw [hL, show ((n + m : Nat) : Int) = (n : Int) + (m : Int) from by omega]
  clear hL
  have HD6 := Lib.hid (hD.below HT6.out.below)
  go_wp2_with (at_builtin; refine wpList_fresh rfl (.tmp 94) (.tmp 95) rfl _ rfl rfl D k _ ld rfl HD6.out ?_; intro a1 c1 w7 hF; have HF := Lib.hid hF; clear hF)
  refine (Put_fresh HT6.out.three HF.out (by rw [List.length_nil]; omega)).mono ?_
  rintro e w8 ⟨rfl, r8, hW8, hFr8, hA8⟩
  rw [List.nil_append] at hW8
  have HT8 := Lib.hid (HT6.out.put3 hFr8 hW8 hA8)
  clear hW8 hFr8 hA8 HT6 HD6 HF
  have HD8 := Lib.hid (hD.below HT8.out.below)
  go_wp2_with (at_builtin; refine wpList_fresh rfl (.tmp 99) (.tmp 100) rfl _ rfl rfl D k _ ld rfl HD8.out ?_; intro a1 c1 w9 hF; have HF := Lib.hid hF; clear hF)
  refine (Put_fresh HT8.out.two HF.out (by rw [List.length_nil]; omega)).mono ?_
  rintro e w10 ⟨rfl, r10, hW10, hFr10, hA10⟩
  rw [List.nil_append] at hW10
  have HT10 := Lib.hid (HT8.out.put2 hFr10 hW10 hA10)
  clear hW10 hFr10 hA10 HT8 HD8 HF
  obtain ⟨K, hK⟩ : ∃ K, K = min k s := ⟨_, rfl⟩
  have hKk : K ≤ k := by omega
  have hKs : K ≤ s := by omega
  have hfd : full s ld = K := by unfold full; rw [hld.out]; exact hK.symm
  have Hfd := Lib.hid hfd
  have HK := Lib.hid hK
  clear hfd hK
  have HD10 := Lib.hid (hD.below HT10.out.below)
  obtain ⟨i0, hi0, hz0, hz1, hz2⟩ := info_parts infou8
  go_wp2_with fail
  go_loop [14] (fun s14 => ∃ j : Nat, s14 = .int .i64 (j : Int) ∧ 1 ≤ j ∧ j ≤ K + 1) (fun s14 => K + 1 - (intOf s14).toNat)
  case atStart => exact ⟨1, rfl, Nat.le_refl _, by omega⟩
  case round =>
    obtain ⟨j, rfl, hj1, hj2⟩ := hrel
    by_cases hjK : j ≤ K
    · have hjk : (j : Int) ≤ (k : Int) := by omega
      have hjs : (j : Int) ≤ (s : Int) := by omega
      obtain ⟨bd, od, rfl, hcd⟩ := HD10.out.1.cells_at (by omega)
      obtain ⟨x, hx⟩ : ∃ x, ld[ld.length - j]? = some x := ⟨_, List.getElem?_eq_getElem (by have := hld.out; omega)⟩
      obtain ⟨p, hp⟩ : ∃ p, p = k - j := ⟨_, rfl⟩
      have hp1 : (k : Int) - (j : Int) = (p : Int) := by omega
      have hp2 : (p : Int) < (k : Int) := by omega
      have q0 := hcd p x (by rw [hp, ← hld.out]; exact hx)
      have Hx := Lib.hid hx
      clear hp hcd hx
      go_wp2_with fail
      refine (Size_any Q Q s r10 ld w10 HT10.out.two).mono ?_
      rintro e w11 ⟨rfl, rfl⟩
      go_wp2_with fail
      refine (Last_yes R R s r8 ld j x w10 HT10.out.three hj1 (by rw [Hfd.out]; exact hjK) Hx.out).mono ?_
      rintro e w11 ⟨rfl, rfl⟩
      go_wp2_with fail
      refine (Last_yes Q Q s r10 ld j x w10 HT10.out.two hj1 (by rw [Hfd.out]; exact hjK) Hx.out).mono ?_
      rintro e w11 ⟨rfl, rfl⟩
      go_wp2_with fail
      go_round
      case rel => exact ⟨j + 1, by go_num, by omega, by omega⟩
      case measure => simp [intOf]; omega
    · obtain rfl : j = K + 1 := by omega
      have hK2 := HK.out
      rcases (by omega : k ≤ s ∧ K = k ∨ (s < k ∧ K = s)) with ⟨hks, hKe⟩ | ⟨hks, hKe⟩
      · have hjk : ¬ ((K : Int) + 1 ≤ (k : Int)) := by omega
        clear hK2 hKe
        have HA11 := Lib.hid (hA.below HT10.out.below)
        go_wp2_with (first | (at_builtin; refine wpList_fresh rfl (.tmp 149) (.tmp 150) rfl _ rfl rfl A n _ lb rfl HA11.out ?_; intro a4 c4 w11 hF; have HF := Lib.hid hF; have HB11 := Lib.hid ((hB.below HT10.out.below).below hF.2); have hsz11 : w10.heap.size ≤ w11.heap.size := hF.2.size; clear hF) | (at_builtin; refine wpList_append_rd rfl (.tmp 151) (.tmp 152) 22 rfl w10.heap.size 5 i0 _ 1 1 Try.underlying22 hi0 hz0 hz1 hz2 rfl (by decide) (.slice a4 n c4) n (bys lb) rfl HF.out.1 B m _ (bys lc) rfl HB11.out.1 (bys_one _) (by simp only [maxLen]; omega) (by omega) hsz11 ?_; intro a6 c6 w12 hown12 hg12 hat12))
        have HT12 : Hid (Three w w12 P Q R s r5 r10 r8 (lb ++ lc) ld ld) := HT10.out.later (Below.grown HF.out.2 hg12 hsz11 (fun g hg => (own_lt HF.out.1 hg).1))
        rw [← bys_append] at hown12
        have HR12 : Hid (Rd w12 1 a6 (n + m) (bys (lb ++ lc))) := Rd.of_own hown12
        clear hown12 hg12 hat12
        obtain ⟨q, hq⟩ : ∃ q, full s (lb ++ lc) = q := ⟨_, rfl⟩
        have hqN : q ≤ n + m ∧ q ≤ s ∧ (q = n + m ∧ n + m ≤ s ∨ q = s ∧ s < n + m) := by
          have h1 := HL.out
          unfold full at hq
          rw [h1] at hq
          omega
        have Hq := Lib.hid hq
        have HqN := Lib.hid hqN.2.2
        have hq1 := hqN.1
        have hq2 := hqN.2.1
        clear hq hqN
        go_wp2_with fail
        go_loop [20] (fun s20 => ∃ j : Nat, s20 = .int .i64 (j : Int) ∧ 1 ≤ j ∧ j ≤ q + 1) (fun s20 => q + 1 - (intOf s20).toNat)
        case atStart => exact ⟨1, rfl, Nat.le_refl _, by omega⟩
        case round =>
          obtain ⟨j, rfl, hj1, hj2⟩ := hrel
          by_cases hjq : j ≤ q
          · have hjq' : (j : Int) ≤ (q : Int) := by omega
            obtain ⟨bA, oA, rfl, hcA⟩ := HR12.out.cells_at (by omega)
            obtain ⟨x, hx⟩ : ∃ x, (lb ++ lc)[(lb ++ lc).length - j]? = some x := ⟨_, List.getElem?_eq_getElem (by have := HL.out; omega)⟩
            obtain ⟨p, hp⟩ : ∃ p, p = n + m - j := ⟨_, rfl⟩
            have hp1 : (n : Int) + (m : Int) - (j : Int) = (p : Int) := by omega
            have hp2 : (p : Int) < (n : Int) + (m : Int) := by omega
            have hp3 : p < n + m := by omega
            have q0 := hcA p x (by rw [hp, ← HL.out]; exact hx)
            have Hx := Lib.hid hx
            clear hp hcA hx
            go_wp2_with fail
            refine (Full_any P P s r5 (lb ++ lc) _ HT12.out.one).mono ?_
            rintro e w13 ⟨rfl, rfl⟩
            rw [Hq.out]
            go_wp2_with fail
            refine (Last_yes P P s r5 (lb ++ lc) j x _ HT12.out.one hj1 (by rw [Hq.out]; exact hjq) Hx.out).mono ?_
            rintro e w13 ⟨rfl, rfl⟩
            go_wp2_with fail
            go_round
            case rel => exact ⟨j + 1, by go_num, by omega, by omega⟩
            case measure => simp [intOf]; omega
          · obtain rfl : j = q + 1 := by omega
            have hjq' : ¬ ((q : Int) + 1 ≤ (q : Int)) := by omega
            go_wp2_with fail
            refine (Full_any P P s r5 (lb ++ lc) _ HT12.out.one).mono ?_
            rintro e w13 ⟨rfl, rfl⟩
            rw [Hq.out]
            go_wp2_with fail
            refine (Full_any P P s r5 (lb ++ lc) _ HT12.out.one).mono ?_
            rintro e w13 ⟨rfl, rfl⟩
            rw [Hq.out]
            go_wp2_with fail
            refine (Size_any P P s r5 (lb ++ lc) _ HT12.out.one).mono ?_
            rintro e w13 ⟨rfl, rfl⟩
            rcases HqN.out with ⟨h1, h2⟩ | ⟨h1, h2⟩
            · have h3 : ¬ s < n + m := by omega
              have h4 : (q : Int) = (n : Int) + (m : Int) := by omega
              rw [h4]
              clear h1 h2 h4
              go_wp2_with fail
              refine (Pos_any R R s r8 ld _ HT12.out.three).mono ?_
              rintro e w13 ⟨rfl, rfl⟩
              rw [hld.out]
              go_wp2_with fail
              go_ret
              exact ⟨rfl, HT12.out.below⟩
            · subst h1
              go_wp2_with fail
              refine (Pos_any R R q r8 ld _ HT12.out.three).mono ?_
              rintro e w13 ⟨rfl, rfl⟩
              rw [hld.out]
              go_wp2_with fail
              go_ret
              exact ⟨rfl, HT12.out.below⟩
      · have hjk : ((K : Int) + 1 ≤ (k : Int)) := by omega
        have hjs : ¬ ((K : Int) + 1 ≤ (s : Int)) := by omega
        clear hK2 hKe
        go_wp2_with fail
        refine (Size_any Q Q s r10 ld w10 HT10.out.two).mono ?_
        rintro e w11 ⟨rfl, rfl⟩
        have HA11 := Lib.hid (hA.below HT10.out.below)
        go_wp2_with (first | (at_builtin; refine wpList_fresh rfl (.tmp 149) (.tmp 150) rfl _ rfl rfl A n _ lb rfl HA11.out ?_; intro a4 c4 w11 hF; have HF := Lib.hid hF; have HB11 := Lib.hid ((hB.below HT10.out.below).below hF.2); have hsz11 : w10.heap.size ≤ w11.heap.size := hF.2.size; clear hF) | (at_builtin; refine wpList_append_rd rfl (.tmp 151) (.tmp 152) 22 rfl w10.heap.size 5 i0 _ 1 1 Try.underlying22 hi0 hz0 hz1 hz2 rfl (by decide) (.slice a4 n c4) n (bys lb) rfl HF.out.1 B m _ (bys lc) rfl HB11.out.1 (bys_one _) (by simp only [maxLen]; omega) (by omega) hsz11 ?_; intro a6 c6 w12 hown12 hg12 hat12))
        have HT12 : Hid (Three w w12 P Q R s r5 r10 r8 (lb ++ lc) ld ld) := HT10.out.later (Below.grown HF.out.2 hg12 hsz11 (fun g hg => (own_lt HF.out.1 hg).1))
        rw [← bys_append] at hown12
        have HR12 : Hid (Rd w12 1 a6 (n + m) (bys (lb ++ lc))) := Rd.of_own hown12
        clear hown12 hg12 hat12
        obtain ⟨q, hq⟩ : ∃ q, full s (lb ++ lc) = q := ⟨_, rfl⟩
        have hqN : q ≤ n + m ∧ q ≤ s ∧ (q = n + m ∧ n + m ≤ s ∨ q = s ∧ s < n + m) := by
          have h1 := HL.out
          unfold full at hq
          rw [h1] at hq
          omega
        have Hq := Lib.hid hq
        have HqN := Lib.hid hqN.2.2
        have hq1 := hqN.1
        have hq2 := hqN.2.1
        clear hq hqN
        go_wp2_with fail
        go_loop [20] (fun s20 => ∃ j : Nat, s20 = .int .i64 (j : Int) ∧ 1 ≤ j ∧ j ≤ q + 1) (fun s20 => q + 1 - (intOf s20).toNat)
        case atStart => exact ⟨1, rfl, Nat.le_refl _, by omega⟩
        case round =>
          obtain ⟨j, rfl, hj1, hj2⟩ := hrel
          by_cases hjq : j ≤ q
          · have hjq' : (j : Int) ≤ (q : Int) := by omega
            obtain ⟨bA, oA, rfl, hcA⟩ := HR12.out.cells_at (by omega)
            obtain ⟨x, hx⟩ : ∃ x, (lb ++ lc)[(lb ++ lc).length - j]? = some x := ⟨_, List.getElem?_eq_getElem (by have := HL.out; omega)⟩
            obtain ⟨p, hp⟩ : ∃ p, p = n + m - j := ⟨_, rfl⟩
            have hp1 : (n : Int) + (m : Int) - (j : Int) = (p : Int) := by omega
            have hp2 : (p : Int) < (n : Int) + (m : Int) := by omega
            have hp3 : p < n + m := by omega
            have q0 := hcA p x (by rw [hp, ← HL.out]; exact hx)
            have Hx := Lib.hid hx
            clear hp hcA hx
            go_wp2_with fail
            refine (Full_any P P s r5 (lb ++ lc) _ HT12.out.one).mono ?_
            rintro e w13 ⟨rfl, rfl⟩
            rw [Hq.out]
            go_wp2_with fail
            refine (Last_yes P P s r5 (lb ++ lc) j x _ HT12.out.one hj1 (by rw [Hq.out]; exact hjq) Hx.out).mono ?_
            rintro e w13 ⟨rfl, rfl⟩
            go_wp2_with fail
            go_round
            case rel => exact ⟨j + 1, by go_num, by omega, by omega⟩
            case measure => simp [intOf]; omega
          · obtain rfl : j = q + 1 := by omega
            have hjq' : ¬ ((q : Int) + 1 ≤ (q : Int)) := by omega
            go_wp2_with fail
            refine (Full_any P P s r5 (lb ++ lc) _ HT12.out.one).mono ?_
            rintro e w13 ⟨rfl, rfl⟩
            rw [Hq.out]
            go_wp2_with fail
            refine (Full_any P P s r5 (lb ++ lc) _ HT12.out.one).mono ?_
            rintro e w13 ⟨rfl, rfl⟩
            rw [Hq.out]
            go_wp2_with fail
            refine (Size_any P P s r5 (lb ++ lc) _ HT12.out.one).mono ?_
            rintro e w13 ⟨rfl, rfl⟩
            rcases HqN.out with ⟨h1, h2⟩ | ⟨h1, h2⟩
            · have h3 : ¬ s < n + m := by omega
              have h4 : (q : Int) = (n : Int) + (m : Int) := by omega
              rw [h4]
              clear h1 h2 h4
              go_wp2_with fail
              refine (Pos_any R R s r8 ld _ HT12.out.three).mono ?_
              rintro e w13 ⟨rfl, rfl⟩
              rw [hld.out]
              go_wp2_with fail
              go_ret
              exact ⟨rfl, HT12.out.below⟩
            · subst h1
              go_wp2_with fail
              refine (Pos_any R R q r8 ld _ HT12.out.three).mono ?_
              rintro e w13 ⟨rfl, rfl⟩
              rw [hld.out]
              go_wp2_with fail
              go_ret
              exact ⟨rfl, HT12.out.below⟩

theorem forks_law_ (size : Int) (A : Option Addr) (n ca : Nat) (lb : List UInt8) (B : Option Addr) (m cb : Nat) (lc : List UInt8) (D : Option Addr) (k cd : Nat) (ld : List UInt8) (w : World) (_h0 : -9223372036854775808 ≤ size ∧ size ≤ 9223372036854775807) (hA : n ≤ 1048576 ∧ In w A n lb) (hB : m ≤ 1048576 ∧ In w B m lc) (hD : k ≤ 1048576 ∧ In w D k ld) :
    Calls Try.prog 4 #[.int .i64 size, .slice A n ca, .slice B m cb, .slice D k cd] w fun e w' => e = .returned (.bool true) ∧ Below w.heap.size w w' :=
  forks_law size A n ca lb B m cb lc D k cd ld w hA.2 hB.2 hD.2 hA.1 hB.1 hD.1
end Go.Proofs.Ytcfaocbdhfmhbaa
