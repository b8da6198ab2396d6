
/-
  Walk of the law's told: a window and the document's tell the same. Conditions: both windows hold the same bytes.
-/
import Derived.Test.YtcfaocbdhfmhbaaSep
import Derived.Test.YtcfaocbdhfmhbaaRMore
namespace Go.Proofs.Ytcfaocbdhfmhbaa
open Go.RowKit

set_option maxHeartbeats 4000000 in
set_option maxRecDepth 100000 in
theorem told_any (B b c size : Nat) (r1 r2 : Option Nat) (all : List UInt8) (w : World) (h1 : Win w B b r1 size all) (h2 : WinR w B c r2 size all) (hlen : all.length < 140737488355000) :
    Calls Try.prog 21 #[.agg #[.pointer (some ⟨b, 0, none⟩), .pointer (some ⟨c, 0, none⟩)]] w fun e w' => e = .returned (.bool true) ∧ Below w.heap.size w w' := by
  have H1 := Lib.hid h1
  have H2 := Lib.hid h2
  clear h1 h2
  obtain ⟨wl, hwl⟩ : ∃ wl, w.alloc (.cells #[.pointer (some ⟨b, 0, none⟩), .pointer (some ⟨c, 0, none⟩)] 48) = wl := ⟨_, rfl⟩
  have Hb0 : Hid (Below w.heap.size w wl) := by rw [← hwl]; exact (Below.refl _ _).alloc (Nat.le_refl _) _
  have HP : Hid (Blk wl w.heap.size 48 #[.pointer (some ⟨b, 0, none⟩), .pointer (some ⟨c, 0, none⟩)]) := by rw [← hwl]; exact Blk.new _ _ _
  have HPos : Hid (∀ W, Below wl.heap.size wl W → Calls Try.prog 11 #[.pointer (some ⟨b, 0, none⟩)] W fun e w' => e = .returned (.int .i64 (all.length : Int)) ∧ W = w') := fun W hW => Pos_any B b size r1 all W (H1.out.below (bup Hb0.out hW))
  have HSize : Hid (∀ W, Below wl.heap.size wl W → Calls Try.prog 12 #[.pointer (some ⟨b, 0, none⟩)] W fun e w' => e = .returned (.int .i64 (size : Int)) ∧ W = w') := fun W hW => Size_any B b size r1 all W (H1.out.below (bup Hb0.out hW))
  obtain ⟨F, hF⟩ : ∃ F, full size all = F := ⟨_, rfl⟩
  have HFull : Hid (∀ W, Below wl.heap.size wl W → Calls Try.prog 16 #[.pointer (some ⟨b, 0, none⟩)] W fun e w' => e = .returned (.int .i64 (F : Int)) ∧ W = w') := fun W hW => by rw [← hF]; exact Full_any B b size r1 all W (H1.out.below (bup Hb0.out hW))
  have HRFull : Hid (∀ W, Below wl.heap.size wl W → Calls Try.prog 29 #[.pointer (some ⟨c, 0, none⟩)] W fun e w' => e = .returned (.int .i64 (F : Int)) ∧ ∃ q, w' = W.drewN q) := fun W hW => by rw [← hF]; exact RFull_any B c size r2 all W (H2.out.below (bup Hb0.out hW))
  have hFl : F ≤ all.length := by rw [← hF]; exact full_len
  have hFs : F ≤ size := by rw [← hF]; exact full_le
  have hsz : size ≤ 4294967295 := by obtain ⟨_, _, _, _, _, _, h, _⟩ := H2.out; exact h
  have HLast : Hid (∀ W d ch, Below wl.heap.size wl W → 1 ≤ d → d ≤ F → all[all.length - d]? = some ch → Calls Try.prog 15 #[.pointer (some ⟨b, 0, none⟩), .int .i64 (d : Int)] W fun e w' => e = .returned (.tuple #[.int .u8 (ch.toNat : Int), .int .i64 0]) ∧ W = w') := fun W d c hW h1 h2 hc => Last_yes B b size r1 all d c W (H1.out.below (bup Hb0.out hW)) h1 (by rw [hF]; exact h2) hc
  have HRLast : Hid (∀ W d ch, Below wl.heap.size wl W → 1 ≤ d → d ≤ F → all[all.length - d]? = some ch → Calls Try.prog 28 #[.pointer (some ⟨c, 0, none⟩), .int .i64 (d : Int)] W fun e w' => e = .returned (.tuple #[.int .u8 (ch.toNat : Int), .int .i64 0]) ∧ ∃ q, w' = W.drewN q) := fun W d c hW h1 h2 hc => RLast_yes B _ size r2 all d c W (H2.out.below (bup Hb0.out hW)) h1 (by rw [hF]; exact h2) (by omega) hc
  have HLastN : Hid (∀ (W : World) (d : Nat), Below wl.heap.size wl W → ¬ (1 ≤ d ∧ d ≤ F) → Calls Try.prog 15 #[.pointer (some ⟨b, 0, none⟩), .int .i64 (d : Int)] W fun e w' => e = .returned (.tuple #[.int .u8 0, .int .i64 7]) ∧ W = w') := fun W d hW h1 => Last_no B b size r1 all d W (H1.out.below (bup Hb0.out hW)) (by rw [hF]; omega)
  have HRLastN : Hid (∀ (W : World) (d : Nat), Below wl.heap.size wl W → ¬ (1 ≤ d ∧ d ≤ F) → Calls Try.prog 28 #[.pointer (some ⟨c, 0, none⟩), .int .i64 (d : Int)] W fun e w' => e = .returned (.tuple #[.int .u8 0, .int .i64 7]) ∧ ∃ q, w' = W.drewN q) := fun W d hW h1 => RLast_no B c size r2 all d W (H2.out.below (bup Hb0.out hW)) (by rw [hF]; omega)
  obtain ⟨VA, vc, hcb, _⟩ := H2.out.below Hb0.out
  obtain ⟨c0, c1⟩ := hcb.two
  obtain ⟨p0, p1⟩ := HP.out.two
  have HPn : Hid (∀ W : World, Below wl.heap.size wl W → W.cell? ⟨w.heap.size, 0, none⟩ = some (.pointer (some ⟨b, 0, none⟩)) ∧ W.cell? ⟨w.heap.size, 1, none⟩ = some (.pointer (some ⟨c, 0, none⟩))) := fun W hW => (HP.out.below hW).two
  obtain ⟨al, hal2⟩ : ∃ al, all.length = al := ⟨_, rfl⟩
  have Hal2 := Lib.hid hal2
  rw [hal2] at c1 hFl hlen
  have HPos2 : Hid (∀ W, Below wl.heap.size wl W → Calls Try.prog 11 #[.pointer (some ⟨b, 0, none⟩)] W fun e w' => e = .returned (.int .i64 (al : Int)) ∧ W = w') := by rw [← hal2]; exact HPos
  clear hF hal2 hcb HPos
  go_enter Try.func21, Try.ntmps21
  go_upto_region 1 with (fail)
  go_quiet (first | (go_at_call 12; exact Calls.quiet_of_same ((HSize.out _ (below_drewN (Below.refl _ _) _)).mono fun _ _ h => ⟨h.1, h.2.symm⟩)) | (go_at_call 11; exact Calls.quiet_of_same ((HPos2.out _ (below_drewN (Below.refl _ _) _)).mono fun _ _ h => ⟨h.1, h.2.symm⟩)) | (go_at_call 16; exact Calls.quiet_of_same ((HFull.out _ (below_drewN (Below.refl _ _) _)).mono fun _ _ h => ⟨h.1, h.2.symm⟩)) | (go_at_call 29; exact Calls.quiet_of (HRFull.out _ (below_drewN (Below.refl _ _) _))))
  have HX0 : Hid (Below wl.heap.size wl (wl.drewN nq)) := below_drewN (Below.refl _ _) _
  clear c0 c1 p0 p1
  go_wp2_with fail
  go_loopw [3] (fun s3 wr => ∃ (d : Nat), s3 = .int .i64 (d : Int) ∧ d ≤ F + 2 ∧ Hid (Below wl.heap.size wl wr)) (fun s3 _ => F + 2 - (intOf s3).toNat)
  case atStart => exact ⟨0, rfl, by omega, HX0⟩
  case round =>
    clear HX0
    obtain ⟨d, rfl, hd2, HX⟩ := hrel
    obtain ⟨p0, p1⟩ := HPn.out _ HX.out
    go_wp2_with fail
    refine (HRFull.out _ HX.out).mono ?_
    rintro e w1 ⟨rfl, q, rfl⟩
    have HX1 : Hid (Below wl.heap.size wl (wr.drewN q)) := below_drewN HX.out _
    by_cases hdF : d ≤ F + 1
    · have hdF' : (d : Int) ≤ (F : Int) + 1 := by omega
      by_cases h7 : d < 600
      · have h7' : (d : Int) < 600 := by omega
        by_cases hin : 1 ≤ d ∧ d ≤ F
        · obtain ⟨ch, hch⟩ : ∃ ch, all[all.length - d]? = some ch := ⟨_, List.getElem?_eq_getElem (by have := Hal2.out; omega)⟩
          have Hch := Lib.hid hch
          have Hin := Lib.hid hin
          clear hch hin
          go_wp2_with fail
          refine (HLast.out _ d ch HX1.out Hin.out.1 Hin.out.2 Hch.out).mono ?_
          rintro e w1 ⟨rfl, rfl⟩
          go_wp2_with fail
          refine (HRLast.out _ d ch HX1.out Hin.out.1 Hin.out.2 Hch.out).mono ?_
          rintro e w1 ⟨rfl, q2, rfl⟩
          go_wp2_with fail
          go_roundw
          case rel => exact ⟨d + 1, by go_num, by omega, below_drewN HX.out _⟩
          case measure => simp [intOf]; omega
        · have Hin := Lib.hid hin
          clear hin
          go_wp2_with fail
          refine (HLastN.out _ d HX1.out Hin.out).mono ?_
          rintro e w1 ⟨rfl, rfl⟩
          go_wp2_with fail
          refine (HRLastN.out _ d HX1.out Hin.out).mono ?_
          rintro e w1 ⟨rfl, q2, rfl⟩
          go_wp2_with fail
          go_roundw
          case rel => exact ⟨d + 1, by go_num, by omega, below_drewN HX.out _⟩
          case measure => simp [intOf]; omega
      · have h7' : ¬ (d : Int) < 600 := by omega
        go_wp2_with fail
        go_ret
        exact ⟨rfl, bup Hb0.out HX1.out⟩
    · have hdF' : ¬ (d : Int) ≤ (F : Int) + 1 := by omega
      go_wp2_with fail
      go_ret
      exact ⟨rfl, bup Hb0.out HX1.out⟩
end Go.Proofs.Ytcfaocbdhfmhbaa
