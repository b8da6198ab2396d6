/-
  Laws on the way to the claim (OtE). Conditions: those that each theorem states.
-/
import Derived.Test.YtcjehjdehdoaeaaGreatDoorOm39
import Derived.Test.YtcjehjdehdoaeaaGreatDoorOm31
set_option linter.unusedVariables false
set_option linter.unusedSimpArgs false
set_option maxRecDepth 1000000
set_option maxHeartbeats 16000000
namespace Go.Proofs.YtcjehjdehdoaeaaGreatDoor
open Go.RowKit
theorem rowGo_outn (l : List UInt8) (packed size : Int) (dict : Nat) : ∀ (f : Nat) (s : RwS) (st : Lst), s.at_ ≤ l.length → st.out.length ≤ s.at_ * 2097152 → (rowGo l packed size dict f s st).out.length ≤ (rowGo l packed size dict f s st).n * 2097152 := by
 intro f;induction f with
 | zero => intro s st _ _; simp [rowGo]
 | succ f ih =>
  intro s st hs ho;unfold rowGo;split
  · exact ho
  split
  · simp
  rename_i h1;have h1 : (nextF l packed size s).e = 0 := by omega
  obtain ⟨k1, k2, k3, k4, k5, k6⟩ := nextF_ok l packed size s hs h1;split
  · simp
  · rename_i st' hc;have hb := ckF_bd (l.drop s.at_);have hk := ck_ok (l.drop s.at_) k6;rw [← k4] at hb hk;have := chunkF_len hc (fun h => by rw [List.length_take, List.length_drop, hk.2.2.1 h]; omega)
    exact ih _ _ k3 (by omega)
theorem blockF_out (S : Sums) (hS : S.dl = deltaL) (b : List UInt8) (kind : Nat) (mem : Int) (h : (blockF S b kind mem).e = 0) : (blockF S b kind mem).data.length ≤ (blockF S b kind mem).n * 2097152 ∧ (blockF S b kind mem).unp ≤ (blockF S b kind mem).n + 32 := by
 rw [blockF_bh] at h ⊢;split
 · rename_i h1; rw [if_pos h1] at h; exact absurd h h1
 rename_i h1;rw [if_neg h1] at h;have hd : ∀ (p : Pl) (packed size : Int) (c : List UInt8), (dataF S c p packed size).out.length ≤ (dataF S c p packed size).n * 2097152 := fun p packed size c => by
  have h2 := rowGo_outn c packed size p.dict (c.length + 1) .start .start (Nat.zero_le _) (by simp [Lst.start])
  unfold dataF;split
  · exact h2
  · rw [hS];show (deltaL _ _).length ≤ _;rw [deltaL_len];exact h2
 unfold blockD at h ⊢;split
 · rename_i h2; rw [if_pos h2] at h; exact absurd h h2
 rename_i h2;rw [if_neg h2] at h;unfold blockT at h ⊢;split
 · rename_i h3; rw [if_pos h3] at h; exact absurd h h3
 rename_i h3;rw [if_neg h3] at h;unfold blockS at h ⊢;split
 · rename_i h4; rw [if_pos h4] at h; simp [BR.no] at h
 rename_i h4;rw [if_neg h4] at h;split
 · rename_i h5; rw [if_pos h5] at h; exact absurd h h5
 have := hd (bhF S b mem).p (bhF S b mem).packed (bhF S b mem).size (b.drop (hdLen b));have hc : ckSize kind ≤ 32 := by unfold ckSize; (repeat' split) <;> simp
 simp only [];omega
theorem frontF_err (S : Sums) (b : List UInt8) : (frontF S b).e ≤ 4 := by unfold frontF; (repeat' split) <;> simp
theorem shd_any (S : Sums) (hS : S.c32 = crc32) (T Rr : Nat → Int) (E : Nat → Addr) (B R : Nat) (A : Option Addr) (m c : Nat) (l : List UInt8) (mem : Int) (w : World) (hR : Blk w R 71 (rdrC A m c 0 0 none 0 0 none 0 0)) (hI : In w A m l) (hc : m ≤ c) (hE : LaidX T Rr E B w) (hRB : B ≤ R) :
 Calls Tryz.prog 46 #[.pointer (some ⟨R, 0, none⟩), .int .i64 mem] w (SrPost E R (if m < 12 then 1 else (frontF S (l.take 12)).e) (rdrC A m c 12 (frontF S (l.take 12)).kind none 0 0 none 0 0) w) := by
 have hm := hI.2.2;have hlm := hI.len;obtain ⟨⟨c0, c1, c2, c3, c4⟩, ⟨f1, f2, f3, f4⟩⟩ := rdr_cells hR;obtain ⟨X, hX⟩ : ∃ x, (if m < 12 then 1 else (frontF S (l.take 12)).e) = x := ⟨_, rfl⟩
 rw [hX];have HX := Lib.hid hX;have HR := Lib.hid hR;have HF := Lib.hid (fun off kk w' (hf : Below w.heap.size w w') h1 h9 => fault_any E off kk w' (hE.up hf).at_.2.2.2 h1 h9)
 by_cases hlt : m < 12
 · have HXr := Lib.hid (show X = 1 by rw [← HX.out, if_pos hlt])
   have k1 : (m : Int) < 12 := by omega
   clear hI hlm hX hR hE hRB hlt;go_enter Tryz.func46, Tryz.ntmps46;go_wp2_with fail;refine (HF.out (0 : Int) 1 w (Below.refl _ _) (by decide) (by decide)).mono ?_
   rintro e w2 ⟨vv, rfl, hv, hb2⟩;have H2 := Lib.hid (And.intro hv hb2);clear hv hb2;go_wp2_with fail;go_ret;rw [HXr.out];exact sr_no (e := 1) (by decide) (Fr.of_below H2.out.2) H2.out.1
 · have k1 : ¬ (m : Int) < 12 := by omega
   have k2 : (12 : Int) ≤ (c : Int) := by omega
   have HHd := Lib.hid (ReadHeader_any S hS A c (l.take 12) w (hI.take (k := 12) (by omega)) (by omega) hE.at_.1.c hE.at_.1.f)
   have hfe := frontF_err S (l.take 12);have hX2 := HX.out;rw [if_neg hlt] at hX2;obtain ⟨⟨fe, fk, fs⟩, hq⟩ : ∃ x, frontF S (l.take 12) = x := ⟨_, rfl⟩;rw [hq] at HHd hX2 hfe ⊢;simp only [] at HHd hX2 hfe ⊢;subst hX2;clear hI hlm hX hR hE hRB hlt HX hq;go_enter Tryz.func46, Tryz.ntmps46;go_wp2_with fail;refine HHd.out.mono ?_;rintro e w2 ⟨rfl, hb2⟩;have hR2 := HR.out.below hb2;obtain ⟨⟨d0, d1, d2, d3, d4⟩, ⟨g1, g2, g3, g4⟩⟩ := rdr_cells hR2
   have H2 := Lib.hid (And.intro hb2 hR2);clear hb2 hR2;by_cases h0 : fe = 0
   · subst h0;go_wp2_with fail;go_ret;refine ⟨(Fr.of_below H2.out.1).trans (Fr.set1 (Fr.set1 (Fr.refl _ _) 2 _) 1 _), ?_⟩;rw [if_pos rfl];exact ⟨rfl, (H2.out.2.set_ 2 _).set_ 1 _⟩
   · have H0 := Lib.hid h0;have x1 : ((fe : Int) != 0) = true := by rw [bne_iff_ne]; omega
     have x2 : (fe != 0) = true := by rw [bne_iff_ne]; exact h0
     have hf1 : 1 ≤ fe := by omega
     clear h0;go_wp2_with fail;refine (HF.out (0 : Int) fe w2 H2.out.1 hf1 (by omega)).mono ?_
     rintro e w3 ⟨vv, rfl, hv, hb3⟩;have H3 := Lib.hid (And.intro hv hb3);clear hv hb3;go_wp2_with fail;go_ret;exact sr_no H0.out (Fr.of_below (bup H2.out.1 H3.out.2)) H3.out.1
end Go.Proofs.YtcjehjdehdoaeaaGreatDoor
