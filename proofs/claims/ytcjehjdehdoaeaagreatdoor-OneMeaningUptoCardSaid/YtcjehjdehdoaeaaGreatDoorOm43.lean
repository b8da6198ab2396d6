/-
  Laws on the way to the claim (OuC OuD). Conditions: those that each theorem states.
-/
import Derived.Test.YtcjehjdehdoaeaaGreatDoorOm42
import Derived.Test.YtcjehjdehdoaeaaGreatDoorOm35
set_option linter.unusedVariables false
set_option linter.unusedSimpArgs false
set_option maxRecDepth 1000000
set_option maxHeartbeats 16000000
namespace Go.Proofs.YtcjehjdehdoaeaaGreatDoor
open Go.RowKit
def Gv (l : List UInt8) (w : World) (e : Ending) (w' : World) : Prop :=
 ∃ A c, e = .returned (.tuple #[.slice A l.length c, .int .i64 0]) ∧ w'.ownsRow w.heap.size 5 1 (.slice A l.length c) l.length (bys l) ∧ Below w.heap.size w w'
theorem Legal_any (c : Cfg) (h : c.Ok) (w : World) :
 Calls Tryz.prog 17 #[.agg #[.int .i64 c.ck, .int .i64 c.dl, .int .i64 c.lc, .int .i64 c.lp, .int .i64 c.pb, .int .i64 c.dict, .int .i64 c.blk, .int .i64 c.mode]] w fun e w' => e = .returned (.int .i64 0) ∧ Below w.heap.size w w' := by
 obtain ⟨ck, dl, lc, lp, pb, dict, blk, mode⟩ := c;obtain ⟨hk, hd, hl, hp, hi, hb, hm⟩ := h;simp only [] at hk hd hl hp hi hb hm ⊢;have HP := Lib.hid (fun W => PropsByte_yes lc lp pb (by unfold okP; omega) W)
 have a1 : ¬ (dl : Int) < 0 := by omega
 have a2 : ¬ (256 : Int) < (dl : Int) := by omega
 have a3 : ¬ (dict : Int) < 4096 := by omega
 have a4 : ¬ (67108864 : Int) < (dict : Int) := by omega
 have a5 : ¬ (blk : Int) < 1 := by omega
 have a6 : ¬ (2147483648 : Int) < (blk : Int) := by omega
 have a7 : ¬ (mode : Int) < 0 := by omega
 have a8 : ¬ (2 : Int) < (mode : Int) := by omega
 have hz : (ck : Int) = 0 ∨ (ck : Int) = 1 ∨ (ck : Int) = 4 ∨ (ck : Int) = 10 := by unfold kindOk at hk; omega
 obtain ⟨z, hze⟩ : ∃ z : Int, (ck : Int) = z := ⟨_, rfl⟩;rw [hze] at hz ⊢;clear hd hl hp hi hb hm hk hze;obtain ⟨w1, hw1⟩ : ∃ x, w.alloc (.cells #[.int .i64 z, .int .i64 dl, .int .i64 lc, .int .i64 lp, .int .i64 pb, .int .i64 dict, .int .i64 blk, .int .i64 mode] 26) = x := ⟨_, rfl⟩;obtain ⟨g, hg⟩ : ∃ x, w.heap.size = x := ⟨_, rfl⟩;have hb1 : Below w.heap.size w w1 := by rw [← hw1]; exact (Below.refl _ _).alloc (Nat.le_refl _) _
 have hk1 : Blk w1 g 26 #[.int .i64 z, .int .i64 dl, .int .i64 lc, .int .i64 lp, .int .i64 pb, .int .i64 dict, .int .i64 blk, .int .i64 mode] := by rw [← hw1]; exact Blk.new_at hg.symm
 have HW := Lib.hid (And.intro hw1 (And.intro hg (And.intro hb1 hk1)));clear hw1 hg hb1 hk1;rcases hz with rfl | rfl | rfl | rfl
 all_goals
  go_enter Tryz.func17, Tryz.ntmps17;go_upto_region 1 with (fail);rw [HW.out.1, HW.out.2.1];obtain ⟨c0, c1, c2, c3, c4, c5, c6, c7⟩ : (World.cell? w1 ⟨g, 0, none⟩ = some (.int .i64 _)) ∧ (World.cell? w1 ⟨g, 1, none⟩ = some (.int .i64 dl)) ∧ (World.cell? w1 ⟨g, 2, none⟩ = some (.int .i64 lc)) ∧ (World.cell? w1 ⟨g, 3, none⟩ = some (.int .i64 lp)) ∧ (World.cell? w1 ⟨g, 4, none⟩ = some (.int .i64 pb)) ∧ (World.cell? w1 ⟨g, 5, none⟩ = some (.int .i64 dict)) ∧ (World.cell? w1 ⟨g, 6, none⟩ = some (.int .i64 blk)) ∧ (World.cell? w1 ⟨g, 7, none⟩ = some (.int .i64 mode)) := ⟨HW.out.2.2.2.cell 0, HW.out.2.2.2.cell 1, HW.out.2.2.2.cell 2, HW.out.2.2.2.cell 3, HW.out.2.2.2.cell 4, HW.out.2.2.2.cell 5, HW.out.2.2.2.cell 6, HW.out.2.2.2.cell 7⟩
  go_wp2_with fail;refine (HP.out w1).mono ?_;rintro e w2 ⟨rfl, hb2⟩;have hk2 := HW.out.2.2.2.below hb2;have HB2 := Lib.hid (bup HW.out.2.2.1 hb2);obtain ⟨d0, d1, d2, d3, d4, d5, d6, d7⟩ : (World.cell? w2 ⟨g, 0, none⟩ = some (.int .i64 _)) ∧ (World.cell? w2 ⟨g, 1, none⟩ = some (.int .i64 dl)) ∧ (World.cell? w2 ⟨g, 2, none⟩ = some (.int .i64 lc)) ∧ (World.cell? w2 ⟨g, 3, none⟩ = some (.int .i64 lp)) ∧ (World.cell? w2 ⟨g, 4, none⟩ = some (.int .i64 pb)) ∧ (World.cell? w2 ⟨g, 5, none⟩ = some (.int .i64 dict)) ∧ (World.cell? w2 ⟨g, 6, none⟩ = some (.int .i64 blk)) ∧ (World.cell? w2 ⟨g, 7, none⟩ = some (.int .i64 mode)) := ⟨hk2.cell 0, hk2.cell 1, hk2.cell 2, hk2.cell 3, hk2.cell 4, hk2.cell 5, hk2.cell 6, hk2.cell 7⟩
  clear hb2 hk2 c0 c1 c2 c3 c4 c5 c6 c7;go_wp2_with fail;go_ret;exact ⟨rfl, HB2.out⟩
theorem dictN_28 : dictN 28 = 67108864 := by decide
theorem db_ex (n : Nat) : ∀ k b, (∃ j, b ≤ j ∧ j < b + k ∧ n ≤ dictN j) → n ≤ dictN (dbGo n k b) ∧ dbGo n k b < b + k := by
 intro k;induction k with
 | zero => intro b ⟨j, h1, h2, _⟩; omega
 | succ k ih =>
  intro b ⟨j, h1, h2, h3⟩;unfold dbGo;split
  · rename_i hlt;have := ih (b + 1) ⟨j, by rcases Nat.lt_or_eq_of_le h1 with h | h; exact h; subst h; omega, by omega, h3⟩
    omega
  · omega
theorem db_28 (n : Nat) (h : n ≤ 67108864) : dbF n ≤ 28 ∧ n ≤ dictN (dbF n) := by
 have h1 := db_ex n 29 0 ⟨28, by omega, by omega, by rw [dictN_28]; exact h⟩
 have e : ∀ k b, dbGo n k b < b + k → dbGo n (k + 12) b = dbGo n k b := by
  intro k;induction k with
  | zero => intro b h; unfold dbGo at h; omega
  | succ k ih =>
   intro b h;unfold dbGo at h ⊢;split
   · rename_i hlt; rw [if_pos hlt] at h; rw [ih (b + 1) (by omega)]
   · rfl
 unfold dbF;rw [e 29 0 h1.2];exact ⟨by omega, h1.1⟩
theorem DB_any (n : Nat) (w : World) (h : n ≤ 67108864) : Calls Tryz.prog 50 #[.int .i64 n] w fun e w' => e = .returned (.tuple #[.int .i64 (dbF n), .int .i64 0]) ∧ w' = w := by
 have a1 : ¬ (n : Int) < 0 := by omega
 have a2 : ¬ (4294967295 : Int) < (n : Int) := by omega
 have h28 := (db_28 n h).1;have hd : dbGo n (41 - 0) 0 = dbF n := rfl;obtain ⟨r, hr⟩ : ∃ x, dbF n = x := ⟨_, rfl⟩;rw [hr] at hd h28 ⊢;have HD := Lib.hid hd;clear hr hd h;go_enter Tryz.func50, Tryz.ntmps50;go_wp2_with fail
 go_loopw [4] (fun s4 wr => ∃ b : Nat, s4 = .int .i64 (b : Int) ∧ b ≤ 28 ∧ Hid (dbGo n (41 - b) b = r) ∧ wr = w) (fun s4 _ => 41 - (intOf s4).toNat)
 case atStart => exact ⟨0, rfl, by decide, HD, rfl⟩
 case round =>
  clear HD;obtain ⟨b, rfl, hb, H, rfl⟩ := hrel;have hg := H.out;rw [show 41 - b = (41 - (b + 1)) + 1 by omega] at hg
  unfold dbGo at hg;have HG := Lib.hid hg;have hda := dict_any b wr (by omega)
  obtain ⟨d, hd⟩ : ∃ x, dictN b = x := ⟨_, rfl⟩;rw [hd] at hda HG;clear hg hd H;go_wp2_with fail;refine hda.mono ?_;rintro e wz ⟨rfl, hwz⟩;rw [hwz];clear hwz hda;by_cases hlt : d < n
  · have hlt' : (d : Int) < (n : Int) := by omega
    have HG2 := Lib.hid (by have := HG.out; rw [if_pos hlt] at this; exact this)
    have hb2 : Hid (b + 1 ≤ 28) := Lib.hid (by
     refine Classical.byContradiction fun hc => ?_
     have e : b = 28 := by omega
     have := HG2.out;have h3 : ∀ k j, j ≤ dbGo n k j := by
      intro k;induction k with
      | zero => intro j; exact Nat.le_refl _
      | succ k ih => intro j; unfold dbGo; split; exact Nat.le_of_succ_le (ih _); exact Nat.le_refl _
     have := h3 (41 - (b + 1)) (b + 1);omega)
    go_wp2_with fail
    go_roundw
    case rel => exact ⟨b + 1, by go_num, hb2.out, HG2, trivial⟩
    case measure => simp [intOf]; omega
  · have hlt' : ¬ (d : Int) < (n : Int) := by omega
    have hbr : b = r := by have := HG.out; rw [if_neg hlt] at this; exact this
    subst hbr;go_wp2_with fail;refine bodyPost_ret (v := .tuple #[.int .i64 b, .int .i64 0]) (by simp [results, Tryz.results50, go_sem]) rfl ?_
    exact ⟨rfl, rfl⟩
theorem of_step {B i fc : Nat} {Fl : Option Addr} {l : List FE} {W : World} (o : W.ownsRow B 116 2 (.slice Fl i fc) i (fesC l)) (f : FesIn B W l) (hB : B ≤ W.heap.size) (id : Nat) (z : UInt8) {W3 : World} {a1 : Option Addr} {c1 : Nat}
 (h1 : W3.ownsRow B 116 2 (.slice a1 (i + 1) c1) (i + 1) (fesC l ++ [.int .u64 id, .slice (some ⟨W.heap.size, 0, none⟩) 1 1]))
 (hg : ((W.alloc (.cells #[.int .u8 (z.toNat : Int)] 5)).alloc (.cells #[.int .u64 id, .slice (some ⟨W.heap.size, 0, none⟩) 1 1] 116)).grownBy W3 (Value.slice Fl i fc).ownBlock) :
 W3.ownsRow B 116 2 (.slice a1 (i + 1) c1) (i + 1) (fesC (l ++ [⟨id, [z], some ⟨W.heap.size, 0, none⟩, 1⟩])) ∧ FesIn B W3 (l ++ [⟨id, [z], some ⟨W.heap.size, 0, none⟩, 1⟩]) ∧ Below B W W3 := by
 have hb : Below W.heap.size W ((W.alloc (.cells #[.int .u8 (z.toNat : Int)] 5)).alloc (.cells #[.int .u64 id, .slice (some ⟨W.heap.size, 0, none⟩) 1 1] 116)) := ((Below.refl _ _).alloc (Nat.le_refl _) _).alloc (by simp) _
 have ho := own_below o hb;have hf : Fr (fun k => some k = (Value.slice Fl i fc).ownBlock) _ W3 := (Fr.refl _ _).grown hg (fun g hg => .inl hg.symm)
 refine ⟨by rw [fesC_snoc]; exact h1, fun e he => ?_, (hb.mono hB).trans (hf.below (Nat.le_trans hB hb.size) (fun k hk => (own_lt ho hk.symm).1))⟩
 have keep : ∀ (e : FE), W.ownsRow B 5 1 (.slice e.A e.ps.length e.c) e.ps.length (bys e.ps) ∨ ((W.alloc (.cells #[.int .u8 (z.toNat : Int)] 5)).ownsRow B 5 1 (.slice e.A e.ps.length e.c) e.ps.length (bys e.ps)) → W3.ownsRow B 5 1 (.slice e.A e.ps.length e.c) e.ps.length (bys e.ps) := fun e h => by
  have h2 : ((W.alloc (.cells #[.int .u8 (z.toNat : Int)] 5)).alloc (.cells #[.int .u64 id, .slice (some ⟨W.heap.size, 0, none⟩) 1 1] 116)).ownsRow B 5 1 (.slice e.A e.ps.length e.c) e.ps.length (bys e.ps) := by
   rcases h with h | h
   · exact own_below h hb
   · exact own_below h ((Below.refl _ _).alloc (Nat.le_refl _) _)
  exact own_fr h2 hf (fun g hg e => BT.ne (own_bt h2 hg) (own_bt ho e.symm) (by decide) rfl)
 rcases List.mem_append.1 he with he | he
 · exact ⟨keep e (.inl (f e he).1), (f e he).2⟩
 · simp at he;subst he;exact ⟨keep _ (.inr (win.lit_own W z hB)), by show 1 ≤ 1048576; decide⟩
theorem cOf_any (c : Cfg) (h : c.Ok) (w : World) :
 Calls Tryz.prog 30 #[.agg #[.int .i64 c.ck, .int .i64 c.dl, .int .i64 c.lc, .int .i64 c.lp, .int .i64 c.pb, .int .i64 c.dict, .int .i64 c.blk, .int .i64 c.mode]] w fun e w' => ∃ A cc, e = .returned (.tuple #[.slice A (filsP c).length cc, .int .i64 0]) ∧ FlsIn A (filsP c).length (filsP c) w' ∧ Below w.heap.size w w' := by
 obtain ⟨i0, hi0, hz0, hz1, hz2⟩ := info_parts infofl;have HL := Lib.hid (fun W => Legal_any c h W)
 have hd := h.d;have HD := Lib.hid (fun W => DB_any c.dict W h.i.2)
 have hdb := (db_28 c.dict h.i.2).1;have hf0 : filsP c = (if c.dl = 0 then [] else [(3, [UInt8.ofNat (c.dl - 1)])]) ++ [(33, [UInt8.ofNat (dbF c.dict)])] := rfl
 obtain ⟨F, hF⟩ : ∃ x, filsP c = x := ⟨_, rfl⟩;rw [hF] at hf0 ⊢;obtain ⟨ck, dl, lc, lp, pb, dict, blk, mode⟩ := c;simp only [] at HL HD hd hdb hf0 ⊢;obtain ⟨db, hdbe⟩ : ∃ x, dbF dict = x := ⟨_, rfl⟩;rw [hdbe] at HD hdb hf0;obtain ⟨z, hz⟩ : ∃ z, UInt8.ofNat db = z := ⟨_, rfl⟩;have hzn : db = z.toNat := by rw [← hz, UInt8.toNat_ofNat']; omega
 rw [hz] at hf0;subst hzn;have wz : (z.toNat : Int) % 256 = (z.toNat : Int) := by omega
 have HF0 := Lib.hid hf0;clear h hF hdbe hf0 hz;obtain ⟨w1, hw1⟩ : ∃ x, w.alloc (.cells #[.int .i64 ck, .int .i64 dl, .int .i64 lc, .int .i64 lp, .int .i64 pb, .int .i64 dict, .int .i64 blk, .int .i64 mode] 26) = x := ⟨_, rfl⟩;obtain ⟨g, hg⟩ : ∃ x, w.heap.size = x := ⟨_, rfl⟩;have hb1 : Below w.heap.size w w1 := by rw [← hw1]; exact (Below.refl _ _).alloc (Nat.le_refl _) _
 have hk1 : Blk w1 g 26 #[.int .i64 ck, .int .i64 dl, .int .i64 lc, .int .i64 lp, .int .i64 pb, .int .i64 dict, .int .i64 blk, .int .i64 mode] := by rw [← hw1]; exact Blk.new_at hg.symm
 obtain ⟨c0, c1, c2, c3, c4, c5, c6, c7⟩ : (World.cell? w1 ⟨g, 0, none⟩ = some (.int .i64 ck)) ∧ (World.cell? w1 ⟨g, 1, none⟩ = some (.int .i64 dl)) ∧ (World.cell? w1 ⟨g, 2, none⟩ = some (.int .i64 lc)) ∧ (World.cell? w1 ⟨g, 3, none⟩ = some (.int .i64 lp)) ∧ (World.cell? w1 ⟨g, 4, none⟩ = some (.int .i64 pb)) ∧ (World.cell? w1 ⟨g, 5, none⟩ = some (.int .i64 dict)) ∧ (World.cell? w1 ⟨g, 6, none⟩ = some (.int .i64 blk)) ∧ (World.cell? w1 ⟨g, 7, none⟩ = some (.int .i64 mode)) := ⟨hk1.cell 0, hk1.cell 1, hk1.cell 2, hk1.cell 3, hk1.cell 4, hk1.cell 5, hk1.cell 6, hk1.cell 7⟩
 have HW := Lib.hid (And.intro hw1 (And.intro hg (And.intro hb1 hk1)));clear hw1 hg hb1 hk1;go_enter Tryz.func30, Tryz.ntmps30;go_upto_region 1 with (fail);rw [HW.out.1, HW.out.2.1];go_wp2_with fail;refine (HL.out w1).mono ?_;rintro e w2 ⟨rfl, hb2⟩;have hk2 := HW.out.2.2.2.below hb2;have HB2 := Lib.hid (bup HW.out.2.2.1 hb2);have d1 := hk2.cell 1;have d5 := hk2.cell 5;have HK2 := Lib.hid hk2;clear hb2 hk2 c0 c1 c2 c3 c4 c5 c6 c7
 go_wp2_with fail;refine (HD.out w2).mono ?_;rintro e wz ⟨rfl, hwz⟩;rw [hwz];clear hwz;by_cases h0 : dl = 0
 · have q0 : ((dl : Int) != 0) = false := by rw [bne_eq_false_iff_eq]; omega
   have hs2 := HB2.out.size;have HO := Lib.hid (World.ownsRow_nil w2 w.heap.size 116 2);have HFx := Lib.hid (show F = fesF ([] ++ [⟨33, [z], some ⟨w2.heap.size, 0, none⟩, 1⟩]) by have := HF0.out; rw [if_pos h0] at this; exact this)
   clear h0;go_wp2_with (at_builtin; refine wpList_append_rd (w := ((w2.alloc (.cells #[.int .u8 (z.toNat : Int)] 5)).alloc (.cells #[.int .u64 33, .slice (some ⟨w2.heap.size, 0, none⟩) 1 1] 116))) rfl (.tmp 34) (.tmp 39) 86 rfl w.heap.size 116 i0 _ 2 32 Tryz.underlying86 hi0 hz0 hz1 hz2 rfl (by decide) (.slice none 0 0) 0 (fesC []) rfl (World.ownsRow_nil _ _ _ _) (some ⟨w2.heap.size + 1, 0, none⟩) 1 1 [.int .u64 33, .slice (some ⟨w2.heap.size, 0, none⟩) 1 1] rfl (by have := rd_new (w2.alloc (.cells #[.int .u8 (z.toNat : Int)] 5)) #[.int .u64 33, .slice (some ⟨w2.heap.size, 0, none⟩) 1 1] 116 2 rfl; simpa using this) (by intro u hu; simp at hu; rcases hu with rfl | rfl <;> rfl) (by simp only [maxLen]; omega) (by omega) (by simp; omega) ?_; intro a8 c8 w8 hown8 hg8 hat8)
   obtain ⟨o8, f8, b8⟩ := of_step (World.ownsRow_nil w2 w.heap.size 116 2) (l := []) (fun f hf => by simp at hf) hs2 33 z hown8 hg8
   have H8 := Lib.hid (And.intro o8 (And.intro f8 b8));clear o8 f8 b8 hown8 hg8 hat8;go_wp2_with fail;refine bodyPost_ret (v := .tuple #[.slice a8 1 c8, .int .i64 0]) (by simp [results, Tryz.results30, go_sem]) rfl ?_
   rw [HFx.out];exact ⟨a8, c8, rfl, fls_of_own H8.out.1 rfl H8.out.2.1, HB2.out.trans H8.out.2.2⟩
 · have q0 : ((dl : Int) != 0) = true := by rw [bne_iff_ne]; omega
   have hs2 := HB2.out.size;obtain ⟨y, hy⟩ : ∃ y, UInt8.ofNat (dl - 1) = y := ⟨_, rfl⟩;have hyn : (y.toNat : Int) = (dl : Int) - 1 := by rw [← hy, UInt8.toNat_ofNat']; omega
   have HFx := Lib.hid (show F = fesF (([] ++ [⟨3, [y], some ⟨w2.heap.size, 0, none⟩, 1⟩]) ++ [⟨33, [z], none, 1⟩]) by have := HF0.out; rw [if_neg h0, hy] at this; exact this)
   have wd : IntKind.i64.wrap ((dl : Int) - 1) = (y.toNat : Int) := by rw [IntWalk.i64_in _ (by omega)]; omega
   have wy : (y.toNat : Int) % 256 = (y.toNat : Int) := by have := y.toNat_lt; omega
   have hs2' : w.heap.size ≤ w2.heap.size + 1 + 1 := by omega
   clear h0 hy hyn;go_upto_region 10 with (at_builtin; refine wpList_append_rd (w := ((w2.alloc (.cells #[.int .u8 (y.toNat : Int)] 5)).alloc (.cells #[.int .u64 3, .slice (some ⟨w2.heap.size, 0, none⟩) 1 1] 116))) rfl (.tmp 25) (.tmp 32) 86 rfl w.heap.size 116 i0 _ 2 32 Tryz.underlying86 hi0 hz0 hz1 hz2 rfl (by decide) (.slice none 0 0) 0 (fesC []) rfl (World.ownsRow_nil _ _ _ _) (some ⟨w2.heap.size + 1, 0, none⟩) 1 1 [.int .u64 3, .slice (some ⟨w2.heap.size, 0, none⟩) 1 1] rfl (by have := rd_new (w2.alloc (.cells #[.int .u8 (y.toNat : Int)] 5)) #[.int .u64 3, .slice (some ⟨w2.heap.size, 0, none⟩) 1 1] 116 2 rfl; simpa using this) (by intro u hu; simp at hu; rcases hu with rfl | rfl <;> rfl) (by simp only [maxLen]; omega) (by omega) (by simp; omega) ?_; intro a8 c8 w8 hown8 hg8 hat8)
   obtain ⟨o8, f8, b8⟩ := of_step (World.ownsRow_nil w2 w.heap.size 116 2) (l := []) (fun f hf => by simp at hf) hs2 3 y hown8 hg8
   have hs8 := Nat.le_trans hs2 b8.size;have H8 := Lib.hid (And.intro o8 (And.intro f8 b8));clear o8 f8 b8 hown8 hg8 hat8;go_wp2_with (at_builtin; refine wpList_append_rd (w := ((w8.alloc (.cells #[.int .u8 (z.toNat : Int)] 5)).alloc (.cells #[.int .u64 33, .slice (some ⟨w8.heap.size, 0, none⟩) 1 1] 116))) rfl (.tmp 34) (.tmp 39) 86 rfl w.heap.size 116 i0 _ 2 32 Tryz.underlying86 hi0 hz0 hz1 hz2 rfl (by decide) (.slice a8 (0 + 1) c8) (0 + 1) (fesC ([] ++ [⟨3, [y], some ⟨w2.heap.size, 0, none⟩, 1⟩])) rfl (own_below H8.out.1 (((Below.refl _ _).alloc (Nat.le_refl _) _).alloc (by simp) _)) (some ⟨w8.heap.size + 1, 0, none⟩) 1 1 [.int .u64 33, .slice (some ⟨w8.heap.size, 0, none⟩) 1 1] rfl (by have := rd_new (w8.alloc (.cells #[.int .u8 (z.toNat : Int)] 5)) #[.int .u64 33, .slice (some ⟨w8.heap.size, 0, none⟩) 1 1] 116 2 rfl; simpa using this) (by intro u hu; simp at hu; rcases hu with rfl | rfl <;> rfl) (by simp only [maxLen]; omega) (by omega) (by simp; omega) ?_; intro a9 c9 w9 hown9 hg9 hat9)
   obtain ⟨o9, f9, b9⟩ := of_step H8.out.1 H8.out.2.1 hs8 33 z hown9 hg9;have H9 := Lib.hid (And.intro o9 (And.intro f9 b9));clear o9 f9 b9 hown9 hg9 hat9;go_wp2_with fail;refine bodyPost_ret (v := .tuple #[.slice a9 2 c9, .int .i64 0]) (by simp [results, Tryz.results30, go_sem]) rfl ?_
   rw [HFx.out];exact ⟨a9, c9, rfl, by have := fls_of_own H9.out.1 rfl H9.out.2.1; exact this, (HB2.out.trans H8.out.2.2).trans H9.out.2.2⟩
theorem own_blk {w : World} {B g : Nat} {l : List UInt8} (h : Blk w g 5 (bys l).toArray) (hB : B ≤ g) (hl : l.length ≤ 140737488351232) : w.ownsRow B 5 1 (.slice (some ⟨g, 0, none⟩) l.length l.length) l.length (bys l) :=
 ⟨by simp [bys], .inr ⟨g, l.length, (bys l).toArray, rfl, hB, h, Nat.le_refl _, by unfold maxLen; omega, by simp [bys], by rw [Nat.mul_one, List.take_of_length_le (by simp [bys])]⟩⟩
theorem step_byt {ops : Array Oper} {o : Oper} {a : Act} {K : Act → World → Prop} {Q : Exit → Act → World → Prop} {E : Prop} {w : World} (hgd : o.guard = none) (s x : Operand)
 (ho : o.op = .call { callee := .builtin .append, args := #[s, x], argTypes := #[22, 22] }) (B : Nat) (A : Option Addr) (n c : Nat) (l : List UInt8) (hs : a.eval s = .slice A n c) (hown : w.ownsRow B 5 1 (.slice A n c) n (bys l))
 (A2 : Option Addr) (m c2 : Nat) (r : List UInt8) (hx : a.eval x = .slice A2 m c2) (hr : In w A2 m r) (hB : B ≤ w.heap.size) (hlen : n + m ≤ 140737488351232)
 (h : ∀ A' c' w', w'.ownsRow B 5 1 (.slice A' (n + m) c') (n + m) (bys (l ++ r)) → Below B w w' → Fr (fun k => some k = (Value.slice A n c).ownBlock) w w' → K (a.put o.dst (.slice A' (n + m) c')) w') :
 if Region.wanted o (yielded ops a.tmps) = true then Oper.wp Tryz.prog o a w K Q else E := by
 obtain ⟨i0, hi0, hz0, hz1, hz2⟩ := info_parts infou8;refine step_append_rd hgd s x 22 ho B 5 i0 _ 1 1 Tryz.underlying22 hi0 hz0 hz1 hz2 rfl (by decide) _ n (bys l) hs hown A2 m c2 (bys r) hx hr.1 (bys_one _) (by simp only [maxLen]; omega) (by omega) hB ?_
 intro a' c' w' ho hg _;rw [← bys_append] at ho;exact h a' c' w' ho (Below.grown (Below.refl _ w) hg hB fun k hk => (own_lt hown hk).1) ((Fr.refl _ _).grown hg fun g hg => .inl hg.symm)
theorem cPut_any (id : Nat) (A : Option Addr) (n c : Nat) (ps : List UInt8) (w : World) (hid : id < 9223372036854775808) (hI : In w A n ps) (hn : n ≤ 1048576) (hB : LaidB w) :
 Calls Tryz.prog 53 #[.agg #[.int .u64 id, .slice A n c]] w (Gv (fiP id ps) w) := by
 have hn2 := hI.len;have hF : fiP id ps = viP id ++ viP n ++ ps := by unfold fiP; rw [hn2]
 obtain ⟨F, hFe⟩ : ∃ x, fiP id ps = x := ⟨_, rfl⟩;rw [hFe] at hF ⊢;have l1 := viP_len id;have l2 := viP_len n;have p1 := (viN_pos id).2;have p2 := (viN_pos n).2;obtain ⟨a, ha⟩ : ∃ x, viN id = x := ⟨_, rfl⟩;obtain ⟨b, hb⟩ : ∃ x, viN n = x := ⟨_, rfl⟩;have HV1 := Lib.hid (fun W (h : LaidB W) => vPut_any id W hid h)
 have HV2 := Lib.hid (fun W (h : LaidB W) => vPut_any n W (by omega) h)
 rw [ha] at HV1 l1 p1;rw [hb] at HV2 l2 p2;obtain ⟨w1, hw1⟩ : ∃ x, w.alloc (.cells #[.int .u64 id, .slice A n c] 116) = x := ⟨_, rfl⟩;obtain ⟨g, hg⟩ : ∃ x, w.heap.size = x := ⟨_, rfl⟩;have hb1 : Below w.heap.size w w1 := by rw [← hw1]; exact (Below.refl _ _).alloc (Nat.le_refl _) _
 have hk1 : Blk w1 g 116 #[.int .u64 id, .slice A n c] := by rw [← hw1]; exact Blk.new_at hg.symm
 obtain ⟨c0, c1⟩ := hk1.two;have HW := Lib.hid (And.intro hw1 (And.intro hg (And.intro hb1 (And.intro hk1 (And.intro hB hI)))));have HL := Lib.hid (And.intro l1 (And.intro l2 (And.intro hF hn2)));have wn : (n : Int) % 18446744073709551616 = (n : Int) := by omega
 clear hFe hF ha hb hw1 hg hb1 hk1 hB hI l1 l2 hn2;go_enter Tryz.func53, Tryz.ntmps53;go_upto_region 1 with (fail);rw [HW.out.1, HW.out.2.1];go_wp2_with fail;refine (HV1.out w1 (HW.out.2.2.2.2.1.below HW.out.2.2.1)).mono ?_;rintro e w2 ⟨rfl, hk2, hb2⟩;have hF2 := HW.out.2.2.2.1.below hb2;obtain ⟨d0, d1⟩ := hF2.two;have HB2 := Lib.hid (bup HW.out.2.2.1 hb2);have HO2 := Lib.hid (own_blk hk2 (B := w.heap.size) HW.out.2.2.1.size (by rw [HL.out.1]; omega))
 rw [HL.out.1] at HO2;have HF2 := Lib.hid hF2;clear hF2 hb2 hk2 c0 c1;go_wp2_with fail;refine (HV2.out w2 (HW.out.2.2.2.2.1.below HB2.out)).mono ?_;rintro e w3 ⟨rfl, hk3, hb3⟩;have hF3 := HF2.out.below hb3;obtain ⟨e0, e1⟩ := hF3.two;have HO3 := Lib.hid (own_blk hk3 (B := w.heap.size) HB2.out.size (by rw [HL.out.2.1]; omega))
 rw [HL.out.2.1] at HO3;have HB3 := Lib.hid (bup HB2.out hb3);have HO2' := Lib.hid (own_below HO2.out hb3);have HI3 := Lib.hid (in_own (own_blk hk3 (B := w.heap.size) HB2.out.size (by rw [HL.out.2.1]; omega)) (by rw [HL.out.2.1]; omega))
 rw [HL.out.2.1] at HI3;have hs3 := HB3.out.size;have HF3 := Lib.hid hF3;have HI4 := Lib.hid (HW.out.2.2.2.2.2.below (HB3.out));have HA := Lib.hid (HW.out.2.2.2.2.2.2.1);clear hF3 hb3 hk3 d0 d1 HO3;go_upto_region 7 with (fail)
 go_region_law (first
  | (refine step_byt (w := w3.drew) rfl (.tmp 27) (.tmp 28) rfl w.heap.size _ a a (viP id) (by simp [Act.eval, Act.put]) HO2'.out.drew _ b b (viP n) (by simp [Act.eval, Act.put]) (HI3.out.below (Below.refl _ _).drew) hs3 (by omega) ?_
     intro A4 c4 w4 ho4 hb4 hf4;have hk4 := HF3.out.drew.fr hf4 (own_ne HO2'.out.drew HF3.out.drew (by decide))
     have q1 : w4.cell? ⟨g, 1, none⟩ = some (.slice A n c) := hk4.cell 1;have H4 := Lib.hid (And.intro ho4 (And.intro hb4 hf4)))
  | (refine step_byt (w := w4) rfl (.tmp 29) (.tmp 31) rfl w.heap.size A4 (a + b) c4 (viP id ++ viP n) (by simp [Act.eval]) H4.out.1 A n c ps (by simp [Act.eval]) ((HI4.out.below (Below.refl _ _).drew).fr H4.out.2.2 (fun h0 ad had e => by have := HA.out h0 ad had; have := (own_lt HO2'.out.drew e.symm).1; omega)) (Nat.le_trans hs3 H4.out.2.1.size) (by omega) ?_
     intro A5 c5 w5 ho5 hb5 hf5;have H5 := Lib.hid (And.intro ho5 (H4.out.2.1.trans hb5))))
 all_goals
  go_wp2_with fail;refine bodyPost_ret (v := .tuple #[.slice A5 (a + b + n) c5, .int .i64 0]) (by simp [results, Tryz.results53, go_sem]) rfl ?_
  have hl : F.length = a + b + n := by rw [HL.out.2.2.1, List.length_append, List.length_append, HL.out.1, HL.out.2.1, HL.out.2.2.2]
  refine ⟨A5, c5, by rw [hl], ?_, HB3.out.trans ((Below.refl _ _).drew.trans H5.out.2)⟩
  rw [hl, HL.out.2.2.1];exact H5.out.1
end Go.Proofs.YtcjehjdehdoaeaaGreatDoor
