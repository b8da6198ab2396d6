/-
  Laws on the way to the claim (OsI). Conditions: those that each theorem states.
-/
import Derived.Test.YtcjehjdehdoaeaaGreatDoorOm35
set_option linter.unusedVariables false
set_option linter.unusedSimpArgs false
set_option maxRecDepth 1000000
set_option maxHeartbeats 16000000
namespace Go.Proofs.YtcjehjdehdoaeaaGreatDoor
open Go.RowKit
def bhF (S : Sums) (b : List UInt8) (mem : Int) : HR :=
 if b.length < hdLen b then .no 1
 else if (headF S (b.take (hdLen b))).e ≠ 0 then .no (headF S (b.take (hdLen b))).e
 else if mem < ((headF S (b.take (hdLen b))).p.dict : Int) then .no 5
 else headF S (b.take (hdLen b))
theorem headF_read (S : Sums) (b : List UInt8) (h : (headF S b).e = 0) : readF (headF S b).fl = some (headF S b).p ∧ -1 ≤ (headF S b).packed ∧ -1 ≤ (headF S b).size := by
 have hE : ∀ (p s : Int) fl r, -1 ≤ p → -1 ≤ s → (hdEnd p s fl r).e = 0 → readF (hdEnd p s fl r).fl = some (hdEnd p s fl r).p ∧ -1 ≤ (hdEnd p s fl r).packed ∧ -1 ≤ (hdEnd p s fl r).size := fun p s fl r hp hs => by
  unfold hdEnd HR.no;split
  · intro h; simp at h
  · split
    · intro h; simp at h
    · rename_i q hq;intro _;exact ⟨hq, hp, hs⟩
 have hF : ∀ g (p s : Int) r, -1 ≤ p → -1 ≤ s → (hdFils g p s r).e = 0 → readF (hdFils g p s r).fl = some (hdFils g p s r).p ∧ -1 ≤ (hdFils g p s r).packed ∧ -1 ≤ (hdFils g p s r).size := fun g p s r hp hs => by
  unfold hdFils;split
  · intro h; simp [HR.no] at h
  · exact hE _ _ _ _ hp hs
 have hS : ∀ g (p : Int) r, -1 ≤ p → (hdSize g p r).e = 0 → readF (hdSize g p r).fl = some (hdSize g p r).p ∧ -1 ≤ (hdSize g p r).packed ∧ -1 ≤ (hdSize g p r).size := fun g p r hp => by
  unfold hdSize;split
  · split
    · intro h; simp [HR.no] at h
    · exact hF _ _ _ _ hp (by omega)
  · exact hF _ _ _ _ hp (by omega)
 unfold headF at h ⊢;split
 · rename_i h1; rw [if_pos h1] at h; simp [HR.no] at h
 rename_i h1;rw [if_neg h1] at h;split
 · rename_i h2; rw [if_pos h2] at h; simp [HR.no] at h
 rename_i h2;rw [if_neg h2] at h;unfold hdPacked at h ⊢;split
 · rename_i h3;rw [if_pos h3] at h;split
   · rename_i h4; rw [if_pos h4] at h; simp [HR.no] at h
   rename_i h4;rw [if_neg h4] at h;split
   · rename_i h5; rw [if_pos h5] at h; simp [HR.no] at h
   rename_i h5;rw [if_neg h5] at h;exact hS _ _ _ (by omega) h
 · rename_i h3;rw [if_neg h3] at h;exact hS _ _ _ (by omega) h
theorem hd_put {W : Nat} {w : World} {p s p' s' : Int} {A A' : Option Addr} {n c m n' c' m' : Nat} (h : Blk w W 91 (hdV p s A n c m)) :
 Blk ((((w.setCell ⟨W, 0, none⟩ (.int .i64 p')).setCell ⟨W, 1, none⟩ (.int .i64 s')).setCell ⟨W, 2, none⟩ (.slice A' n' c')).setCell ⟨W, 3, none⟩ (.int .i64 m')) W 91 (hdV p' s' A' n' c' m') ∧
 Fr (fun g => g = W) w ((((w.setCell ⟨W, 0, none⟩ (.int .i64 p')).setCell ⟨W, 1, none⟩ (.int .i64 s')).setCell ⟨W, 2, none⟩ (.slice A' n' c')).setCell ⟨W, 3, none⟩ (.int .i64 m')) :=
 ⟨(((h.set_ 0 _).set_ 1 _).set_ 2 _).set_ 3 _, Fr.set1 (Fr.set1 (Fr.set1 (Fr.set1 (Fr.refl _ _) 0 _) 1 _) 2 _) 3 _⟩
theorem hd_cells {W : Nat} {w : World} {p s : Int} {A : Option Addr} {n c m : Nat} (h : Blk w W 91 (hdV p s A n c m)) :
 (w.cell? ⟨W, 0, none⟩ = some (.int .i64 p) ∧ w.cell? ⟨W, 1, none⟩ = some (.int .i64 s) ∧ w.cell? ⟨W, 2, none⟩ = some (.slice A n c) ∧ w.cell? ⟨W, 3, none⟩ = some (.int .i64 m)) ∧
 (w.frozen? ⟨W, 0, none⟩ = false ∧ w.frozen? ⟨W, 1, none⟩ = false ∧ w.frozen? ⟨W, 2, none⟩ = false ∧ w.frozen? ⟨W, 3, none⟩ = false) :=
 ⟨⟨h.cell 0, h.cell 1, h.cell 2, h.cell 3⟩, ⟨h.frozen 0, h.frozen 1, h.frozen 2, h.frozen 3⟩⟩
theorem FlsIn.fr_hd {A : Option Addr} {n : Nat} {fl : List (Nat × List UInt8)} {w w' : World} (h : FlsIn A n fl w) {W : Nat} {p s : Int} {B : Option Addr} {k c m : Nat} (hW : Blk w W 91 (hdV p s B k c m)) (hf : Fr (fun g => g = W) w w') : FlsIn A n fl w' := by
 refine ⟨h.len, fun i hi => ?_⟩
 obtain ⟨b, o, Ai, ci, h1, h2, h3, h4, h5, h6⟩ := h.c i hi;have hne : b ≠ W := fun e => by
  subst e;rw [hW.cell] at h2;rcases hj : o + i * 2 with _ | _ | _ | _ | j <;> rw [hj] at h2 <;> simp [hdV] at h2
 exact ⟨b, o, Ai, ci, h1, (hf.cell (p := ⟨b, o + i * 2, none⟩) h5 hne).trans h2, (hf.cell (p := ⟨b, o + i * 2 + 1, none⟩) h5 hne).trans h3, h4.fr hf (fun h0 ad had => in_far h4 h0 had hW (hdV_far _ _ _ _ _ _)), Nat.lt_of_lt_of_le h5 hf.size, h6⟩
theorem bh_fin {a : Act} {w wz : World} {W m k : Nat} {p s : Int} {A : Option Addr} {n c mz : Nat} {r : HR} (hr : r.e = k) (hx : k = 0 → r.packed = p ∧ r.size = s ∧ r.fl.length = n ∧ mz = m ∧ FlsIn A n r.fl wz ∧ n ≤ 8) (hz : k ≠ 0 → hdV p s A n c mz = hdV 0 0 none 0 0 0)
 (ht : a.tmps[4]? = some (.pointer (some ⟨W, 0, none⟩)) ∧ a.tmps[5]? = some (.int .i64 (k : Int))) (hd : a.defers = [])
 (hH : Blk wz W 91 (hdV p s A n c mz)) (hb : Below w.heap.size w wz) : bodyPost Tryz.prog Tryz.f86 (HdPost r m w) .ret a wz := by
 obtain ⟨⟨c0, c1, c2, c3⟩, _⟩ := hd_cells hH;refine bodyPost_ret (v := .tuple #[.agg (hdV p s A n c mz), .int .i64 k]) (by simp [results, Tryz.results86, go_sem, ht.1, ht.2, c0, c1, c2, c3, hdV]) hd ⟨hb, ?_⟩
 by_cases hk : k = 0
 · subst hk;obtain ⟨h1, h2, h3, h4, h5, h6⟩ := hx rfl;rw [if_pos hr, h1, h2, h3, ← h4];exact ⟨A, c, rfl, h5, h6⟩
 · rw [if_neg (by rw [hr]; exact hk), hz hk, hr]
theorem bhdr_any (S : Sums) (hS : S.c32 = crc32) (A : Option Addr) (m c : Nat) (l : List UInt8) (mem : Int) (w : World) (hI : In w A m l) (hc : m ≤ c) (hc63 : c ≤ 9223372036854775807) (h1 : 1 ≤ m) (h0 : (l.getD 0 0).toNat ≠ 0) (hl : LaidC w) :
 Calls Tryz.prog 86 #[.slice A m c, .int .i64 mem] w (HdPost (bhF S l mem) (hdLen l) w) := by
 have hlm := hI.len;obtain ⟨X, hX⟩ : ∃ z, bhF S l mem = z := ⟨_, rfl⟩;rw [hX];unfold bhF at hX;rw [hlm] at hX;obtain ⟨z, t, rfl⟩ : ∃ z t, l = z :: t := by
  cases l with
  | nil => simp at h0
  | cons z t => exact ⟨z, t, rfl⟩
 obtain ⟨N, hN⟩ : ∃ x, hdLen (z :: t) = x := ⟨_, rfl⟩;rw [hN] at hX ⊢;have hN2 : N = 4 * (z.toNat + 1) := hN.symm;have hz := z.toNat_lt;replace h0 : z.toNat ≠ 0 := h0;obtain ⟨ab, ao, rfl, hcell⟩ := hI.1.cells_at (by omega)
 obtain ⟨W, hW⟩ : ∃ x, w.heap.size = x := ⟨_, rfl⟩;obtain ⟨w1, hw1⟩ : ∃ x, w.alloc (.cells #[.int .i64 0, .int .i64 0, .slice none 0 0, .int .i64 0] 91) = x := ⟨_, rfl⟩;have hb1 : Below w.heap.size w w1 := by rw [← hw1]; exact (Below.refl _ _).alloc (Nat.le_refl _) _
 have hW1 : Blk w1 W 91 (hdV 0 0 none 0 0 0) := by rw [← hw1]; exact Blk.new_at hW.symm
 obtain ⟨⟨c0, c1, c2, c3⟩, ⟨q0, q1, q2, q3⟩⟩ := hd_cells hW1;have b0 : w1.cell? ⟨ab, ao, none⟩ = some (.int .u8 (z.toNat : Int)) := (hb1.cell (p := ⟨ab, ao, none⟩) (hI.2.1 (by omega) _ rfl)).trans (hcell 0 z rfl)
 have HP := Lib.hid (And.intro hb1 (And.intro hW1 hW));have HW := Lib.hid (And.intro hw1 hW);have HX := Lib.hid hX;obtain ⟨y, hy⟩ : ∃ y, z.toNat = y := ⟨_, rfl⟩;rw [hy] at b0 h0 hz hN2;have v1 : IntKind.i64.wrap (y : Int) = (y : Int) := IntWalk.i64_in _ (by omega)
 have v2 : IntKind.i64.wrap ((y : Int) + 1) = (y : Int) + 1 := IntWalk.i64_in _ (by omega)
 have v3 : IntKind.i64.wrap (4 * ((y : Int) + 1)) = (N : Int) := by rw [IntWalk.i64_in _ (by omega)]; omega
 have e0 : ((m : Int) == 0) = false := beq_eq_false_iff_ne.2 (by omega)
 have e1 : ((y : Int) == 0) = false := beq_eq_false_iff_ne.2 (by omega)
 have hmc : (m : Int) ≤ (c : Int) := by omega
 have m0 : 0 < m := by omega
 have HG : Hid (N ≤ m → Calls Tryz.prog 112 #[.slice (some ⟨ab, ao, none⟩) N c] w1 (HdPost (headF S ((z :: t).take N)) N w1)) := Lib.hid (fun hN' => hGet_any S hS _ N c _ w1 ((hI.below hb1).take hN') (by omega) hc63 (by
  have : ((z :: t).take N).getD 0 0 = z := by rw [getD_take _ (by omega)]; rfl
  unfold hdLen;rw [this, hy];exact hN2) (by
  have : ((z :: t).take N).getD 0 0 = z := by rw [getD_take _ (by omega)]; rfl
  rw [this, hy];exact h0) (hl.below hb1))
 obtain ⟨G, hG⟩ : ∃ x, headF S ((z :: t).take N) = x := ⟨_, rfl⟩;have hGr := headF_read S ((z :: t).take N);rw [hG] at HG HX hGr;have HGr := Lib.hid hGr;clear hI hlm hX hN hcell hw1 hW hb1 hW1 hy hG hGr hl h0 hz hN2;by_cases hlt : m < N
 · have HXr := Lib.hid (show X = HR.no 1 by rw [← HX.out, if_pos hlt])
   have g1 : (m : Int) < (N : Int) := by omega
   clear hlt HX HG;go_enter Tryz.func86, Tryz.ntmps86;go_upto_region 1 with (fail);rw [HW.out.1, HW.out.2];go_wp2_with fail;exact bh_fin (k := 1) (p := 0) (s := 0) (A := none) (n := 0) (c := 0) (mz := 0) (by rw [HXr.out]; rfl) (fun h => absurd h (by decide)) (fun _ => rfl) ⟨rfl, rfl⟩ rfl (hd_put HP.out.2.1).1 (HP.out.1.trans ((hd_put HP.out.2.1).2.below HP.out.1.size (fun g hg => by have hg : g = W := hg; have := HP.out.2.2; omega)))
 · have hX2 : (if G.e ≠ 0 then HR.no G.e else if mem < (G.p.dict : Int) then HR.no 5 else G) = X := by rw [← HX.out, if_neg hlt]
   have HX2 := Lib.hid hX2;have g1 : ¬ (m : Int) < (N : Int) := by omega
   have hNm : (N : Int) ≤ (c : Int) := by omega
   have HG2 := Lib.hid (HG.out (by omega))
   clear hlt HX HG hX2;go_enter Tryz.func86, Tryz.ntmps86;go_upto_region 1 with (fail);rw [HW.out.1, HW.out.2];go_wp2_with fail;refine HG2.out.mono ?_;rintro e w2 ⟨hb2, he⟩;have hW2 := HP.out.2.1.below hb2;have hbb := HP.out.1.trans (hb2.mono HP.out.1.size);clear c0 c1 c2 c3 q0 q1 q2 q3 b0;by_cases hG0 : G.e = 0
   · rw [if_pos hG0] at he;obtain ⟨Fl, fc, rfl, hF, hn8⟩ := he;obtain ⟨hrd, hp1, hs1⟩ := HGr.out hG0;have HX3 := Lib.hid (show (if mem < (G.p.dict : Int) then HR.no 5 else G) = X by have := HX2.out; rw [if_neg (fun h => h hG0)] at this; exact this)
     obtain ⟨ge, gp, gs, gf, gq⟩ := G;simp only [] at hG0 hrd hF hn8 HX3 ⊢;subst hG0;obtain ⟨fn, hfn⟩ : ∃ x, gf.length = x := ⟨_, rfl⟩;rw [hfn] at hF hn8 ⊢;obtain ⟨V, hV⟩ : ∃ x, w2.heap.size = x := ⟨_, rfl⟩;obtain ⟨w3, hw3⟩ : ∃ x, w2.alloc (.cells #[.int .i64 gp, .int .i64 gs, .slice Fl fn fc, .int .i64 N] 91) = x := ⟨_, rfl⟩;have hb3 : Below w2.heap.size w2 w3 := by rw [← hw3]; exact (Below.refl _ _).alloc (Nat.le_refl _) _
     have hV3 : Blk w3 V 91 (hdV gp gs Fl fn fc N) := by rw [← hw3]; exact Blk.new_at hV.symm
     have hW3 := hW2.below hb3;have HRd := Lib.hid (Read_any Fl fn fc gf w3 (hF.below hb3) (by omega))
     rw [hrd] at HRd;have c2 := hV3.cell 2;simp only [hdV] at c2;have c2 : w3.cell? ⟨V, 2, none⟩ = some (.slice Fl fn fc) := hV3.cell 2;have HQ := Lib.hid (And.intro hV3 (And.intro hW3 (And.intro (hbb.trans (hb3.mono hbb.size)) (And.intro (hF.below hb3) (And.intro hV hw3)))));have HNe := Lib.hid (show W ≠ V by have := hW2.lt; omega)
     have HFn := Lib.hid (And.intro hfn hn8);clear hF hn8 hrd hp1 hs1 hV hw3 hb3 hV3 hW3 hfn hb2 hW2 hbb HGr HX2;unfold hdV;go_upto_region 9 with (fail);rw [HQ.out.2.2.2.2.1, HQ.out.2.2.2.2.2];go_wp2_with fail;refine HRd.out.mono ?_;rintro e w4 ⟨hb4, rfl⟩;have hV4 := HQ.out.1.below hb4;have hW4 := HQ.out.2.1.below hb4;have hb := HQ.out.2.2.1.trans (hb4.mono HQ.out.2.2.1.size);have hF4 := HQ.out.2.2.2.1.below hb4
     obtain ⟨⟨c0, c1, c2', c3⟩, ⟨q0, q1, q2, q3⟩⟩ := hd_cells hW4;obtain ⟨⟨v0, v1', v2', v3'⟩, _⟩ := hd_cells hV4;have HQ4 := Lib.hid (And.intro hW4 (And.intro hb hF4));obtain ⟨gd, gc⟩ := gq;simp only [] at HX3 ⊢;clear hb4 hV4 hW4 hb hF4 c2;by_cases hmem : mem < (gc : Int)
     · have HXr := Lib.hid (show X = HR.no 5 by rw [← HX3.out, if_pos hmem])
       clear HX3;go_wp2_with fail;exact bh_fin (k := 5) (p := 0) (s := 0) (A := none) (n := 0) (c := 0) (mz := 0) (by rw [HXr.out]; rfl) (fun h => absurd h (by decide)) (fun _ => rfl) ⟨rfl, rfl⟩ rfl (hd_put HQ4.out.1).1 (HQ4.out.2.1.trans ((hd_put HQ4.out.1).2.below HQ4.out.2.1.size (fun g hg => by have hg : g = W := hg; have := HP.out.2.2; omega)))
     · have HXr := Lib.hid (show X = ⟨0, gp, gs, gf, ⟨gd, gc⟩⟩ by rw [← HX3.out, if_neg hmem])
       have hne := HNe.out;clear HX3;go_wp2_with fail;refine bh_fin (k := 0) (p := gp) (s := gs) (A := Fl) (n := fn) (c := fc) (mz := N) (by rw [HXr.out]) (fun _ => ⟨by rw [HXr.out], by rw [HXr.out], by rw [HXr.out]; exact HFn.out.1, rfl, ?_, HFn.out.2⟩) (fun h => absurd rfl h) ⟨rfl, rfl⟩ rfl (hd_put HQ4.out.1).1 (HQ4.out.2.1.trans ((hd_put HQ4.out.1).2.below HQ4.out.2.1.size (fun g hg => by have hg : g = W := hg; have := HP.out.2.2; omega)))
       rw [HXr.out];exact HQ4.out.2.2.fr_hd HQ4.out.1 (hd_put HQ4.out.1).2
   · rw [if_neg hG0] at he;subst he;have HXr := Lib.hid (show X = HR.no G.e by rw [← HX2.out, if_pos hG0])
     obtain ⟨k, hk⟩ : ∃ x, G.e = x := ⟨_, rfl⟩;rw [hk] at HXr hG0 ⊢;have x1 : ((k : Int) != 0) = true := by rw [bne_iff_ne]; omega
     have x2 : (k != 0) = true := by rw [bne_iff_ne]; exact hG0
     have H0 := Lib.hid hG0;obtain ⟨w3, hw3⟩ : ∃ x, w2.alloc (.cells #[.int .i64 0, .int .i64 0, .slice none 0 0, .int .i64 0] 91) = x := ⟨_, rfl⟩;have hb3 : Below w2.heap.size w2 w3 := by rw [← hw3]; exact (Below.refl _ _).alloc (Nat.le_refl _) _
     have hW3 := hW2.below hb3;obtain ⟨⟨c0, c1, c2, c3⟩, ⟨q0, q1, q2, q3⟩⟩ := hd_cells hW3;have HQ := Lib.hid (And.intro hW3 (And.intro (hbb.trans (hb3.mono hbb.size)) hw3));clear hG0 hk HGr HX2 hW2 hbb hb2 hw3 hb3 hW3;unfold hdV;go_upto_region 9 with (fail);rw [HQ.out.2.2];go_wp2_with fail;exact bh_fin (r := X) (k := k) (p := 0) (s := 0) (A := none) (n := 0) (c := 0) (mz := 0) (by rw [HXr.out]; rfl) (fun h => absurd h H0.out) (fun _ => rfl) ⟨rfl, rfl⟩ rfl (hd_put HQ.out.1).1 (HQ.out.2.1.trans ((hd_put HQ.out.1).2.below HQ.out.2.1.size (fun g hg => by have hg : g = W := hg; have := HP.out.2.2; omega)))
end Go.Proofs.YtcjehjdehdoaeaaGreatDoor
