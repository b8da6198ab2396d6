/-
  Laws on the way to the claim (OrT OrU OrW). Conditions: those that each theorem states.
-/
import Derived.Test.YtcjehjdehdoaeaaGreatDoorOm31
import Derived.Test.YtcjehjdehdoaeaaGreatDoorOm24
set_option linter.unusedVariables false
set_option linter.unusedSimpArgs false
set_option maxRecDepth 1000000
set_option maxHeartbeats 16000000
namespace Go.Proofs.YtcjehjdehdoaeaaGreatDoor
open Go.RowKit
def lowV (l : List UInt8) (i : Nat) : Nat → Nat
 | 0 => 0
 | k + 1 => lowV l i k + (l.getD (i + k) 0).toNat * 2 ^ (8 * k)
theorem lowV_lt (l : List UInt8) (i : Nat) : ∀ k, lowV l i k < 2 ^ (8 * k) := by
 intro k;induction k with
 | zero => simp [lowV]
 | succ k ih =>
  have h := (l.getD (i + k) 0).toNat_lt;have hm : (l.getD (i + k) 0).toNat * 2 ^ (8 * k) ≤ 255 * 2 ^ (8 * k) := Nat.mul_le_mul_right _ (by omega)
  rw [lowV, show 8 * (k + 1) = 8 * k + 8 by omega, Nat.pow_add]
  omega
theorem lowGo_eq (l : List UInt8) (i : Nat) : ∀ k, k ≤ 8 → lowGo l i k = (lowV l i k : Int) := by
 intro k;induction k with
 | zero => intro _; rfl
 | succ k ih =>
  intro hk;have h := (l.getD (i + k) 0).toNat_lt;have hlt := lowV_lt l i k;have hp : 2 ^ (8 * k) ≤ 2 ^ 56 := Nat.pow_le_pow_right (by decide) (by omega)
  have h56 : (2 : Nat) ^ 56 = 72057594037927936 := by decide
  rw [lowGo, ih (by omega), lowV]
  obtain ⟨c, hc⟩ : ∃ c, (l.getD (i + k) 0).toNat = c := ⟨_, rfl⟩;obtain ⟨v, hv⟩ : ∃ v, lowV l i k = v := ⟨_, rfl⟩;rw [hc] at h ⊢;rw [hv] at hlt ⊢;have e1 : IntKind.u64.wrap (c : Int) = (c : Int) := by rw [IntKind.wrap_u64]; omega
  have hm : c * 2 ^ (8 * k) ≤ 255 * 2 ^ (8 * k) := Nat.mul_le_mul_right _ (by omega)
  have e2 : IntKind.u64.wrap ((c : Int) * 2 ^ (8 * k)) = ((c * 2 ^ (8 * k) : Nat) : Int) := by
   rw [show (c : Int) * 2 ^ (8 * k) = ((c * 2 ^ (8 * k) : Nat) : Int) by simp, IntKind.wrap_u64]
   exact Int.emod_eq_of_lt (by omega) (by omega)
  rw [e1, e2, vu64_or v _ (by omega) (by omega), Nat.or_comm, vor_add _ _ _ hlt]
  congr 1
  omega
theorem lowGo_mid (l : List UInt8) (a n : Nat) : ∀ k, k ≤ n → lowGo ((l.drop a).take n) 0 k = lowGo l a k := by
 intro k;induction k with
 | zero => intro _; rfl
 | succ k ih =>
  intro h;rw [lowGo, lowGo, ih (by omega), getD_take _ (by omega)]
  simp [List.getD, List.getElem?_drop]
theorem ReadFooter_any (S : Sums) (hS : S.c32 = crc32) (A : Option Addr) (c : Nat) (l : List UInt8) (w : World) (hI : In w A 12 l) (hc : 12 ≤ c) (hl : LaidC w) (hf : LaidF w) :
 Calls Tryz.prog 95 #[.slice A 12 c] w fun e w' => e = .returned (.tuple #[.int .i64 (backF S l).kind, .int .i64 (backF S l).size, .int .i64 (backF S l).e]) ∧ Below w.heap.size w w' := by
 have hl12 := hI.len;obtain ⟨r, hr⟩ : ∃ r, backF S l = r := ⟨_, rfl⟩;rw [hr];unfold backF at hr;rw [hS] at hr;obtain ⟨W, hW⟩ : ∃ W, w.heap.size = W := ⟨_, rfl⟩;obtain ⟨w1, hw1⟩ : ∃ w1, w.alloc (.cells #[.int .u8 0, .int .u8 0] 110) = w1 := ⟨_, rfl⟩;have hb1 : Below w.heap.size w w1 := by rw [← hw1]; exact (Below.refl _ _).alloc (Nat.le_refl _) _
 have hx1 : Blk w1 W 110 #[.int .u8 0, .int .u8 0] := by rw [← hw1]; exact Blk.new_at hW.symm
 obtain ⟨ab, ao, rfl, hcell⟩ := hI.1.cells_at (by decide)
 obtain ⟨w2, hrun, hx2, hf2⟩ := copy_arr (w := w1.drew) (n := 2) (dc := 2) (c := c - 10) hx1.drew rfl (((hI.mid (lo := 10) (hi := 12) (by decide) (by decide)).below hb1).below (Below.refl _ _).drew) (by decide) (by decide)
 have hF2 : Below w.heap.size w w2 := ((Fr.of_below (S := fun _ => False) hb1).drew.trans' hf2 (fun i hi e => by have e : i = W := e; omega)).below (Nat.le_refl _) (fun _ h => h.elim)
 obtain ⟨a, b, h2⟩ : ∃ a b, (l.drop 10).take (12 - 10) = [a, b] := by
  have : ((l.drop 10).take (12 - 10)).length = 2 := by rw [List.length_take, List.length_drop]; omega
  match (l.drop 10).take (12 - 10), this with
  | [a, b], _ => exact ⟨a, b, rfl⟩
 rw [h2, show ([a, b] : List UInt8).take 2 = [a, b] from rfl] at hx2
 rw [show (l.drop 10).take 2 = [a, b] from h2] at hr
 have m0 := hx2.cell 0;have m1 := hx2.cell 1;simp [bys] at m0 m1;have he := fun w => eqA2 [a, b] [89, 90] rfl rfl w
 have he : ∀ w, (Op.equalIn 10000 110 (.agg #[.int .u8 (a.toNat : Int), .int .u8 (b.toNat : Int)]) (.agg #[.int .u8 89, .int .u8 90])).run Tryz.prog w = .ok (decide ([a, b] = [89, 90])) w := he;have HI := Lib.hid hI;have HI2 := Lib.hid (hI.below hF2);have HB2 := Lib.hid hF2;have HLC := Lib.hid (hl.below hF2);have HLF := Lib.hid (hf.below hF2);have HW := Lib.hid (And.intro hW hw1);have HR := Lib.hid hr
 have HL12 := Lib.hid hl12;obtain ⟨mg, hmg⟩ : ∃ z, decide ([a, b] = [89, 90]) = z := ⟨_, rfl⟩;rw [hmg] at he;have HMG := Lib.hid hmg;have HRN := Lib.hid hrun;have hc10 : ¬ c = 10 := by omega
 have hc4 : ¬ c = 4 := by omega
 clear hr hW hw1 hb1 hx1 hx2 hf2 hF2 h2 hI hl hf hl12 hmg hcell hrun;go_enter Tryz.func95, Tryz.ntmps95;go_upto_region 4 with (fail);rw [HW.out.2, HW.out.1];have hrun := HRN.out
 go_region
 cases mg
 · have hmm := of_decide_eq_false HMG.out;have HR2 := Lib.hid (by have := HR.out; rw [if_pos hmm] at this; exact this)
   go_wp2_with fail
   go_ret3
   exact ⟨by rw [← HR2.out]; rfl, HB2.out⟩
 · have hmm := of_decide_eq_true HMG.out;have HR2 := Lib.hid (by have := HR.out; rw [if_neg (fun h => h hmm)] at this; exact this)
   clear HR HMG hmm;have HIS := Lib.hid (fun W (hb : Below w2.heap.size w2 W) => isSum_any (some ⟨ab, ao, none⟩) (some ⟨ab, ao + 4, none⟩) 6 c (c - 4) _ _ W ((HI2.out.take (k := 4) (by decide)).below hb) ((HI2.out.mid (lo := 4) (hi := 10) (by decide) (by decide)).below hb) (HLC.out.below hb))
   obtain ⟨sm, hsm⟩ : ∃ z, decide (l.take 4 = leN 4 (crc32 ((l.drop 4).take (10 - 4)))) = z := ⟨_, rfl⟩;rw [hsm] at HIS;have HSM := Lib.hid hsm;clear hsm;go_upto_region 7 with (fail);go_cut [19] (fun s15 wx => s15 = .bool (!sm) ∧ Below w2.heap.size w2 wx)
   case first =>
    go_region_with (first | (go_at_call 85; refine (HIS.out _ (Below.refl _ _).drew).mono ?_; rintro e w3 ⟨rfl, hb3⟩; have HB3 := Lib.hid hb3; clear hb3))
    all_goals
     go_wp2_with fail
     go_meet
     exact ⟨rfl, (Below.refl _ _).drew.trans HB3.out⟩
   case rest =>
    obtain ⟨rfl, hb3⟩ := hcut;have HB3 := Lib.hid (bup HB2.out hb3);have HI3 := Lib.hid (HI2.out.below hb3);have HLF3 := Lib.hid (HLF.out.below hb3);obtain ⟨w3, hw3⟩ : ∃ w3, wc = w3 := ⟨_, rfl⟩;rw [hw3] at HB3 HI3 HLF3 ⊢;clear hw3 hb3;cases sm
    · have hmm := of_decide_eq_false HSM.out;have HR3 := Lib.hid (by have := HR2.out; rw [if_pos hmm] at this; exact this)
      go_wp2_with fail
      go_ret3
      exact ⟨by rw [← HR3.out]; rfl, HB3.out⟩
    · have hmm := of_decide_eq_true HSM.out;have HR3 := Lib.hid (by have := HR2.out; rw [if_neg (fun h => h hmm)] at this; exact this)
      clear HSM hmm HR2;obtain ⟨z6, hz6⟩ : ∃ z, l[8]? = some z := ⟨_, List.getElem?_eq_getElem (by have := HL12.out; omega)⟩
      obtain ⟨z7, hz7⟩ : ∃ z, l[9]? = some z := ⟨_, List.getElem?_eq_getElem (by have := HL12.out; omega)⟩
      have g6 : l.getD 8 0 = z6 := by simp [List.getD, hz6]
      have g7 : l.getD 9 0 = z7 := by simp [List.getD, hz7]
      obtain ⟨ab', ao', he', hcell⟩ := HI3.out.1.cells_at (by decide)
      obtain ⟨rfl, rfl⟩ : ab = ab' ∧ ao = ao' := by injection he' with he'; injection he' with e1 e2; exact ⟨e1, e2⟩
      have b6 := hcell 8 z6 hz6;have b7 := hcell 9 z7 hz7;have HR4 := Lib.hid (by have := HR3.out; rw [g6, g7] at this; exact this)
      have l7 := z7.toNat_lt;obtain ⟨n6, hn6⟩ : ∃ z, z6.toNat = z := ⟨_, rfl⟩;obtain ⟨n7, hn7⟩ : ∃ z, z7.toNat = z := ⟨_, rfl⟩;rw [hn6] at b6 HR4;rw [hn7] at b7 HR4 l7;clear hz6 hz7 g6 g7 he' hcell hn6 hn7 HR3;by_cases h60 : n6 = 0
      · subst h60;have HK := Lib.hid (fun W (hb : Below w3.heap.size w3 W) => isKind_any n7 W (HLF3.out.below hb))
        obtain ⟨kk, hkk⟩ : ∃ z, decide (kindOk n7) = z := ⟨_, rfl⟩;rw [hkk] at HK;have HKK := Lib.hid hkk;clear hkk;go_upto_region 9 with (fail);go_cut [26] (fun s22 wx => s22 = .bool (!kk) ∧ Below w3.heap.size w3 wx)
        case first =>
         go_wp2_with fail;refine (HK.out _ (Below.refl _ _)).mono ?_;rintro e w4 ⟨rfl, hb4⟩;have HB4 := Lib.hid hb4;clear hb4;go_wp2_with fail
         go_meet
         exact ⟨rfl, HB4.out⟩
        case rest =>
         obtain ⟨rfl, hb4⟩ := hcut;have HB4 := Lib.hid (bup HB3.out hb4);have HI4 := Lib.hid (HI3.out.below hb4);have b7 := (hb4.cell (p := ⟨ab, ao + 9, none⟩) (block_lt_of_cell b7)).trans b7;obtain ⟨w4, hw4⟩ : ∃ w4, wc = w4 := ⟨_, rfl⟩;rw [hw4] at HB4 HI4 b7 ⊢;clear hw4 hb4 b6 HK;cases kk
         · have hmm := of_decide_eq_false HKK.out;have HR5 := Lib.hid (by have := HR4.out; rw [if_pos (.inr hmm)] at this; exact this)
           go_wp2_with fail
           go_ret3
           exact ⟨by rw [← HR5.out]; rfl, HB4.out⟩
         · have hmm := of_decide_eq_true HKK.out;have HR5 := Lib.hid (by have := HR4.out; rw [if_neg (by rintro (h | h); exact h rfl; exact h hmm)] at this; exact this)
           clear hmm;have HN := Lib.hid (fun W (hb : Below w4.heap.size w4 W) => NewReader_any (some ⟨ab, ao + 4, none⟩) 4 (c - 4) _ W ((HI4.out.mid (lo := 4) (hi := 8) (by decide) (by decide)).below hb))
           go_wp2_with fail;refine (HN.out _ (Below.refl _ _)).mono ?_;rintro e w5 ⟨rb, rg, rfl, hr5, hb5, hrb, _⟩;have hab := block_lt_of_cell b7;simp only [] at hab;have b7 := (hb5.cell (p := ⟨ab, ao + 9, none⟩) (block_lt_of_cell b7)).trans b7;have hlen : ((l.drop 4).take (8 - 4)).length = 4 := by have := HL12.out; rw [List.length_take, List.length_drop]; omega
           have hlow := Low_yes rb rg 0 4 _ w5 hr5 (by decide) (by rw [hlen]; decide)
           rw [lowGo_mid l 4 4 4 (Nat.le_refl _), lowGo_eq l 4 4 (by decide)] at hlow
           have hv := lowV_lt l 4 4;have HR6 := Lib.hid (by have := HR5.out; rw [lowGo_eq l 4 4 (by decide)] at this; exact this)
           obtain ⟨v, hvv⟩ : ∃ v, lowV l 4 4 = v := ⟨_, rfl⟩;rw [hvv] at hlow hv HR6;have hv : v ≤ 4294967295 := by omega
           have HLw := Lib.hid hlow;have HB5 := Lib.hid (bup HB4.out hb5);have hb9 : ¬ ab = rb := by omega
           have hbw : w.heap.size ≤ rb := by have := HB4.out.size; omega
           have hwv : IntKind.i64.wrap (v : Int) = (v : Int) := IntWalk.i64_in _ (by omega)
           clear hr5 hb5 hlen hlow hvv HN HR5;go_wp2_with fail;refine HLw.out.mono ?_;rintro e w6 ⟨rfl, _, hf6⟩;have b7 := (hf6.cell (p := ⟨ab, ao + 9, none⟩) (block_lt_of_cell b7) hb9).trans b7;have HB6 := Lib.hid (HB5.out.trans (hf6.below (B := w.heap.size) HB5.out.size (fun k hk => by have hk : k = rb := hk; omega)))
           clear hf6 HLw;go_wp2_with fail
           go_ret3
           refine ⟨?_, HB6.out⟩;rw [← HR6.out];show Ending.returned (.tuple #[.int .i64 _, .int .i64 _, .int .i64 _]) = _;simp
      · have HR5 := Lib.hid (by have := HR4.out; rw [if_pos (.inl h60)] at this; exact this)
        have q1 : ((n6 : Int) != 0) = true := by rw [bne_iff_ne]; omega
        have q2 : (n6 != 0) = true := by rw [bne_iff_ne]; exact h60
        have q3 : ((n6 : Int) == 0) = false := beq_eq_false_iff_ne.2 (by omega)
        have q4 : (n6 == 0) = false := beq_eq_false_iff_ne.2 h60;clear h60 HR4;go_wp2_with fail
        go_ret3
        exact ⟨by rw [← HR5.out]; rfl, HB3.out⟩
structure DlS where
 ring : List UInt8
 at_ : Nat
 out : List UInt8
def dlB (dist : Nat) (x : DlS) (i : Nat) (c : UInt8) : DlS :=
 ⟨x.ring.set x.at_ (c + x.ring.getD ((x.at_ + 256 - dist) % 256) 0), (x.at_ + 1) % 256, x.out.set i (c + x.ring.getD ((x.at_ + 256 - dist) % 256) 0)⟩
def dlN (dist : Nat) (l : List UInt8) : Nat → DlS
 | 0 => ⟨List.replicate 256 0, 0, List.replicate l.length 0⟩
 | k + 1 => dlB dist (dlN dist l k) k (l.getD k 0)
theorem dlN_ok (dist : Nat) (l : List UInt8) (k : Nat) : (dlN dist l k).ring.length = 256 ∧ (dlN dist l k).at_ < 256 ∧ (dlN dist l k).out.length = l.length := by
 induction k with
 | zero => simp [dlN]
 | succ k ih =>
  obtain ⟨h1, h2, h3⟩ := ih;exact ⟨by simp [dlN, dlB, h1], Nat.mod_lt _ (by decide), by simp [dlN, dlB, h3]⟩
def deltaL (dist : Nat) (l : List UInt8) : List UInt8 := (dlN dist l l.length).out
theorem deltaL_len (dist : Nat) (l : List UInt8) : (deltaL dist l).length = l.length := (dlN_ok dist l l.length).2.2
structure Dl (g R dist : Nat) (x : DlS) (w : World) : Prop where
 b : Blk w g 245 (bys x.ring ++ [Value.int .i64 (x.at_ : Int), Value.int .i64 (dist : Int), Value.bool true]).toArray
 o : Blk w R 5 (bys x.out).toArray
theorem Dl.cs {g R dist : Nat} {x : DlS} {w : World} (h : Dl g R dist x w) (hr : x.ring.length = 256) : (∀ j, j < 256 → w.cell? ⟨g, j, none⟩ = some (.int .u8 ((x.ring.getD j 0).toNat : Int))) ∧ w.cell? ⟨g, 256, none⟩ = some (.int .i64 x.at_) ∧ w.cell? ⟨g, 257, none⟩ = some (.int .i64 dist) ∧ w.cell? ⟨g, 258, none⟩ = some (.bool true) := by
 refine ⟨fun j hj => ?_, ?_, ?_, ?_⟩
 · rw [h.b.cell j];simp [bys, List.getElem?_append, hr, hj, List.getD]
 · rw [h.b.cell 256]; simp [bys, List.getElem?_append, hr]
 · rw [h.b.cell 257]; simp [bys, List.getElem?_append, hr]
 · rw [h.b.cell 258]; simp [bys, List.getElem?_append, hr]
theorem Dl.put {g R dist : Nat} {x : DlS} {w : World} (h : Dl g R dist x w) (hr : x.ring.length = 256) (ha : x.at_ < 256) (i : Nat) (p : UInt8) (n : Nat) :
 Dl g R dist ⟨x.ring.set x.at_ p, n, x.out.set i p⟩ (((w.setCell ⟨R, i, none⟩ (.int .u8 (p.toNat : Int))).setCell ⟨g, x.at_, none⟩ (.int .u8 (p.toNat : Int))).setCell ⟨g, 256, none⟩ (.int .i64 (n : Int))).drew := by
 have hne : g ≠ R := BT.ne ⟨_, h.b⟩ ⟨_, h.o⟩ (by decide)
 refine ⟨?_, ?_⟩
 · have := (((h.b.far (p := ⟨R, i, none⟩) hne (.int .u8 (p.toNat : Int))).set_ x.at_ (.int .u8 (p.toNat : Int))).set_ 256 (.int .i64 (n : Int)));have e : ((bys x.ring ++ [Value.int .i64 (x.at_ : Int), Value.int .i64 (dist : Int), Value.bool true]).toArray.setIfInBounds x.at_ (.int .u8 (p.toNat : Int))).setIfInBounds 256 (.int .i64 (n : Int)) = (bys (x.ring.set x.at_ p) ++ [Value.int .i64 (n : Int), Value.int .i64 (dist : Int), Value.bool true]).toArray := by
    rw [List.setIfInBounds_toArray, List.setIfInBounds_toArray, List.set_append_left _ _ (by simp [bys, hr, ha]), List.set_append_right _ _ (by simp [bys, hr])]
    simp [bys, List.map_set, hr]
   rw [e] at this;exact this
 · have := ((h.o.set_ i (.int .u8 (p.toNat : Int))).far (p := ⟨g, x.at_, none⟩) (fun e => hne e.symm) (.int .u8 (p.toNat : Int))).far (p := ⟨g, 256, none⟩) (fun e => hne e.symm) (.int .i64 (n : Int))
   have e : (bys x.out).toArray.setIfInBounds i (.int .u8 (p.toNat : Int)) = (bys (x.out.set i p)).toArray := by simp [bys, List.map_set]
   rw [e] at this;exact this
theorem u8add (a b : UInt8) : IntKind.u8.wrap ((a.toNat : Int) + (b.toNat : Int)) = ((a + b).toNat : Int) := by
 rw [IntKind.wrap_u8, UInt8.toNat_add]; omega
theorem DNext_any (g dist : Nat) (A : Option Addr) (m c : Nat) (l : List UInt8) (w : World) (hb : Blk w g 245 (bys (List.replicate 256 0) ++ [Value.int .i64 0, Value.int .i64 (dist : Int), Value.bool true]).toArray) (hI : In w A m l) (hA : 0 < m → ∀ ad, A = some ad → ad.block ≠ g) (hd : 1 ≤ dist ∧ dist ≤ 256) :
 Calls Tryz.prog 98 #[.pointer (some ⟨g, 0, none⟩), .slice A m c] w fun e w' => ∃ R, e = .returned (.slice (some ⟨R, 0, none⟩) m m) ∧ w.heap.size ≤ R ∧ Blk w' R 5 (bys (deltaL dist l)).toArray ∧ Fr (fun k => k = g) w w' := by
 obtain ⟨i0, hi0, hz0, hz1, hz2⟩ := info_parts infou8;have hm := hI.2.2;have HI := Lib.hid hI;have HL := Lib.hid hI.len;have HA := Lib.hid hA;have HB := Lib.hid hb;have hgl := hb.lt;obtain ⟨hd1, hd2⟩ := hd;clear hI hA hb;go_enter Tryz.func98, Tryz.ntmps98;go_upto_region 2 with (at_make; refine wpList_make_full w rfl (.tmp 11) (.tmp 11) 22 rfl w.heap.size 5 i0 _ 1 Tryz.underlying22 hi0 hz0 hz1 .i64 .i64 m m m rfl rfl rfl rfl (by rw [hz2]; omega) (by unfold maxLen; omega) (Nat.le_refl _) ?_; intro w1 hown1 hg1)
 rw [made_zeros'] at hown1;have hb1 : Below w.heap.size w w1 := (Below.refl _ w).grown hg1 (Nat.le_refl _) (fun g hg => by cases hg)
 have hk1 := (blk_of_own hown1).1;obtain ⟨R, hR⟩ : ∃ R, w.heap.size = R := ⟨_, rfl⟩;rw [hR] at hk1 ⊢;have H0 := Lib.hid (show Dl g R dist (dlN dist l 0) w1 ∧ Fr (fun k => k = g ∨ k = R) w w1 from ⟨⟨HB.out.below hb1, by rw [dlN, HL.out]; exact hk1⟩, Fr.of_below hb1⟩)
 have HR := Lib.hid hR;have hgR : ¬ g = R := by omega
 have hRg : ¬ R = g := by omega
 clear hown1 hg1 hb1 hk1 hR;go_wp2_with fail
 go_loopw [15] (fun s15 wr => ∃ k : Nat, s15 = .int .i64 (k : Int) ∧ k ≤ m ∧ Hid (Dl g R dist (dlN dist l k) wr ∧ Fr (fun k => k = g ∨ k = R) w wr)) (fun s15 _ => m - (intOf s15).toNat)
 case atStart => exact ⟨0, rfl, by omega, H0⟩
 case round =>
  clear H0;obtain ⟨k, rfl, hk, H⟩ := hrel;by_cases hlt : k < m
  · have hlt' : (k : Int) < (m : Int) := by omega
    have hIr := HI.out.fr H.out.2 (fun h0 ad had e => by rcases e with e | e; exact HA.out h0 ad had e; have h1 := HI.out.2.1 h0 ad had; have := HR.out; omega)
    obtain ⟨ab, ao, rfl, hcell⟩ := hIr.1.cells_at (by omega)
    obtain ⟨z, hz⟩ : ∃ z, l[k]? = some z := ⟨_, List.getElem?_eq_getElem (by have := HL.out; omega)⟩
    have b0 := hcell k z hz;have hok := dlN_ok dist l k;have HS := Lib.hid (show dlN dist l (k + 1) = dlB dist (dlN dist l k) k z by rw [dlN]; simp [List.getD, hz])
    obtain ⟨X, hX⟩ : ∃ X, dlN dist l k = X := ⟨_, rfl⟩;rw [hX] at H HS hok;obtain ⟨ring, at_, out⟩ := X;obtain ⟨o1, o2, o3⟩ := hok;simp only [] at o1 o2 o3;obtain ⟨k0, k1, k2, k3⟩ := H.out.1.cs o1;simp only [] at k1;have hq : (at_ + 256 - dist) % 256 < 256 := Nat.mod_lt _ (by decide)
    have c0 := k0 _ hq;simp only [] at c0;have e1 : IntKind.i64.wrap ((at_ : Int) + 256) = (at_ : Int) + 256 := IntWalk.i64_in _ (by omega)
    have e2 : IntKind.i64.wrap ((at_ : Int) + 256 - (dist : Int)) = ((at_ + 256 - dist : Nat) : Int) := by rw [show (at_ : Int) + 256 - (dist : Int) = ((at_ + 256 - dist : Nat) : Int) by omega]; exact IntWalk.i64_in _ (by omega)
    obtain ⟨n1, hn1⟩ : ∃ z, at_ + 256 - dist = z := ⟨_, rfl⟩;rw [hn1] at e2 c0 hq;have HN1 := Lib.hid hn1;have hn1b : n1 ≤ 511 := by omega
    obtain ⟨q, hqq⟩ : ∃ z, n1 % 256 = z := ⟨_, rfl⟩;have hmod : (n1 : Int) % 256 = (q : Int) := by omega
    have htm : Int.tmod (n1 : Int) 256 = (q : Int) := by rw [Int.tmod_eq_emod_of_nonneg (by omega)]; exact hmod
    rw [hqq] at c0 hq;have HQ := Lib.hid hqq;have hq' : (q : Int) < 256 := by omega
    have hq0 : (0 : Int) ≤ (q : Int) := by omega
    have H1 := Lib.hid (show Dl g R dist ⟨ring, at_, out⟩ wr from H.out.1)
    have F1 := Lib.hid H.out.2;obtain ⟨old, hold⟩ : ∃ z, ring.getD q 0 = z := ⟨_, rfl⟩;rw [hold] at c0;have HO := Lib.hid hold;clear hIr hcell hz hX k0 hn1 hqq hold H;go_wp2_with fail
    go_quiet (fail)
    have H2 := Lib.hid (show Dl g R dist ⟨ring, at_, out⟩ (wr.drewN nq) from ⟨H1.out.b.drewN nq, H1.out.o.drewN nq⟩)
    have F2 := Lib.hid (F1.out.drewN nq);obtain ⟨w5, hw5⟩ : ∃ z, wr.drewN nq = z := ⟨_, rfl⟩;rw [hw5] at H2 F2 ⊢;obtain ⟨k0, k1, k2, k3⟩ := H2.out.cs o1;simp only [] at k1;have d0 := (H2.out.o.cell k).trans (bys_at (by rw [o3]; have := HL.out; omega))
    have g0 := H2.out.o.frozen k;have r0 := k0 at_ o2;have g1 := H2.out.b.frozen at_;have g2 := H2.out.b.frozen 256;have ha' : (at_ : Int) < 256 := by omega
    have ha256 : ¬ 256 = at_ := by omega
    have ha256' : ¬ at_ = 256 := by omega
    have e3 := u8add z old;obtain ⟨p, hp⟩ : ∃ p, z + old = p := ⟨_, rfl⟩;rw [hp] at e3;have HP := Lib.hid hp;obtain ⟨zn, hzn⟩ : ∃ n, z.toNat = n := ⟨_, rfl⟩;obtain ⟨on, hon⟩ : ∃ n, old.toNat = n := ⟨_, rfl⟩;obtain ⟨pn, hpn⟩ : ∃ n, p.toNat = n := ⟨_, rfl⟩;have HPN := Lib.hid hpn;rw [hzn, hon, hpn] at e3;rw [hzn, hon];rw [IntKind.wrap_u8] at e3;have hl1 : zn < 256 := by rw [← hzn]; exact z.toNat_lt
    have hl2 : on < 256 := by rw [← hon]; exact old.toNat_lt
    clear hw5 k0 e1 e2 c0 b0 hmod htm hp hzn hon hpn;go_upto_region 11 with (fail)
    go_region
    go_wp2_with fail
    go_roundw
    case rel =>
     refine ⟨k + 1, by go_num, by omega, ?_⟩
     have h1 := H2.out.put o1 o2 k p ((at_ + 1) % 256);rw [HPN.out, show (((at_ + 1) % 256 : Nat) : Int) = ((at_ : Int) + 1) % 256 by omega] at h1
     rw [HS.out];refine Lib.hid ⟨?_, (((F2.out.setCell (.inl (.inr rfl)) _).setCell (.inl (.inl rfl)) _).setCell (.inl (.inl rfl)) _).drew⟩;show Dl g R dist ⟨ring.set at_ (z + ring.getD ((at_ + 256 - dist) % 256) 0), (at_ + 1) % 256, out.set k (z + ring.getD ((at_ + 256 - dist) % 256) 0)⟩ _;rw [HN1.out, HQ.out, HO.out, HP.out];exact h1
    case measure => simp [intOf]; omega
  · obtain rfl : k = m := by omega
    have hlt' : ¬ (k : Int) < (k : Int) := by omega
    have HE := Lib.hid (show (dlN dist l k).out = deltaL dist l by rw [deltaL, HL.out])
    go_wp2_with fail;go_ret;exact ⟨R, rfl, by have := HR.out; omega, by rw [← HE.out]; exact H.out.1.o, ⟨H.out.2.os, H.out.2.tape, H.out.2.output, H.out.2.size, fun j hj hn => H.out.2.block j hj (fun e => by rcases e with e | e; exact hn e; have := HR.out; omega)⟩⟩
theorem z245 (dist : Nat) : ((Tryz.zeroCells245.setIfInBounds 257 (.int .i64 (dist : Int))).setIfInBounds 258 (.bool true)) = (bys (List.replicate 256 0) ++ [Value.int .i64 0, Value.int .i64 (dist : Int), Value.bool true]).toArray := by kernel_rfl
theorem DDecode_any (dist : Nat) (A : Option Addr) (m c : Nat) (l : List UInt8) (w : World) (hI : In w A m l) (hd : 1 ≤ dist ∧ dist ≤ 256) :
 Calls Tryz.prog 115 #[.slice A m c, .int .i64 dist] w fun e w' => ∃ R, e = .returned (.tuple #[.slice (some ⟨R, 0, none⟩) m m, .int .i64 0]) ∧ w.heap.size ≤ R ∧ Blk w' R 5 (bys (deltaL dist l)).toArray ∧ Below w.heap.size w w' := by
 have HI := Lib.hid hI;have h1 : decide ((dist : Int) < 1) = false := decide_eq_false (by omega)
 have h2 : decide ((256 : Int) < (dist : Int)) = false := decide_eq_false (by omega)
 have h3 : decide (256 < dist) = false := decide_eq_false (by omega)
 have h4 : decide (dist < 1) = false := decide_eq_false (by omega)
 have HD := Lib.hid hd;obtain ⟨g, hg⟩ : ∃ g, w.heap.size = g := ⟨_, rfl⟩;have HNew : Calls Tryz.prog 97 #[.int .i64 dist, .bool true] w fun e w' => e = .returned (.tuple #[.pointer (some ⟨g, 0, none⟩), .int .i64 0]) ∧ Blk w' g 245 (bys (List.replicate 256 0) ++ [Value.int .i64 0, Value.int .i64 (dist : Int), Value.bool true]).toArray ∧ Below w.heap.size w w' := by
  have HG := Lib.hid hg;clear hI hd hg;go_enter Tryz.func97, Tryz.ntmps97;go_wp2_with fail
  go_ret2
  exact ⟨by rw [HG.out]; rfl, by rw [← z245]; exact Blk.new_at HG.out.symm, (Below.refl _ _).alloc (Nat.le_refl _) _⟩
 have HN := Lib.hid HNew;have HG := Lib.hid hg;clear HNew hI hd hg h1 h2 h3 h4;have HWh : Calls Tryz.prog 77 #[.slice A m c, .int .i64 dist, .bool true] w fun e w' => ∃ R, e = .returned (.tuple #[.slice (some ⟨R, 0, none⟩) m m, .int .i64 0]) ∧ w.heap.size ≤ R ∧ Blk w' R 5 (bys (deltaL dist l)).toArray ∧ Below w.heap.size w w' := by
  go_enter Tryz.func77, Tryz.ntmps77;go_wp2_with fail;refine HN.out.mono ?_;rintro e w1 ⟨rfl, hb, hbl⟩;have HX := Lib.hid (DNext_any g dist A m c l w1 hb (HI.out.below hbl) (fun h0 ad had => by have := HI.out.2.1 h0 ad had; have := HG.out; omega) HD.out)
  have HB := Lib.hid hbl;clear hb hbl HN;go_wp2_with fail;refine HX.out.mono ?_;rintro e w2 ⟨R, rfl, hR, hk, hf⟩;have H := Lib.hid (And.intro hk (And.intro hf hR));clear hR hk hf HX;go_wp2_with fail
  go_ret2
  exact ⟨R, rfl, by have := H.out.2.2; have := HB.out.size; omega, H.out.1, HB.out.trans (H.out.2.1.below HB.out.size (fun k hk => by have hk : k = g := hk; have := HG.out; omega))⟩
 have HWh := Lib.hid HWh;clear HN HI HD HG;go_enter Tryz.func115, Tryz.ntmps115;go_wp2_with fail;refine HWh.out.mono ?_;rintro e w2 ⟨R, rfl, hR, hk, hf⟩;have H := Lib.hid (And.intro hR (And.intro hk hf));clear hR hk hf HWh;go_wp2_with fail
 go_ret2
 exact ⟨R, rfl, H.out.1, H.out.2.1, H.out.2.2⟩
theorem zeros_any (A : Option Addr) (m c : Nat) (l : List UInt8) (a n : Nat) (w : World) (hI : In w A m l) (hc : m ≤ c) (ha : a ≤ m) (hn : n ≤ 3) :
 Calls Tryz.prog 88 #[.slice A m c, .int .i64 a, .int .i64 n] w fun e w' => e = .returned (.int .i64 (zerosF l a n)) ∧ w' = w := by
 have hm := hI.2.2;have hlm := hI.len;have HI := Lib.hid hI;obtain ⟨r, hr⟩ : ∃ r, zerosF l a n = r := ⟨_, rfl⟩;rw [hr];unfold zerosF at hr;rw [hlm] at hr;have HR := Lib.hid hr;have HL := Lib.hid hlm;have w1 : IntKind.i64.wrap ((m : Int) - (a : Int)) = (m : Int) - (a : Int) := IntWalk.i64_in _ (by omega)
 have w2 : IntKind.i64.wrap ((a : Int) + (n : Int)) = (a : Int) + (n : Int) := IntWalk.i64_in _ (by omega)
 clear hI hlm hr;by_cases hlt : m - a < n
 · have HRr := Lib.hid (by have := HR.out; rw [if_pos hlt] at this; exact this)
   have k1 : (m : Int) - (a : Int) < (n : Int) := by omega
   have k2 : decide ((m : Int) - (a : Int) < (n : Int)) = true := decide_eq_true k1;clear hlt HR;go_enter Tryz.func88, Tryz.ntmps88;go_wp2_with fail;go_ret;exact ⟨by rw [← HRr.out]; rfl, rfl⟩
 · have HR2 := Lib.hid (by have := HR.out; rw [if_neg hlt] at this; exact this)
   have k1 : ¬ (m : Int) - (a : Int) < (n : Int) := by omega
   have k2 : decide ((m : Int) - (a : Int) < (n : Int)) = false := decide_eq_false k1;have y1 : (0 : Int) ≤ (a : Int) := by omega
   have y2 : (a : Int) ≤ (a : Int) + (n : Int) := by omega
   have y3 : (a : Int) + (n : Int) ≤ (c : Int) := by omega
   have y5 : ((a : Int) + (n : Int)).toNat = a + n := by omega
   have y6 : a + n - a = n := by omega
   obtain ⟨A3, hA3⟩ : ∃ z, (if c = a then A else A.map (·.add a)) = z := ⟨_, rfl⟩
   have hi3 := (HI.out.cut (k := a) ha hc).take (k := n) (by omega)
   rw [hA3] at hi3;obtain ⟨s, hs⟩ : ∃ s, (l.drop a).take n = s := ⟨_, rfl⟩;rw [hs] at hi3 HR2;have HI3 := Lib.hid hi3;have HLs := Lib.hid hi3.len;clear hlt HR hi3 hs;go_enter Tryz.func88, Tryz.ntmps88;go_wp2_with fail
   go_loopw [22] (fun s22 wr => ∃ j : Nat, s22 = .int .i64 (j : Int) ∧ j ≤ n ∧ Hid ((s.take j).all (fun z => z == 0) = true) ∧ wr = w) (fun s22 _ => n - (intOf s22).toNat)
   case atStart => exact ⟨0, rfl, by omega, Lib.hid (by simp), rfl⟩
   case round =>
    obtain ⟨j, rfl, hj, HJ, rfl⟩ := hrel;by_cases hjn : j < n
    · have hjn' : (j : Int) < (n : Int) := by omega
      obtain ⟨ab, ao, rfl, hcell⟩ := HI3.out.1.cells_at (by omega)
      obtain ⟨z, hz⟩ : ∃ z, s[j]? = some z := ⟨_, List.getElem?_eq_getElem (by have := HLs.out; omega)⟩
      have b0 := hcell j z hz;have HZ := Lib.hid hz;clear hcell hz;by_cases h0 : z = 0
      · subst h0;go_wp2_with fail
        go_roundw
        case rel => exact ⟨j + 1, by go_num, by omega, Lib.hid (by rw [List.take_add_one, HZ.out, List.all_append, HJ.out]; rfl), trivial⟩
        case measure => simp [intOf]; omega
      · have q1 : ((z.toNat : Int) != 0) = true := by rw [bne_iff_ne]; intro h; exact h0 (UInt8.toNat_inj.1 (by show z.toNat = 0; omega))
        have q2 : ((z.toNat : Int) == 0) = false := beq_eq_false_iff_ne.2 (fun h => h0 (UInt8.toNat_inj.1 (by show z.toNat = 0; omega)))
        have HRr := Lib.hid (by
         have := HR2.out;rw [if_neg (by
          intro h;rw [List.all_eq_true] at h;have := h z (List.mem_of_getElem? HZ.out);exact h0 (by simpa using this))] at this
         exact this)
        obtain ⟨zn, hzn⟩ : ∃ k, z.toNat = k := ⟨_, rfl⟩;rw [hzn] at b0 q1 q2;clear h0 HR2 hzn;go_wp2_with fail;go_ret;exact ⟨by rw [← HRr.out]; rfl, rfl⟩
    · obtain rfl : j = n := by omega
      have hjn' : ¬ (j : Int) < (j : Int) := by omega
      have HRr := Lib.hid (by
       have := HR2.out;have h2 := HJ.out;rw [List.take_of_length_le (by have := HLs.out; omega)] at h2
       rw [if_pos h2] at this;exact this)
      go_wp2_with fail;go_ret;exact ⟨by rw [← HRr.out]; rfl, rfl⟩
end Go.Proofs.YtcjehjdehdoaeaaGreatDoor
