/-
  Laws on the way to the claim (OsD OsE). Conditions: those that each theorem states.
-/
import Derived.Laws.EntriesVeiled
import Derived.Test.YtcjehjdehdoaeaaGreatDoorOm31
import Derived.Test.YtcjehjdehdoaeaaGreatDoorOm32
set_option linter.unusedVariables false
set_option linter.unusedSimpArgs false
set_option maxRecDepth 1000000
set_option maxHeartbeats 16000000
namespace Go.Proofs.YtcjehjdehdoaeaaGreatDoor
open Go.RowKit
def rdC : Array Value := #[.int .u64 3, .bool false, .func (.func 168) #[] #[], .int .u64 33, .bool true, .func (.func 169) #[] #[]]
theorem k1_any (P dist dict : Nat) (b : Nat) (w : World) (h : Blk w P 285 #[.int .i64 dist, .int .i64 dict]) (hb : b ≤ 255) :
 Calls Tryz.prog 168 #[.pointer (some ⟨P, 0, none⟩), .int .u8 b] w fun e w' => e = .returned (.bool (decide (dist = 0))) ∧ Blk w' P 285 #[.int .i64 (b + 1 : Nat), .int .i64 dict] ∧ Fr (fun k => k = P) w w' := by
 have c0 := h.cell 0;have f0 := h.frozen 0;have HB := Lib.hid h;have w1 : IntKind.i64.wrap (b : Int) = (b : Int) := IntWalk.i64_in _ (by omega)
 have w2 : IntKind.i64.wrap ((b : Int) + 1) = (b : Int) + 1 := IntWalk.i64_in _ (by omega)
 clear h;have hr : Hid (Blk (w.setCell ⟨P, 0, none⟩ (.int .i64 ((b : Int) + 1))) P 285 #[.int .i64 (b + 1 : Nat), .int .i64 dict] ∧ Fr (fun k => k = P) w (w.setCell ⟨P, 0, none⟩ (.int .i64 ((b : Int) + 1)))) :=
  Lib.hid ⟨by have := HB.out.set_ 0 (.int .i64 ((b : Int) + 1)); simpa using this, Fr.set1 (Fr.refl _ _) 0 _⟩
 by_cases h0 : dist = 0
 · have hd : ((dist : Int) == 0) = true := beq_iff_eq.2 (by omega)
   rw [decide_eq_true h0];go_enter Tryz.func168, Tryz.ntmps168;go_wp2_with fail;go_ret;exact ⟨rfl, hr.out⟩
 · have hd : ((dist : Int) == 0) = false := beq_eq_false_iff_ne.2 (by omega)
   rw [decide_eq_false h0];go_enter Tryz.func168, Tryz.ntmps168;go_wp2_with fail;go_ret;exact ⟨rfl, hr.out⟩
theorem k2_any (P dist dict : Nat) (b : Nat) (w : World) (h : Blk w P 285 #[.int .i64 dist, .int .i64 dict]) (hb : b ≤ 255) :
 Calls Tryz.prog 169 #[.pointer (some ⟨P, 0, none⟩), .int .u8 b] w fun e w' => e = .returned (.bool (decide (b ≤ 40))) ∧ Blk w' P 285 #[.int .i64 dist, .int .i64 (if b ≤ 40 then dictN b else 0 : Nat)] ∧ Fr (fun k => k = P) w w' := by
 have c1 := h.cell 1;have f1 := h.frozen 1;have HB := Lib.hid h;have HD := Lib.hid (ByteDict_any b w hb);have w1 : IntKind.i64.wrap (b : Int) = (b : Int) := IntWalk.i64_in _ (by omega)
 clear h;obtain ⟨d, hd⟩ : ∃ z, (if b ≤ 40 then dictN b else 0 : Nat) = z := ⟨_, rfl⟩
 rw [hd] at HD ⊢;clear hd;have hr : Hid (Blk (w.setCell ⟨P, 1, none⟩ (.int .i64 (d : Int))) P 285 #[.int .i64 dist, .int .i64 d] ∧ Fr (fun k => k = P) w (w.setCell ⟨P, 1, none⟩ (.int .i64 (d : Int)))) :=
  Lib.hid ⟨by have := HB.out.set_ 1 (.int .i64 (d : Int)); simpa using this, Fr.set1 (Fr.refl _ _) 1 _⟩
 by_cases h0 : b ≤ 40
 · rw [if_pos h0] at HD;rw [decide_eq_true h0];clear h0;go_enter Tryz.func169, Tryz.ntmps169;go_wp2_with fail;refine HD.out.mono ?_;rintro e wz ⟨rfl, hwz⟩;rw [hwz];clear hwz;go_wp2_with fail;go_ret;exact ⟨rfl, hr.out⟩
 · rw [if_neg h0] at HD;rw [decide_eq_false h0];clear h0;go_enter Tryz.func169, Tryz.ntmps169;go_wp2_with fail;refine HD.out.mono ?_;rintro e wz ⟨rfl, hwz⟩;rw [hwz];clear hwz;go_wp2_with fail;go_ret;exact ⟨rfl, hr.out⟩
theorem known_any (w : World) :
 Calls Tryz.prog 141 #[] w fun e w' => e = .returned (.slice (some ⟨w.heap.size, 0, none⟩) 2 2) ∧ w' = w.alloc (.cells rdC 290) := by
 go_enter Tryz.func141, Tryz.ntmps141;go_wp2_with fail;go_ret;exact ⟨rfl, rfl⟩
theorem in_far {w : World} {A : Option Addr} {n g : Nat} {t : TypeId} {cs : Array Value} {l : List UInt8} (h : In w A n l) (h0 : 0 < n) {ad : Addr} (had : A = some ad) (hg : Blk w g t cs) (hcs : ∀ (j : Nat) (v : Value), cs[j]? = some v → (match v with | .int .u8 _ => false | _ => true) = true) : ¬ ad.block = g := by
 intro e;obtain ⟨ab, ao, e1, hcell⟩ := h.1.cells_at h0;rw [had] at e1;injection e1 with e1;subst e1;have e : ab = g := e;subst e;obtain ⟨z, hz⟩ : ∃ z, l[0]? = some z := ⟨_, List.getElem?_eq_getElem (by rw [h.len]; exact h0)⟩
 have h1 := hcell 0 z hz;rw [Nat.add_zero, hg.cell ao] at h1;have := hcs _ _ h1;simp at this
structure KS where
 ok : Bool
 dist : Nat
 dict : Nat
def ksN (id : Nat) (ps : List UInt8) (dist dict : Nat) : Nat → KS
 | 0 => ⟨false, dist, dict⟩
 | 1 => if id = 3 ∧ dict = 0 ∧ ps.length = 1 then ⟨decide (dist = 0), (ps.getD 0 0).toNat + 1, dict⟩ else ⟨false, dist, dict⟩
 | _ + 2 => if id = 33 ∧ dict = 0 ∧ ps.length = 1 then ⟨decide ((ps.getD 0 0).toNat ≤ 40), dist, if (ps.getD 0 0).toNat ≤ 40 then dictN (ps.getD 0 0).toNat else 0⟩ else ksN id ps dist dict 1
theorem ks_plan (id : Nat) (ps : List UInt8) (dist dict : Nat) : planF ⟨dist, dict⟩ (id, ps) = if (ksN id ps dist dict 2).ok = true then some ⟨(ksN id ps dist dict 2).dist, (ksN id ps dist dict 2).dict⟩ else none := by
 unfold planF ksN ksN;simp only [];generalize (ps.getD 0 0).toNat = b;generalize ps.length = L;by_cases h1 : dict = 0
 · by_cases h2 : L = 1
   · subst h1 h2;by_cases h3 : id = 3
     · subst h3;by_cases hd : dist = 0 <;> simp [hd]
     · by_cases h33 : id = 33
       · subst h33;by_cases hb : b ≤ 40 <;> simp [hb]
       · simp [h3, h33]
   · simp [h2]
 · simp [h1]
structure FlsIn (A : Option Addr) (n : Nat) (fl : List (Nat × List UInt8)) (w : World) : Prop where
 len : fl.length = n
 c : ∀ i, i < n → ∃ b o Ai ci, A = some ⟨b, o, none⟩ ∧ w.cell? ⟨b, o + i * 2, none⟩ = some (.int .u64 ((fl.getD i (0, [])).1 : Nat)) ∧ w.cell? ⟨b, o + i * 2 + 1, none⟩ = some (.slice Ai (fl.getD i (0, [])).2.length ci) ∧ In w Ai (fl.getD i (0, [])).2.length (fl.getD i (0, [])).2 ∧ b < w.heap.size ∧ (fl.getD i (0, [])).2.length ≤ ci
theorem FlsIn.below {A : Option Addr} {n : Nat} {fl : List (Nat × List UInt8)} {w w' : World} (h : FlsIn A n fl w) (hb : Below w.heap.size w w') : FlsIn A n fl w' := by
 refine ⟨h.len, fun i hi => ?_⟩
 obtain ⟨b, o, Ai, ci, h1, h2, h3, h4, h5, h6⟩ := h.c i hi;exact ⟨b, o, Ai, ci, h1, (hb.cell (p := ⟨b, o + i * 2, none⟩) h5).trans h2, (hb.cell (p := ⟨b, o + i * 2 + 1, none⟩) h5).trans h3, h4.below hb, Nat.lt_of_lt_of_le h5 hb.size, h6⟩
def RcPost (R : Option Pl) (w : World) (e : Ending) (w' : World) : Prop :=
 Below w.heap.size w w' ∧ match R with
 | none => e = .returned (.tuple #[.int .i64 0, .int .i64 0, .int .i64 4])
 | some p => e = .returned (.tuple #[.int .i64 p.dist, .int .i64 p.dict, .int .i64 0])
theorem Read_any (A : Option Addr) (n c : Nat) (fl : List (Nat × List UInt8)) (w : World) (h : FlsIn A n fl w) (hn : n ≤ 1048576) :
 Calls Tryz.prog 113 #[.slice A n c] w (RcPost (readF fl) w) := by
 obtain ⟨P, hP⟩ : ∃ z, w.heap.size = z := ⟨_, rfl⟩;obtain ⟨w1, hw1⟩ : ∃ z, w.alloc (.cells #[.int .i64 0, .int .i64 0] 285) = z := ⟨_, rfl⟩;have hb1 : Below w.heap.size w w1 := by rw [← hw1]; exact (Below.refl _ _).alloc (Nat.le_refl _) _
 have hk1 : Blk w1 P 285 #[.int .i64 (0 : Nat), .int .i64 (0 : Nat)] := by rw [← hw1]; exact Blk.new_at hP.symm
 obtain ⟨R, hR⟩ : ∃ z, readF fl = z := ⟨_, rfl⟩;have HR : Hid (R = match plansF (fl.drop 0) ⟨0, 0⟩ with | none => none | some p => if p.dict = 0 then none else some p) := Lib.hid hR.symm
 rw [hR];have HW := Lib.hid (And.intro hw1 hP);have HF := Lib.hid (And.intro h hn);have HB := Lib.hid (And.intro hb1 hk1);clear hR h hn hb1 hk1 hw1;go_enter Tryz.func113, Tryz.ntmps113;go_wp2_with fail;rw [HW.out.1]
 go_loopw [13] (fun s13 wr => ∃ i : Nat, s13 = .int .i64 (i : Int) ∧ i ≤ n ∧ Hid (∃ dist dict : Nat, Below w.heap.size w wr ∧ Blk wr P 285 #[.int .i64 dist, .int .i64 dict] ∧ R = match plansF (fl.drop i) ⟨dist, dict⟩ with | none => none | some p => if p.dict = 0 then none else some p)) (fun s13 _ => n - (intOf s13).toNat)
 case atStart => exact ⟨0, rfl, by omega, Lib.hid ⟨0, 0, HB.out.1, HB.out.2, HR.out⟩⟩
 case round =>
  obtain ⟨i, rfl, hi, hj⟩ := hrel;obtain ⟨dist, dict, hb, hk, hg⟩ := hj.out;by_cases hin : i < n
  · have hin' : (i : Int) < (n : Int) := by omega
    obtain ⟨b, o, Ai, ci, rfl, q0, q1, q2, q3, q4⟩ := (HF.out.1.below hb).c i hin;obtain ⟨⟨id, ps⟩, hf⟩ : ∃ z, fl.getD i (0, []) = z := ⟨_, rfl⟩;rw [hf] at q0 q1 q2 q4;simp only [] at q0 q1 q2 q4;have HI := Lib.hid q2;have HIP : Hid (0 < ps.length → ∀ ad, Ai = some ad → ¬ ad.block = P) := Lib.hid (fun h0 ad had => in_far q2 h0 had hk (by intro j v hv; rcases j with _ | _ | j <;> simp at hv <;> subst hv <;> rfl))
    obtain ⟨k, hkk⟩ : ∃ z, ps.length = z := ⟨_, rfl⟩;rw [hkk] at q1 q4;have HK := Lib.hid (And.intro hk hkk);clear q2 hk hkk;obtain ⟨F, hF⟩ : ∃ z, wr.heap.size = z := ⟨_, rfl⟩;obtain ⟨w2, hw2⟩ : ∃ z, wr.alloc (.cells #[.int .u64 id, .slice Ai k ci] 116) = z := ⟨_, rfl⟩;obtain ⟨K, hK⟩ : ∃ z, w2.heap.size = z := ⟨_, rfl⟩;obtain ⟨w3, hw3⟩ : ∃ z, w2.alloc (.cells rdC 290) = z := ⟨_, rfl⟩;have hb2 : Below wr.heap.size wr w2 := by rw [← hw2]; exact (Below.refl _ _).alloc (Nat.le_refl _) _
    have hb3 : Below wr.heap.size wr w3 := by rw [← hw3]; exact hb2.alloc hb2.size _
    have hF3 : Blk w3 F 116 #[.int .u64 id, .slice Ai k ci] := by rw [← hw3, ← hw2]; exact (Blk.new_at hF.symm).alloc _
    have hK3 : Blk w3 K 290 rdC := by rw [← hw3]; exact Blk.new_at hK.symm
    have HW2 := Lib.hid hw2;have HW3 := Lib.hid hw3;have HFK := Lib.hid (And.intro hF hK);have H3 := Lib.hid (And.intro hb3 (And.intro hF3 hK3));have HG := Lib.hid hg;have HBB := Lib.hid hb;clear hF hw2 hK hw3 hb2 hb3 hF3 hK3 hg hb;go_wp2_with fail;rw [HFK.out.1, HW2.out];refine (known_any w2).mono ?_;rintro e wz ⟨rfl, hwz⟩;rw [hwz, HW3.out, HFK.out.2];clear hwz;go_wp2_with fail
    go_loopw [19, 8] (fun s19 s8 wq => ∃ (j : Nat) (ks : KS), s19 = .int .i64 (j : Int) ∧ j ≤ 2 ∧ s8 = .bool ks.ok ∧ Hid (ks = ksN id ps dist dict j ∧ Blk wq P 285 #[.int .i64 ks.dist, .int .i64 ks.dict] ∧ Fr (fun g => g = P) w3 wq)) (fun s19 _ _ => 2 - (intOf s19).toNat)
    case atStart => exact ⟨0, ⟨false, dist, dict⟩, rfl, by omega, rfl, Lib.hid ⟨by simp [ksN], HK.out.1.below H3.out.1, Fr.refl _ _⟩⟩
    case round =>
     obtain ⟨j, ks, rfl, hj2, rfl, hrel⟩ := hrel;obtain ⟨hks, hkp, hkf⟩ := hrel.out;have hPK : ¬ (K = P) := fun e => BT.ne (w := w3) ⟨_, H3.out.2.2⟩ ⟨_, HK.out.1.below H3.out.1⟩ (by decide) e
     have hPF : ¬ (F = P) := fun e => BT.ne (w := w3) ⟨_, H3.out.2.1⟩ ⟨_, HK.out.1.below H3.out.1⟩ (by decide) e
     have hKq := H3.out.2.2.fr hkf hPK;have hFq := H3.out.2.1.fr hkf hPF;have HQ := Lib.hid (And.intro hks (And.intro hkp (And.intro hkf (And.intro hKq hFq))));have p0 := hkp.cell 0;have p1 := hkp.cell 1;have fc0 := hFq.cell 0;have fc1 := hFq.cell 1;have r0 : World.cell? _ ⟨K, 0, none⟩ = some (.int .u64 3) := hKq.cell 0;have r1 : World.cell? _ ⟨K, 1, none⟩ = some (.bool false) := hKq.cell 1;have r2 : World.cell? _ ⟨K, 2, none⟩ = some (.func (.func 168) #[] #[]) := hKq.cell 2
     have r3 : World.cell? _ ⟨K, 3, none⟩ = some (.int .u64 33) := hKq.cell 3;have r4 : World.cell? _ ⟨K, 4, none⟩ = some (.bool true) := hKq.cell 4;have r5 : World.cell? _ ⟨K, 5, none⟩ = some (.func (.func 169) #[] #[]) := hKq.cell 5;clear hks hkp hkf hKq hFq hrel hPK hPF;by_cases hj : j < 2
     · have hj' : (j : Int) < 2 := by omega
       by_cases hj0 : j = 0
       · subst hj0;clear p0 p1 fc0 fc1;by_cases h3 : id = 3
         · have e0 : ks = ⟨false, dist, dict⟩ := by rw [HQ.out.1]; simp [ksN, h3]
           have HKX := Lib.hid (show (⟨false, dist, dict⟩ : KS) = ksN id ps dist dict 0 by rw [← e0]; exact HQ.out.1)
           rw [e0] at HQ ⊢;clear e0;obtain ⟨KB, hKB⟩ : ∃ z, wr.heap.size = z := ⟨_, rfl⟩;obtain ⟨w5, hw5⟩ : ∃ z, wr.alloc (.cells #[.int .u64 3, .bool false, .func (.func 168) #[] #[]] 290) = z := ⟨_, rfl⟩;have hb5 : Below wr.heap.size wr w5 := by rw [← hw5]; exact (Below.refl _ _).alloc (Nat.le_refl _) _
           have hk5 : Blk w5 KB 290 #[.int .u64 3, .bool false, .func (.func 168) #[] #[]] := by rw [← hw5]; exact Blk.new_at hKB.symm
           have hp5 := HQ.out.2.1.below hb5;have hf5 := HQ.out.2.2.2.2.below hb5;have p0 := hp5.cell 0;have p1 := hp5.cell 1;have fc0 := hf5.cell 0;have fc1 := hf5.cell 1;have k0 := hk5.cell 0;have k1 := hk5.cell 1;have k2 := hk5.cell 2;try simp only [] at p0 p1
           have HW5 := Lib.hid (And.intro hKB hw5);have H5 := Lib.hid (And.intro hb5 (And.intro hk5 (And.intro hp5 hf5)));have HKS := Lib.hid HQ.out.1;clear hb5 hk5 hp5 hf5 hKB hw5;go_upto_region 9 with (fail);rw [HW5.out.1, HW5.out.2];clear r0 r1 r2 r3 r4 r5;have g3 : ((3 : Int) == (id : Int)) = true := beq_iff_eq.2 (by omega)
           have H3 := Lib.hid (And.intro h3 (And.intro H3.out HKX.out));clear h3;by_cases hd0 : dict = 0
           · have gd : ((dict : Int) == 0) = true := beq_iff_eq.2 (by omega)
             have HD0 := Lib.hid hd0;clear hd0;by_cases hk1 : k = 1
             · have gk : ((k : Int) == 1) = true := beq_iff_eq.2 (by omega)
               obtain ⟨z, hz⟩ : ∃ z, ps = [z] := List.length_eq_one_iff.1 (by rw [HK.out.2]; exact hk1)
               have hz8 : z.toNat ≤ 255 := by have := z.toNat_lt; omega
               have HI5 := Lib.hid ((HI.out.below H3.out.2.1.1).fr HQ.out.2.2.1 (fun h0 ad e h => HIP.out h0 ad e h))
               obtain ⟨ab, ao, hAi, hcell⟩ := (HI5.out.below H5.out.1).1.cells_at (by have := HK.out.2; omega)
               have b0 : w5.cell? ⟨ab, ao, none⟩ = some (.int .u8 (z.toNat : Int)) := hcell 0 z (by rw [hz]; rfl)
               have HZ := Lib.hid hz;subst hAi;subst hk1;clear hcell hz;have HKN := Lib.hid (k1_any P dist dict z.toNat w5.drew (H5.out.2.2.1.same rfl) hz8);go_upto_region 10 with (fail);go_region_with (first | (go_at_call 168; refine HKN.out.mono ?_; rintro e w6 ⟨rfl, hk6, hf6⟩))
               all_goals
                go_wp2_with fail
                go_roundw
                case rel => exact ⟨1, ⟨decide (dist = 0), z.toNat + 1, dict⟩, rfl, by omega, rfl, Lib.hid ⟨by rw [HZ.out]; simp [ksN, H3.out.1, HD0.out], hk6, (HQ.out.2.2.1.of_below' H5.out.1).drew.trans hf6⟩⟩
                case measure => simp [intOf]
             · have gk : ((k : Int) == 1) = false := beq_eq_false_iff_ne.2 (by omega)
               have HK1 := Lib.hid (show ¬ ps.length = 1 by rw [HK.out.2]; exact hk1)
               clear hk1;go_wp2_with fail;exact ⟨⟨1, _, rfl, by omega, rfl, Lib.hid ⟨by simp [ksN, HK1.out], H5.out.2.2.1, HQ.out.2.2.1.of_below' H5.out.1⟩⟩, by simp [intOf]⟩
           · have gd : ((dict : Int) == 0) = false := beq_eq_false_iff_ne.2 (by omega)
             have HD0 := Lib.hid hd0;clear hd0;go_wp2_with fail;exact ⟨⟨1, _, rfl, by omega, rfl, Lib.hid ⟨by simp [ksN, HD0.out], H5.out.2.2.1, HQ.out.2.2.1.of_below' H5.out.1⟩⟩, by simp [intOf]⟩
         · have HN3 := Lib.hid h3;obtain ⟨KB, hKB⟩ : ∃ z, wr.heap.size = z := ⟨_, rfl⟩;obtain ⟨w5, hw5⟩ : ∃ z, wr.alloc (.cells #[.int .u64 3, .bool false, .func (.func 168) #[] #[]] 290) = z := ⟨_, rfl⟩;have hb5 : Below wr.heap.size wr w5 := by rw [← hw5]; exact (Below.refl _ _).alloc (Nat.le_refl _) _
           have hk5 : Blk w5 KB 290 #[.int .u64 3, .bool false, .func (.func 168) #[] #[]] := by rw [← hw5]; exact Blk.new_at hKB.symm
           have hp5 := HQ.out.2.1.below hb5;have hf5 := HQ.out.2.2.2.2.below hb5;have p0 := hp5.cell 0;have p1 := hp5.cell 1;have fc0 := hf5.cell 0;have fc1 := hf5.cell 1;have k0 := hk5.cell 0;have k1 := hk5.cell 1;have k2 := hk5.cell 2;try simp only [] at p0 p1
           have HW5 := Lib.hid (And.intro hKB hw5);have H5 := Lib.hid (And.intro hb5 (And.intro hk5 (And.intro hp5 hf5)));have HKS := Lib.hid HQ.out.1;clear hb5 hk5 hp5 hf5 hKB hw5;go_upto_region 9 with (fail);rw [HW5.out.1, HW5.out.2];clear r0 r1 r2 r3 r4 r5;have g3 : ((3 : Int) == (id : Int)) = false := beq_eq_false_iff_ne.2 (by omega)
           clear h3;go_wp2_with fail;exact ⟨⟨1, ks, rfl, by omega, rfl, Lib.hid ⟨by rw [HKS.out]; simp [ksN, HN3.out], H5.out.2.2.1, HQ.out.2.2.1.of_below' H5.out.1⟩⟩, by simp [intOf]⟩
       · obtain rfl : j = 1 := by omega
         clear p0 p1 fc0 fc1 hj0;by_cases h3 : id = 33
         · have e0 : ks = ⟨false, dist, dict⟩ := by rw [HQ.out.1]; simp [ksN, h3]
           have HKX := Lib.hid (show (⟨false, dist, dict⟩ : KS) = ksN id ps dist dict 1 by rw [← e0]; exact HQ.out.1)
           rw [e0] at HQ ⊢;clear e0;obtain ⟨KB, hKB⟩ : ∃ z, wr.heap.size = z := ⟨_, rfl⟩;obtain ⟨w5, hw5⟩ : ∃ z, wr.alloc (.cells #[.int .u64 33, .bool true, .func (.func 169) #[] #[]] 290) = z := ⟨_, rfl⟩;have hb5 : Below wr.heap.size wr w5 := by rw [← hw5]; exact (Below.refl _ _).alloc (Nat.le_refl _) _
           have hk5 : Blk w5 KB 290 #[.int .u64 33, .bool true, .func (.func 169) #[] #[]] := by rw [← hw5]; exact Blk.new_at hKB.symm
           have hp5 := HQ.out.2.1.below hb5;have hf5 := HQ.out.2.2.2.2.below hb5;have p0 := hp5.cell 0;have p1 := hp5.cell 1;have fc0 := hf5.cell 0;have fc1 := hf5.cell 1;have k0 := hk5.cell 0;have k1 := hk5.cell 1;have k2 := hk5.cell 2;try simp only [] at p0 p1
           have HW5 := Lib.hid (And.intro hKB hw5);have H5 := Lib.hid (And.intro hb5 (And.intro hk5 (And.intro hp5 hf5)));have HKS := Lib.hid HQ.out.1;clear hb5 hk5 hp5 hf5 hKB hw5;go_upto_region 9 with (fail);rw [HW5.out.1, HW5.out.2];clear r0 r1 r2 r3 r4 r5;have g3 : ((33 : Int) == (id : Int)) = true := beq_iff_eq.2 (by omega)
           have H3 := Lib.hid (And.intro h3 (And.intro H3.out HKX.out));clear h3;by_cases hd0 : dict = 0
           · have gd : ((dict : Int) == 0) = true := beq_iff_eq.2 (by omega)
             have HD0 := Lib.hid hd0;clear hd0;by_cases hk1 : k = 1
             · have gk : ((k : Int) == 1) = true := beq_iff_eq.2 (by omega)
               obtain ⟨z, hz⟩ : ∃ z, ps = [z] := List.length_eq_one_iff.1 (by rw [HK.out.2]; exact hk1)
               have hz8 : z.toNat ≤ 255 := by have := z.toNat_lt; omega
               have HI5 := Lib.hid ((HI.out.below H3.out.2.1.1).fr HQ.out.2.2.1 (fun h0 ad e h => HIP.out h0 ad e h))
               obtain ⟨ab, ao, hAi, hcell⟩ := (HI5.out.below H5.out.1).1.cells_at (by have := HK.out.2; omega)
               have b0 : w5.cell? ⟨ab, ao, none⟩ = some (.int .u8 (z.toNat : Int)) := hcell 0 z (by rw [hz]; rfl)
               have HZ := Lib.hid hz;subst hAi;subst hk1;clear hcell hz;have HKN := Lib.hid (k2_any P dist dict z.toNat w5.drew (H5.out.2.2.1.same rfl) hz8);go_upto_region 10 with (fail);go_region_with (first | (go_at_call 169; refine HKN.out.mono ?_; rintro e w6 ⟨rfl, hk6, hf6⟩))
               all_goals
                go_wp2_with fail
                go_roundw
                case rel => exact ⟨2, ⟨decide (z.toNat ≤ 40), dist, if z.toNat ≤ 40 then dictN z.toNat else 0⟩, rfl, by omega, rfl, Lib.hid ⟨by rw [HZ.out]; simp [ksN, H3.out.1, HD0.out], hk6, (HQ.out.2.2.1.of_below' H5.out.1).drew.trans hf6⟩⟩
                case measure => simp [intOf]
             · have gk : ((k : Int) == 1) = false := beq_eq_false_iff_ne.2 (by omega)
               have HK1 := Lib.hid (show ¬ ps.length = 1 by rw [HK.out.2]; exact hk1)
               clear hk1;go_wp2_with fail;exact ⟨⟨2, _, rfl, by omega, rfl, Lib.hid ⟨by simp [ksN, HK1.out], H5.out.2.2.1, HQ.out.2.2.1.of_below' H5.out.1⟩⟩, by simp [intOf]⟩
           · have gd : ((dict : Int) == 0) = false := beq_eq_false_iff_ne.2 (by omega)
             have HD0 := Lib.hid hd0;clear hd0;go_wp2_with fail;exact ⟨⟨2, _, rfl, by omega, rfl, Lib.hid ⟨by simp [ksN, HD0.out], H5.out.2.2.1, HQ.out.2.2.1.of_below' H5.out.1⟩⟩, by simp [intOf]⟩
         · have HN3 := Lib.hid h3;obtain ⟨KB, hKB⟩ : ∃ z, wr.heap.size = z := ⟨_, rfl⟩;obtain ⟨w5, hw5⟩ : ∃ z, wr.alloc (.cells #[.int .u64 33, .bool true, .func (.func 169) #[] #[]] 290) = z := ⟨_, rfl⟩;have hb5 : Below wr.heap.size wr w5 := by rw [← hw5]; exact (Below.refl _ _).alloc (Nat.le_refl _) _
           have hk5 : Blk w5 KB 290 #[.int .u64 33, .bool true, .func (.func 169) #[] #[]] := by rw [← hw5]; exact Blk.new_at hKB.symm
           have hp5 := HQ.out.2.1.below hb5;have hf5 := HQ.out.2.2.2.2.below hb5;have p0 := hp5.cell 0;have p1 := hp5.cell 1;have fc0 := hf5.cell 0;have fc1 := hf5.cell 1;have k0 := hk5.cell 0;have k1 := hk5.cell 1;have k2 := hk5.cell 2;try simp only [] at p0 p1
           have HW5 := Lib.hid (And.intro hKB hw5);have H5 := Lib.hid (And.intro hb5 (And.intro hk5 (And.intro hp5 hf5)));have HKS := Lib.hid HQ.out.1;clear hb5 hk5 hp5 hf5 hKB hw5;go_upto_region 9 with (fail);rw [HW5.out.1, HW5.out.2];clear r0 r1 r2 r3 r4 r5;have g3 : ((33 : Int) == (id : Int)) = false := beq_eq_false_iff_ne.2 (by omega)
           clear h3;go_wp2_with fail;exact ⟨⟨2, ks, rfl, by omega, rfl, Lib.hid ⟨by rw [HKS.out]; simp [ksN, HN3.out], H5.out.2.2.1, HQ.out.2.2.1.of_below' H5.out.1⟩⟩, by simp [intOf]⟩
     · obtain rfl : j = 2 := by omega
       have hpl := ks_plan id ps dist dict;rw [← HQ.out.1] at hpl;have hdrop : fl.drop i = (id, ps) :: fl.drop (i + 1) := by
        have hlen := HF.out.1.len;rw [List.drop_eq_getElem_cons (by omega), ← hf]
        simp [List.getD, show i < fl.length by omega]
       have HBq := Lib.hid ((HBB.out.trans (H3.out.1.mono HBB.out.size)).trans (HQ.out.2.2.1.below (Nat.le_trans HBB.out.size H3.out.1.size) (fun k hk => by have hk : k = P := hk; have := HW.out.2; omega)))
       obtain ⟨ko, kd, kc⟩ := ks;have HGr := Lib.hid (by have := HG.out; rw [hdrop] at this; simp only [plansF] at this; rw [hpl] at this; exact this)
       clear hpl hdrop p0 p1 fc0 fc1 r0 r1 r2 r3 r4 r5;cases ko
       · have HRn := Lib.hid (show R = none by rw [HGr.out]; rfl)
         go_wp2_with fail;refine bodyPost_ret (v := .tuple #[.int .i64 0, .int .i64 0, .int .i64 4]) (by simp [results, Tryz.results113, go_sem]) rfl ?_
         exact ⟨HBq.out, by rw [HRn.out]⟩
       · have hn6 := HF.out.2;have HRs := Lib.hid (show R = match plansF (fl.drop (i + 1)) ⟨kd, kc⟩ with | none => none | some p => if p.dict = 0 then none else some p by rw [HGr.out]; rfl)
         go_wp2_with fail
         go_roundw
         case rel => exact ⟨i + 1, by go_num, by omega, Lib.hid ⟨kd, kc, HBq.out, HQ.out.2.1, HRs.out⟩⟩
         case measure => simp [intOf]; omega
  · obtain rfl : i = n := by omega
    have hin' : ¬ (i : Int) < (i : Int) := by omega
    have p0 := hk.cell 0;have p1 := hk.cell 1;have d0 := hk.drew.cell 0;have d1 := hk.drew.cell 1;have HBB := Lib.hid hb;have hg2 : R = if dict = 0 then none else some ⟨dist, dict⟩ := by rw [hg, List.drop_of_length_le (by have := HF.out.1.len; omega)]; rfl
    have HG := Lib.hid hg2;clear hg hg2 hb hk hj;by_cases hd : dict = 0
    · have gd : ((dict : Int) == 0) = true := beq_iff_eq.2 (by omega)
      have HRn := Lib.hid (show R = none by rw [HG.out, if_pos hd])
      clear hd;go_wp2_with fail;refine bodyPost_ret (v := .tuple #[.int .i64 0, .int .i64 0, .int .i64 4]) (by simp [results, Tryz.results113, go_sem]) rfl ?_
      exact ⟨HBB.out, by rw [HRn.out]⟩
    · have gd : ((dict : Int) == 0) = false := beq_eq_false_iff_ne.2 (by omega)
      have HRn := Lib.hid (show R = some ⟨dist, dict⟩ by rw [HG.out, if_neg hd])
      clear hd;go_wp2_with fail
      go_region
      go_wp2_with fail;refine bodyPost_ret (v := .tuple #[.int .i64 dist, .int .i64 dict, .int .i64 0]) (by simp [results, Tryz.results113, go_sem]) rfl ?_
      exact ⟨HBB.out.drew, by rw [HRn.out]⟩
theorem rowGo_out (l : List UInt8) (packed size : Int) (dict : Nat) : ∀ (f : Nat) (s : RwS) (st : Lst), s.at_ ≤ l.length → st.out.length ≤ s.at_ * 2097152 → (rowGo l packed size dict f s st).out.length ≤ l.length * 2097152 := by
 intro f;induction f with
 | zero => intro s st _ _; simp [rowGo]
 | succ f ih =>
  intro s st hs ho;unfold rowGo;split
  · exact Nat.le_trans ho (Nat.mul_le_mul_right _ hs)
  split
  · simp
  rename_i h1;have h1 : (nextF l packed size s).e = 0 := by omega
  obtain ⟨k1, k2, k3, k4, k5, k6⟩ := nextF_ok l packed size s hs h1;split
  · simp
  · rename_i st' hc;have hb := ckF_bd (l.drop s.at_);have hk := ck_ok (l.drop s.at_) k6;rw [← k4] at hb hk;have := chunkF_len hc (fun h => by rw [List.length_take, List.length_drop, hk.2.2.1 h]; omega)
    exact ih _ _ k3 (by omega)
theorem rowF_out (l : List UInt8) (dict : Nat) (packed size : Int) : (rowF l dict packed size).out.length ≤ l.length * 2097152 := rowGo_out _ _ _ _ _ .start .start (Nat.zero_le _) (by simp [Lst.start])
theorem dictN_le {b : Nat} (h : b ≤ 40) : dictN b ≤ 4294967295 := by
 have : ∀ i : Fin 41, dictN i.val ≤ 4294967295 := by decide +kernel
 exact this ⟨b, by omega⟩
theorem plansF_bd : ∀ (l : List (Nat × List UInt8)) (p q : Pl), plansF l p = some q → p.dist ≤ 256 → p.dict ≤ 4294967295 → q.dist ≤ 256 ∧ q.dict ≤ 4294967295 := by
 intro l;induction l with
 | nil => intro p q h h1 h2; simp [plansF] at h; subst h; exact ⟨h1, h2⟩
 | cons f t ih =>
  intro p q h h1 h2;unfold plansF at h;split at h
  · simp at h
  · rename_i r hr;unfold planF at hr;have h8 := (f.2.getD 0 0).toNat_lt;split at hr
    · split at hr
      · split at hr
        · injection hr with hr; subst hr; exact ih _ _ h (by show _ + 1 ≤ 256; omega) (Nat.zero_le _)
        · simp at hr
      · split at hr
        · split at hr
          · rename_i h40;injection hr with hr; subst hr; exact ih _ _ h h1 (dictN_le h40)
          · simp at hr
        · simp at hr
    · simp at hr
theorem readF_bd {l : List (Nat × List UInt8)} {p : Pl} (h : readF l = some p) : p.dist ≤ 256 ∧ 1 ≤ p.dict ∧ p.dict ≤ 4294967295 := by
 unfold readF at h;split at h
 · simp at h
 · rename_i q hq;split at h
   · simp at h
   · rename_i h0;injection h with h; subst h;have := plansF_bd _ _ _ hq (Nat.zero_le _) (Nat.zero_le _);exact ⟨this.1, by omega, this.2⟩
theorem dataF_out (S : Sums) (hd : S.dl = deltaL) (b : List UInt8) (p : Pl) (packed size : Int) : (dataF S b p packed size).out.length ≤ b.length * 2097152 := by
 unfold dataF;split
 · exact rowF_out _ _ _ _
 · rw [hd];show (deltaL _ _).length ≤ _;rw [deltaL_len];exact rowF_out _ _ _ _
def CdPost (R : RowR) (w : World) (e : Ending) (w' : World) : Prop :=
 Below w.heap.size w w' ∧ if R.e = 0 then ∃ A' c', e = .returned (.tuple #[.slice A' R.out.length c', .int .i64 R.n, .int .i64 0]) ∧ In w' A' R.out.length R.out ∧ ∀ ad, A' = some ad → w.heap.size ≤ ad.block
  else e = .returned (.tuple #[.slice none 0 0, .int .i64 R.n, .int .i64 R.e])
theorem CDecode_any (S : Sums) (hS : S.dl = deltaL) (A : Option Addr) (m c : Nat) (l : List UInt8) (mem packed size : Int) (Fl : Option Addr) (n fc : Nat) (fl : List (Nat × List UInt8)) (p : Pl) (w : World)
 (hI : In w A m l) (hc : m ≤ c) (hA : ∀ ad, A = some ad → ad.block < w.heap.size) (hl : Laid w) (hM : LaidM w) (hm : m ≤ 1048576) (hr : readF fl = some p) (hmem : (p.dict : Int) ≤ mem) (hF : FlsIn Fl n fl w) (hn : n ≤ 1048576) (hp : -1 ≤ packed) (hs : -1 ≤ size) :
 Calls Tryz.prog 87 #[.slice A m c, .int .i64 mem, .int .i64 packed, .int .i64 size, .slice Fl n fc] w (CdPost (dataF S l p packed size) w) := by
 have hbd := readF_bd hr;have HRd := Lib.hid (Read_any Fl n fc fl w hF hn);rw [hr] at HRd;have hout := rowF_out l p.dict packed size;have hlm := hI.len;have HDec : Hid (∀ w1, Below w.heap.size w w1 → Calls Tryz.prog 114 #[.slice A m c, .int .i64 p.dict, .int .i64 packed, .int .i64 size] w1 (DePost (rowF l p.dict packed size) w1)) :=
  Lib.hid (fun w1 hb => Decode_any p.dict A m c l packed size w1 (hI.below hb) hc (fun ad e => Nat.lt_of_lt_of_le (hA ad e) hb.size) (hl.low hb hl.1) (hM.low hb hM.1) hm hbd.2.1 hbd.2.2 hp hs)
 obtain ⟨dist, dict⟩ := p;unfold dataF;rw [hS];simp only [] at *;obtain ⟨RR, hRR⟩ : ∃ z, rowF l dict packed size = z := ⟨_, rfl⟩;rw [hRR] at HDec hout ⊢;obtain ⟨rn, re, ro⟩ := RR;simp only [] at hout ⊢;obtain ⟨X, hX⟩ : ∃ z, (if re ≠ 0 ∨ dist = 0 then (⟨rn, re, ro⟩ : RowR) else ⟨rn, 0, deltaL dist ro⟩) = z := ⟨_, rfl⟩
 rw [hX];have HX := Lib.hid hX;have HO := Lib.hid (show ro.length ≤ 140737488351232 by omega)
 have HD := Lib.hid hbd.1;have k1 : decide (mem < (dict : Int)) = false := decide_eq_false (by omega)
 have k2 : ¬ mem < (dict : Int) := by omega
 clear hI hc hA hl hM hm hr hmem hF hn hp hs hbd hRR hout hlm hX;go_enter Tryz.func87, Tryz.ntmps87;go_wp2_with fail;refine HRd.out.mono ?_;rintro e w1 ⟨hb1, rfl⟩;have HB1 := Lib.hid hb1;have HD1 := Lib.hid (HDec.out w1 hb1);clear hb1 HRd;go_wp2_with fail;refine HD1.out.mono ?_;rintro e w2 ⟨hb2, he⟩;have HB2 := Lib.hid (bup HB1.out hb2);have HE := Lib.hid he;clear hb2 he HD1;by_cases h0 : re = 0
 · subst h0;obtain ⟨A', c', he, ho⟩ := (show ∃ A' c', e = .returned (.tuple #[.slice A' ro.length c', .int .i64 rn, .int .i64 0]) ∧ w2.ownsRow w1.heap.size 5 1 (.slice A' ro.length c') ro.length (bys ro) by have := HE.out; rw [if_pos rfl] at this; exact this)
   subst he;have HI := Lib.hid (in_own ho HO.out);have HFh := Lib.hid (fun ad (had : A' = some ad) => Nat.le_trans HB1.out.size (own_lt ho (own_addr ho had)).1)
   clear ho HE;obtain ⟨k, hk⟩ : ∃ z, ro.length = z := ⟨_, rfl⟩;have HK := Lib.hid hk;rw [hk] at HI;by_cases hd : dist = 0
   · subst hd;have hx : (⟨rn, 0, ro⟩ : RowR) = X := by have := HX.out; rw [if_pos (Or.inr rfl)] at this; exact this
     have HY := Lib.hid hx;rw [hk];clear hk hx;go_wp2_with fail;refine bodyPost_ret (v := .tuple #[.slice A' k c', .int .i64 rn, .int .i64 0]) (by simp [results, Tryz.results87, go_sem]) rfl ?_
     refine ⟨HB2.out, ?_⟩;rw [← HY.out, if_pos rfl];exact ⟨A', c', by rw [← HK.out], by rw [HK.out]; exact HI.out, HFh.out⟩
   · have hx : (⟨rn, 0, deltaL dist ro⟩ : RowR) = X := by have := HX.out; rw [if_neg (by simp [hd])] at this; exact this
     have HY := Lib.hid hx;have HDl := Lib.hid (DDecode_any dist A' k c' ro w2 HI.out ⟨by omega, HD.out⟩)
     have g1 : ((dist : Int) == 0) = false := beq_eq_false_iff_ne.2 (by omega)
     have g2 : (dist == 0) = false := beq_eq_false_iff_ne.2 hd;rw [hk];clear hd hk hx;go_wp2_with fail;refine HDl.out.mono ?_;rintro e w3 ⟨R, rfl, hR, hk3, hb3⟩;have H3 := Lib.hid (And.intro hk3 (And.intro hb3 hR));clear hR hk3 hb3 HDl;go_wp2_with fail;refine bodyPost_ret (v := .tuple #[.slice (some ⟨R, 0, none⟩) k k, .int .i64 rn, .int .i64 0]) (by simp [results, Tryz.results87, go_sem]) rfl ?_
     refine ⟨bup HB2.out H3.out.2.1, ?_⟩;rw [← HY.out, if_pos rfl];have hl2 : (deltaL dist ro).length = k := by rw [deltaL_len]; exact HK.out
     have := in_blk H3.out.1 (by rw [hl2]; have := HO.out; have := HK.out; omega)
     exact ⟨some ⟨R, 0, none⟩, k, by rw [hl2], this, fun ad had => by injection had with had; rw [← had]; exact Nat.le_trans HB2.out.size H3.out.2.2⟩
 · have he := (show e = .returned (.tuple #[.slice none 0 0, .int .i64 rn, .int .i64 re]) by have := HE.out; rw [if_neg h0] at this; exact this)
   subst he;have hx : (⟨rn, re, ro⟩ : RowR) = X := by have := HX.out; rw [if_pos (Or.inl h0)] at this; exact this
   have HY := Lib.hid hx;have q1 : ((re : Int) != 0) = true := by rw [bne_iff_ne]; omega
   have q2 : (re != 0) = true := by rw [bne_iff_ne]; exact h0
   have q3 : ((re : Int) == 0) = false := beq_eq_false_iff_ne.2 (by omega)
   have q4 : (re == 0) = false := beq_eq_false_iff_ne.2 h0;have H0 := Lib.hid h0;clear h0 HE hx;go_wp2_with fail;refine bodyPost_ret (v := .tuple #[.slice none 0 0, .int .i64 rn, .int .i64 re]) (by simp [results, Tryz.results87, go_sem]) rfl ?_
   refine ⟨HB2.out, ?_⟩;rw [← HY.out, if_neg H0.out]
end Go.Proofs.YtcjehjdehdoaeaaGreatDoor
