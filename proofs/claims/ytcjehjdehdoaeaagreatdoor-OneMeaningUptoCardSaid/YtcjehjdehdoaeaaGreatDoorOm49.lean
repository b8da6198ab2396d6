/-
  Laws on the way to the claim (OuS OvA OvB). Conditions: those that each theorem states.
-/
import Derived.Test.YtcjehjdehdoaeaaGreatDoorOm48
import Derived.Test.YtcjehjdehdoaeaaGreatDoorOm42
import Derived.Test.YtcjehjdehdoaeaaGreatDoorOm03
set_option linter.unusedVariables false
set_option linter.unusedSimpArgs false
set_option maxRecDepth 1000000
set_option maxHeartbeats 16000000
namespace Go.Proofs.YtcjehjdehdoaeaaGreatDoor
open Go.RowKit
def unpN (S : Sums) (c : Cfg) (row : List UInt8 → List UInt8) (d : List UInt8) : Nat := (hdP S (filsP c)).length + (row d).length + (S.sum c.ck d).length
def encGo (S : Sums) (c : Cfg) (row : List UInt8 → List UInt8) : Nat → List UInt8 → List UInt8 → List (Nat × Nat) → List UInt8 × List (Nat × Nat)
 | 0, _, f, l => (f, l)
 | k + 1, d, f, l =>
  if d.length = 0 then (f, l)
  else encGo S c row k (d.drop (min d.length c.blk)) (f ++ blP S c (row (d.take (min d.length c.blk))) (d.take (min d.length c.blk))) (l ++ [(unpN S c row (d.take (min d.length c.blk)), min d.length c.blk)])
def encF (S : Sums) (c : Cfg) (row : List UInt8 → List UInt8) (d : List UInt8) : List UInt8 :=
 (encGo S c row (d.length + 1) d (frP S c.ck) []).1 ++ ixP S (encGo S c row (d.length + 1) d (frP S c.ck) []).2 ++ bkP S c.ck (ixP S (encGo S c row (d.length + 1) d (frP S c.ck) []).2).length
def recsC (l : List (Nat × Nat)) : List Value := l.flatMap fun p => [.int .i64 p.1, .int .i64 p.2]
theorem recsC_snoc (l : List (Nat × Nat)) (p : Nat × Nat) : recsC (l ++ [p]) = recsC l ++ [.int .i64 p.1, .int .i64 p.2] := by simp [recsC]
theorem recsC_get (l : List (Nat × Nat)) (i : Nat) (hi : i < l.length) : (recsC l)[i * 2]? = some (.int .i64 (l.getD i (0, 0)).1) ∧ (recsC l)[i * 2 + 1]? = some (.int .i64 (l.getD i (0, 0)).2) := by
 induction l generalizing i with
 | nil => simp at hi
 | cons p t ih =>
  cases i with
  | zero => simp [recsC]
  | succ i =>
   have h1 := ih i (by simpa using hi)
   have e : recsC (p :: t) = .int .i64 p.1 :: .int .i64 p.2 :: recsC t := by simp [recsC]
   rw [e, show (i + 1) * 2 = i * 2 + 1 + 1 by omega]
   simpa using h1
theorem rec_of_own {w : World} {B n c : Nat} {A : Option Addr} {l : List (Nat × Nat)} (h : w.ownsRow B 61 2 (.slice A n c) n (recsC l)) (hl : l.length = n) : RecIn A n l w := by
 refine ⟨hl, fun i hi => ?_⟩
 have hr : Rd w 2 A n (recsC l) := Rd.of_own h;obtain ⟨ad, had, hc⟩ := hr.2 (by omega)
 have hat : ∃ b, ad = ⟨b, 0, none⟩ := by
  rcases h.2 with ⟨hv, _⟩ | ⟨g', cap', cur, hv, _⟩
  · injection hv with h1 h2 h3; rw [had] at h1; cases h1
  · injection hv with h1; rw [had] at h1; injection h1 with h1; exact ⟨_, h1⟩
 obtain ⟨b, rfl⟩ := hat;obtain ⟨g0, g1⟩ := recsC_get l i (by omega)
 have c0 := hc _ _ g0;have c1 := hc _ _ g1;rw [add_none, Nat.zero_add] at c0 c1;exact ⟨b, 0, had, by rw [Nat.zero_add]; exact c0, by rw [Nat.zero_add]; exact c1, (own_lt h (own_addr h had)).2⟩
theorem inforec : (Tryz.prog.info? 61).map (fun i => (i.zero, i.size, i.bytes)) = some (some (.agg #[.int .i64 0, .int .i64 0]), 2, 16) := by kernel_rfl
def SePost (l : List UInt8) (w : World) (e : Ending) (w' : World) : Prop :=
 ∃ A ca, e = .returned (.tuple #[.slice A l.length ca, .nilIface]) ∧ w'.ownsRow w.heap.size 5 1 (.slice A l.length ca) l.length (bys l) ∧ Below w.heap.size w w'
structure SeI (S : Sums) (c : Cfg) (row : List UInt8 → List UInt8) (X : List UInt8 × List (Nat × Nat)) (w0 : World) (k : Nat) (A : Option Addr) (m ca : Nat) (d : List UInt8) (F : Option Addr) (fn fc : Nat) (f : List UInt8) (L : Option Addr) (ln lc : Nat) (l : List (Nat × Nat)) (w : World) : Prop where
 si : In w0 A m d
 sa : ∀ ad, A = some ad → ad.block < w0.heap.size
 sc : m ≤ ca
 sf : w.ownsRow w0.heap.size 5 1 (.slice F fn fc) fn (bys f)
 sfl : f.length = fn
 so : w.ownsRow w0.heap.size 61 2 (.slice L ln lc) ln (recsC l)
 sol : l.length = ln
 sok : recOk l
 sx : encGo S c row k d f l = X
 sk : m < k
 sn : ln + m ≤ 1048576
 sz : fn ≤ 12 + ln * 5000000
 sb : Below w0.heap.size w0 w
theorem ixP_len (S : Sums) (l : List (Nat × Nat)) (h : l.length ≤ 1048576) : 4 ≤ (ixP S l).length ∧ (ixP S l).length % 4 = 0 ∧ (ixP S l).length ≤ 37748808 := by
 have h1 : (ixB l).length ≤ (0 :: viP l.length).length + 18 * l.length := ixG_len l _;have h2 := (viN_pos l.length).2;rw [List.length_cons, viP_len] at h1;unfold ixP ixQ padI;rw [List.length_append, List.length_append, List.length_replicate, leN_length];omega
theorem SEnc_any (S : Sums) (T Rr : Nat → Int) (hS : S.c32 = crc32) (hS3 : S.sum = ckSum T Rr) (c : Cfg) (h : c.Ok) (row : List UInt8 → List UInt8) (A : Option Addr) (m ca : Nat) (d : List UInt8) (w : World) (hI : In w A m d) (hc : m ≤ ca) (hA : ∀ ad, A = some ad → ad.block < w.heap.size) (hm : m ≤ 1048576)
 (hrow : ∀ x, (row x).length ≤ 4194304)
 (hR : ∀ (A : Option Addr) (k ca : Nat) (x : List UInt8) (W : World), Below w.heap.size w W → In W A k x → k ≤ ca → (∀ ad, A = some ad → ad.block < w.heap.size) → 1 ≤ k → k ≤ m → Calls Tryz.prog 32 #[.slice A k ca, .agg #[.int .i64 c.ck, .int .i64 c.dl, .int .i64 c.lc, .int .i64 c.lp, .int .i64 c.pb, .int .i64 c.dict, .int .i64 c.blk, .int .i64 c.mode]] W (Gv (row x) W)) (hl : LaidS T Rr w) (hB : LaidB w) :
 Calls Tryz.prog 8 #[.slice A m ca, .agg #[.int .i64 c.ck, .int .i64 c.dl, .int .i64 c.lc, .int .i64 c.lp, .int .i64 c.pb, .int .i64 c.dict, .int .i64 c.blk, .int .i64 c.mode]] w (SePost (encF S c row d) w) := by
 have hlm := hI.len;have HL := Lib.hid (fun W => Legal_any c h W)
 have HHd := Lib.hid (fun W (hb : Below w.heap.size w W) => Header_any S hS c.ck W h.k (hl.c.below hb) (hl.f.below hb))
 have HFt := Lib.hid (fun n W (hb : Below w.heap.size w W) h4 h0 hn => Footer_any S hS c.ck n W h.k h4 h0 hn (hl.c.below hb) (hl.f.below hb))
 have HIx := Lib.hid (fun A n ca x W (hb : Below w.heap.size w W) (hi : RecIn A n x W) ho hn => IPut_any S hS A n ca x W hi ho hn (hB.below hb) (hl.c.below hb))
 have HBk := Lib.hid (fun A k ca x W (hb : Below w.heap.size w W) (hi : In W A k x) (hc : k ≤ ca) (hA : ∀ ad, A = some ad → ad.block < w.heap.size) (h1 : 1 ≤ k) (h2 : k ≤ m) (h3 : k ≤ c.blk) => bEnc_any S T Rr hS hS3 c h A k ca x (row x) W hi h3 (Nat.le_trans (hrow x) (by decide)) (fun W2 hb2 => hR A k ca x W2 (bup hb hb2) (hi.below hb2) hc hA h1 h2) (hl.below hb) (hB.below hb))
 have k1 : ¬ (2147483648 : Int) < (m : Int) := by omega
 have hblk := h.b;have hRes : ∃ X, X = encGo S c row (d.length + 1) d (frP S c.ck) [] ∧ encF S c row d = X.1 ++ ixP S X.2 ++ bkP S c.ck (ixP S X.2).length := ⟨_, rfl, rfl⟩;obtain ⟨X, hX, hX2⟩ := hRes;obtain ⟨O, hO⟩ : ∃ x, encF S c row d = x := ⟨_, rfl⟩;rw [hO] at hX2 ⊢;have HX := Lib.hid (And.intro hX.symm (And.intro hX2 (And.intro hblk (And.intro hm hrow))));have HI := Lib.hid (And.intro hI (And.intro hc (And.intro hA hlm)))
 have HSl := Lib.hid (fun x => show (S.sum c.ck x).length ≤ 64 by rw [hS3]; exact ckSum_len T Rr c.ck x)
 obtain ⟨w1, hw1⟩ : ∃ x, w.alloc (.cells #[.int .i64 c.ck, .int .i64 c.dl, .int .i64 c.lc, .int .i64 c.lp, .int .i64 c.pb, .int .i64 c.dict, .int .i64 c.blk, .int .i64 c.mode] 26) = x := ⟨_, rfl⟩;obtain ⟨g, hg⟩ : ∃ x, w.heap.size = x := ⟨_, rfl⟩;have hb1 : Below w.heap.size w w1 := by rw [← hw1]; exact (Below.refl _ _).alloc (Nat.le_refl _) _
 have hk1 : Blk w1 g 26 #[.int .i64 c.ck, .int .i64 c.dl, .int .i64 c.lc, .int .i64 c.lp, .int .i64 c.pb, .int .i64 c.dict, .int .i64 c.blk, .int .i64 c.mode] := by rw [← hw1]; exact Blk.new_at hg.symm
 have HW := Lib.hid (And.intro hw1 (And.intro hg (And.intro hb1 hk1)));obtain ⟨c0, c1, c2, c3, c4, c5, c6, c7⟩ := cfg_cells hk1;clear hw1 hg hb1 hk1 hI hc hA hlm hX hX2 hO hblk hm hrow hR hl hB h;go_enter Tryz.func8, Tryz.ntmps8;go_upto_region 1 with (fail);rw [HW.out.1, HW.out.2.1];go_wp2_with fail;refine (HL.out w1).mono ?_;rintro e w2 ⟨rfl, hb2⟩;have HB2 := Lib.hid (And.intro (bup HW.out.2.2.1 hb2) (HW.out.2.2.2.below hb2))
 obtain ⟨d0, d1, d2, d3, d4, d5, d6, d7⟩ := cfg_cells HB2.out.2;clear hb2 c0 c1 c2 c3 c4 c5 c6 c7;go_wp2_with fail;refine (HHd.out w2 HB2.out.1).mono ?_;rintro e w3 ⟨F, fc, rfl, ho3, hb3⟩;have hfl : (frP S c.ck).length = 12 := by unfold frP; rw [List.length_append, leN_length]; rfl
 rw [hfl] at ho3 ⊢;have H3 := Lib.hid (And.intro (own_mono ho3 HB2.out.1.size) (And.intro (bup HB2.out.1 hb3) (And.intro (HB2.out.2.below hb3) hfl)));clear hb3 ho3 hfl d0 d1 d2 d3 d4 d5 d6 d7;go_wp2_with fail
 go_loopw [0, 7, 9] (fun s0 s7 s9 wr => ∃ (A : Option Addr) (m' ca : Nat) (F : Option Addr) (fn fc : Nat) (L : Option Addr) (ln lc : Nat), s0 = .slice A m' ca ∧ s7 = .slice F fn fc ∧ s9 = .slice L ln lc ∧ m' ≤ m ∧ Hid (∃ k d f l, SeI S c row X w k A m' ca d F fn fc f L ln lc l wr ∧ Blk wr g 26 #[.int .i64 c.ck, .int .i64 c.dl, .int .i64 c.lc, .int .i64 c.lp, .int .i64 c.pb, .int .i64 c.dict, .int .i64 c.blk, .int .i64 c.mode])) (fun s0 _ _ _ => match s0 with | .slice _ n _ => n | _ => 0)
 case atStart => exact ⟨A, m, ca, F, 12, fc, none, 0, 0, rfl, rfl, rfl, Nat.le_refl _, Lib.hid ⟨_, _, _, _, ⟨HI.out.1, HI.out.2.2.1, HI.out.2.1, H3.out.1, H3.out.2.2.2, World.ownsRow_nil _ _ _ _, rfl, fun r hr => by simp at hr, HX.out.1, by rw [HI.out.2.2.2]; exact Nat.lt_succ_self _, by have := HX.out.2.2.2.1; omega, by omega, H3.out.2.1⟩, H3.out.2.2.1⟩⟩
 case round =>
  clear H3;obtain ⟨A, m', ca, F, fn, fc, L, ln, lc, rfl, rfl, rfl, hmm, HJ⟩ := hrel;obtain ⟨k, d, f, l, hJ, hcf⟩ := HJ.out;by_cases hm0 : 0 < m'
  · have y0 : (0 : Int) < (m' : Int) := by omega
    obtain ⟨c0, c1, c2, c3, c4, c5, c6, c7⟩ := cfg_cells hcf;obtain ⟨n, hn⟩ : ∃ x, min m' c.blk = x := ⟨_, rfl⟩;have hblk := HX.out.2.2.1;have hn1 : 1 ≤ n ∧ n ≤ m' ∧ n ≤ c.blk := by omega
    have HMn : Hid (min (m' : Int) (c.blk : Int) = (n : Int)) := Lib.hid (by omega)
    obtain ⟨kk, rfl⟩ : ∃ x, k = x + 1 := ⟨k - 1, by have := hJ.sk; omega⟩
    have hx := hJ.sx;unfold encGo at hx;rw [hJ.si.len, if_neg (by omega), hn] at hx
    have HXr := Lib.hid hx;have HJ2 := Lib.hid hJ;have HCf := Lib.hid hcf;clear hJ hcf HJ hx hn hblk;have t1 : n ≤ m' := hn1.2.1;have t2 := HJ2.out.si.take (k := n) t1;have t3 : n ≤ ca := by have := HJ2.out.sc; omega
    have t4 : n ≤ m := by omega
    have hbe := fun W (hW : Below wr.heap.size wr W) => HBk.out A n ca (d.take n) W (bup HJ2.out.sb hW) (t2.below (bup HJ2.out.sb hW)) t3 HJ2.out.sa hn1.1 t4 hn1.2.2
    have hdl : (d.take n).length = n := by rw [List.length_take, HJ2.out.si.len]; omega
    unfold BePost at hbe;rw [hdl] at hbe;have hbl2 : ∃ U bl B, U = unpN S c row (d.take n) ∧ B = blP S c (row (d.take n)) (d.take n) ∧ bl = B.length ∧ 6 ≤ U ∧ U ≤ 4194500 ∧ bl ≤ 4200000 := by
     refine ⟨_, _, _, rfl, rfl, rfl, ?_, ?_, ?_⟩
     · have := (hdP_len S c).1; unfold unpN; omega
     · have h1 := (hdP_len S c).2; have h2 := HX.out.2.2.2.2 (d.take n); have h3 : (S.sum c.ck (d.take n)).length ≤ 64 := HSl.out _; unfold unpN; omega
     · have h1 := (hdP_len S c).2; have h2 := HX.out.2.2.2.2 (d.take n); have h3 : (S.sum c.ck (d.take n)).length ≤ 64 := HSl.out _; have h4 := padI_le ((hdP S (filsP c)).length + (row (d.take n)).length); unfold blP; simp only [List.length_append, List.length_replicate]; omega
    obtain ⟨U, bl, Bb, hU, hBb, hbll, hU1, hU2, hbl3⟩ := hbl2;have hbe2 : ∀ (W : World), Below wr.heap.size wr W → Calls Tryz.prog 20 #[.slice A n ca, .agg #[.int .i64 c.ck, .int .i64 c.dl, .int .i64 c.lc, .int .i64 c.lp, .int .i64 c.pb, .int .i64 c.dict, .int .i64 c.blk, .int .i64 c.mode]] W (fun e w' => ∃ A5 c5, e = .returned (.tuple #[.slice A5 bl c5, .agg #[.int .i64 U, .int .i64 n], .int .i64 0]) ∧ w'.ownsRow W.heap.size 5 1 (.slice A5 bl c5) bl (bys Bb) ∧ Below W.heap.size W w') := by
     intro W hW;refine (hbe W hW).mono ?_;rintro e w' hh;obtain ⟨A5, n5, c5, rfl, rfl, ho, hb⟩ := hh;rw [← hBb, ← hbll] at ho;refine ⟨A5, c5, ?_, ho, hb⟩;rw [hbll, hBb, hU, unpN]
    have HBe := Lib.hid hbe2;rw [← hU, ← hBb] at HXr;have HBl := Lib.hid hbll.symm;clear hbe hbe2 hdl hU hBb hbll;obtain ⟨d0, d1, d2, d3, d4, d5, d6, d7⟩ := cfg_cells HCf.out.drew;obtain ⟨q0, q1, q2, q3, q4, q5, q6, q7⟩ := cfg_cells (HCf.out.alloc (.cells #[.int .i64 0, .int .i64 0] 61));obtain ⟨t0, t1, t2, t3, t4, t5, t6, t7⟩ := cfg_cells (HCf.out.alloc (.cells #[.int .i64 0, .int .i64 0] 61)).drew
    have HVa := Lib.hid (show Blk (wr.alloc (.cells #[.int .i64 0, .int .i64 0] 61)).drew wr.heap.size 61 #[.int .i64 0, .int .i64 0] from (Blk.new wr _ _).drew)
    have hbx : Calls Tryz.prog 20 #[.slice A n ca, .agg #[.int .i64 c.ck, .int .i64 c.dl, .int .i64 c.lc, .int .i64 c.lp, .int .i64 c.pb, .int .i64 c.dict, .int .i64 c.blk, .int .i64 c.mode]] wr.drew (fun e w' => ∃ A5 c5, e = .returned (.tuple #[.slice A5 bl c5, .agg #[.int .i64 U, .int .i64 n], .int .i64 0]) ∧ w'.ownsRow wr.heap.size 5 1 (.slice A5 bl c5) bl (bys Bb) ∧ Below wr.heap.size wr w' ∧ Blk w' g 26 #[.int .i64 c.ck, .int .i64 c.dl, .int .i64 c.lc, .int .i64 c.lp, .int .i64 c.pb, .int .i64 c.dict, .int .i64 c.blk, .int .i64 c.mode]) := by
     refine (HBe.out wr.drew (Below.refl _ _).drew).mono ?_;rintro e w' ⟨A5, c5, rfl, ho, hb⟩;exact ⟨A5, c5, rfl, ho, bup (Below.refl wr.heap.size wr).drew hb, HCf.out.drew.below hb⟩
    have hby : Calls Tryz.prog 20 #[.slice A n ca, .agg #[.int .i64 c.ck, .int .i64 c.dl, .int .i64 c.lc, .int .i64 c.lp, .int .i64 c.pb, .int .i64 c.dict, .int .i64 c.blk, .int .i64 c.mode]] (wr.alloc (.cells #[.int .i64 0, .int .i64 0] 61)).drew (fun e w' => ∃ A5 c5, e = .returned (.tuple #[.slice A5 bl c5, .agg #[.int .i64 U, .int .i64 n], .int .i64 0]) ∧ w'.ownsRow wr.heap.size 5 1 (.slice A5 bl c5) bl (bys Bb) ∧ Below wr.heap.size wr w' ∧ Blk w' g 26 #[.int .i64 c.ck, .int .i64 c.dl, .int .i64 c.lc, .int .i64 c.lp, .int .i64 c.pb, .int .i64 c.dict, .int .i64 c.blk, .int .i64 c.mode] ∧ Blk w' wr.heap.size 61 #[.int .i64 0, .int .i64 0]) := by
     refine (HBe.out (wr.alloc (.cells #[.int .i64 0, .int .i64 0] 61)).drew ((Below.refl wr.heap.size wr).alloc (Nat.le_refl _) _).drew).mono ?_;rintro e w' ⟨A5, c5, rfl, ho, hb⟩;exact ⟨A5, c5, rfl, own_mono ho (Below.size ((Below.refl wr.heap.size wr).alloc (Nat.le_refl _) (.cells #[.int .i64 0, .int .i64 0] 61)).drew), bup ((Below.refl wr.heap.size wr).alloc (Nat.le_refl _) (.cells #[.int .i64 0, .int .i64 0] 61)).drew hb, (HCf.out.alloc (.cells #[.int .i64 0, .int .i64 0] 61)).drew.below hb, HVa.out.below hb⟩
    have HBx := Lib.hid hbx;have HBy := Lib.hid hby;clear hbx hby;have nVg : ¬ wr.heap.size = g := by have := HCf.out.lt; omega
    have ngV : ¬ g = wr.heap.size := fun e => nVg e.symm
    go_upto_region 10 with (fail);rw [HMn.out];go_cut [11, 12, 13] (fun s11 s12 s13 wy => ∃ (A5 : Option Addr) (c5 V : Nat), s11 = .slice A5 bl c5 ∧ s12 = .pointer (some ⟨V, 0, none⟩) ∧ s13 = .int .i64 0 ∧ Hid (Below wr.heap.size wr wy ∧ wy.ownsRow wr.heap.size 5 1 (.slice A5 bl c5) bl (bys Bb) ∧ Blk wy V 61 #[.int .i64 U, .int .i64 n] ∧ wr.heap.size ≤ V))
    case first =>
     go_region_held3 (fun w' => w'.cell? ⟨g, 0, none⟩ = some (.int .i64 c.ck) ∧ w'.cell? ⟨g, 1, none⟩ = some (.int .i64 c.dl) ∧ w'.cell? ⟨g, 2, none⟩ = some (.int .i64 c.lc) ∧ w'.cell? ⟨g, 3, none⟩ = some (.int .i64 c.lp) ∧ w'.cell? ⟨g, 4, none⟩ = some (.int .i64 c.pb) ∧ w'.cell? ⟨g, 5, none⟩ = some (.int .i64 c.dict) ∧ w'.cell? ⟨g, 6, none⟩ = some (.int .i64 c.blk) ∧ w'.cell? ⟨g, 7, none⟩ = some (.int .i64 c.mode))
      (first | (with_reducible exact ⟨d0, d1, d2, d3, d4, d5, d6, d7⟩) | (with_reducible exact ⟨t0, t1, t2, t3, t4, t5, t6, t7⟩) | (with_reducible exact ⟨y0, y1, y2, y3, y4, y5, y6, y7⟩) | go_keep)
      (first | (go_at_call 20; with_reducible refine HBy.out.mono ?_; rintro e w5 ⟨A5, c5, rfl, ho5, hb5, hg5, hV5⟩; obtain ⟨y0, y1, y2, y3, y4, y5, y6, y7⟩ := cfg_cells hg5; obtain ⟨v0, v1⟩ := hV5.two; have vf0 := hV5.frozen 0; have vf1 := hV5.frozen 1; have H5 := Lib.hid (And.intro ho5 (And.intro hb5 hV5)); clear ho5 hb5 hV5 hg5) | (go_at_call 20; with_reducible refine HBx.out.mono ?_; rintro e w5 ⟨A5, c5, rfl, ho5, hb5, hg5⟩; obtain ⟨y0, y1, y2, y3, y4, y5, y6, y7⟩ := cfg_cells hg5; have ne5 : ¬ g = w5.heap.size := (by have := hg5.lt; omega); have H5 := Lib.hid (And.intro ho5 hb5); clear ho5 hb5 hg5))
     all_goals
      go_wp2_with fail
      go_meet
     · exact ⟨A5, c5, w5.heap.size, rfl, rfl, rfl, Lib.hid ⟨H5.out.2.alloc H5.out.2.size _, own_below H5.out.1 ((Below.refl _ _).alloc (Nat.le_refl _) _), Blk.new _ _ _, H5.out.2.size⟩⟩
     · have hV5 := H5.out.2.2;have hb6 := (H5.out.2.1.setCell (p := ⟨wr.heap.size, 0, none⟩) (Nat.le_refl _) (.int .i64 U)).setCell (p := ⟨wr.heap.size, 1, none⟩) (Nat.le_refl _) (.int .i64 n);exact ⟨A5, c5, wr.heap.size, rfl, rfl, rfl, Lib.hid ⟨hb6, own_far (own_far H5.out.1 (p := ⟨wr.heap.size, 0, none⟩) (own_ne H5.out.1 hV5 (by decide)) _) (p := ⟨wr.heap.size, 1, none⟩) (own_ne H5.out.1 hV5 (by decide)) _, (hV5.set_ 0 (.int .i64 U)).set_ 1 (.int .i64 n), Nat.le_refl _⟩⟩
    case rest =>
     obtain ⟨A5, c5, V, rfl, rfl, rfl, hcut⟩ := hcut;obtain ⟨hb, ho, hV, hVs⟩ := hcut.out;have hbw := bup HJ2.out.sb hb;have hs0 := hbw.size;have HC := Lib.hid (And.intro hbw (And.intro (in_own ho (by omega)) (And.intro hV (HCf.out.below hb))))
     have HF := Lib.hid (own_below HJ2.out.sf hb);have HLr := Lib.hid (own_below HJ2.out.so hb);have hlb := HJ2.out.sn;have hzb := HJ2.out.sz;have HF5 := Lib.hid (show ∀ g', (Value.slice A5 bl c5).ownBlock = some g' → wr.heap.size ≤ g' from fun g' hg' => (own_lt ho hg').1)
     have HFl := Lib.hid (show ∀ g', (Value.slice F fn fc).ownBlock = some g' → g' < wr.heap.size from fun g' hg' => (own_lt HJ2.out.sf hg').2)
     clear hb ho hV hcut HBx HBy HBe d0 d1 d2 d3 d4 d5 d6 d7 q0 q1 q2 q3 q4 q5 q6 q7 t0 t1 t2 t3 t4 t5 t6 t7 c0 c1 c2 c3 c4 c6 c7;go_upto_region 14 with (at_builtin; refine wpList_byt (w := wc) rfl (.tmp 57) (.tmp 58) rfl w.heap.size F fn fc f rfl HF.out A5 bl c5 Bb rfl HC.out.2.1 hs0 (by omega) ?_; intro F2 fc2 w6 ho6 hb6 hg6 hat6)
     have hf6 : Fr (fun q => some q = (Value.slice F fn fc).ownBlock) wc w6 := (Fr.refl _ _).grown hg6 (fun q hq => .inl hq.symm)
     have hV6 := HC.out.2.2.1.fr hf6 (own_ne HF.out HC.out.2.2.1 (by decide))
     have hL6 := own_fr HLr.out hf6 (fun q hq e => BT.ne (own_bt HLr.out hq) (own_bt HF.out e.symm) (by decide) rfl)
     have hC6 := HC.out.2.2.2.fr hf6 (own_ne HF.out HC.out.2.2.2 (by decide))
     obtain ⟨v0, v1⟩ := hV6.two;have hb7 : Below w6.heap.size w6 (w6.alloc (.cells #[.int .i64 U, .int .i64 n] 61)) := (Below.refl _ _).alloc (Nat.le_refl _) _;have H6 := Lib.hid (And.intro (own_below ho6 hb7) (And.intro (own_below hL6 hb7) (And.intro (hC6.below hb7) ((HC.out.1.trans hb6).trans (hb7.mono (hbw.trans hb6).size)))));obtain ⟨i0, hi0, hz0, hz1, hz2⟩ := info_parts inforec;have hs7 := H6.out.2.2.2.size
     obtain ⟨A2, hA2⟩ : ∃ x, (if ca = n then A else A.map (·.add n)) = x := ⟨_, rfl⟩
     have hnc : (n : Int) ≤ (m' : Int) := by omega
     have hnc2 : (n : Int) ≤ (ca : Int) := by omega
     clear ho6 hb6 hg6 hat6 hf6 hV6 hL6 hC6 hb7 hbw;go_wp2_with (at_builtin; refine wpList_append_rd (w := w6.alloc (.cells #[.int .i64 U, .int .i64 n] 61)) rfl (.tmp 60) (.tmp 62) 59 rfl w.heap.size 61 i0 _ 2 16 Tryz.underlying59 hi0 hz0 hz1 hz2 rfl (by decide) (.slice L ln lc) ln (recsC l) rfl H6.out.2.1 (some ⟨w6.heap.size, 0, none⟩) 1 1 [.int .i64 U, .int .i64 n] rfl (rd_new w6 #[.int .i64 U, .int .i64 n] 61 2 rfl) (by intro u hu; simp at hu; rcases hu with rfl | rfl <;> rfl) (by simp only [maxLen]; omega) (by omega) hs7 ?_; intro L2 lc2 w8 ho8 hg8 hat8)
     have hf8 : Fr (fun q => some q = (Value.slice L ln lc).ownBlock) _ w8 := (Fr.refl _ _).grown hg8 (fun q hq => .inl hq.symm)
     have hF8 := own_fr H6.out.1 hf8 (fun q hq e => BT.ne (own_bt H6.out.1 hq) (own_bt H6.out.2.1 e.symm) (by decide) rfl)
     have hC8 := H6.out.2.2.1.fr hf8 (own_ne H6.out.2.1 H6.out.2.2.1 (by decide))
     have hb8 := H6.out.2.2.2.trans (hf8.below hs7 (fun q hq => (own_lt H6.out.2.1 hq.symm).1))
     have hJ := HJ2.out;have hbl := HBl.out;have hc1 := hJ.si.cut (k := n) hn1.2.1 hJ.sc;rw [hA2] at hc1;refine ⟨⟨A2, m' - n, ca - n, F2, fn + bl, fc2, L2, ln + 1, lc2, rfl, rfl, rfl, by omega, Lib.hid ⟨kk, d.drop n, f ++ Bb, l ++ [(U, n)], ⟨hc1, ?_, Nat.sub_le_sub_right hJ.sc n, hF8, by rw [List.length_append, hJ.sfl, hbl], by rw [recsC_snoc]; exact ho8, by rw [List.length_append, hJ.sol]; rfl, ?_, HXr.out, by have := hJ.sk; omega, by omega, by omega, hb8⟩, hC8⟩⟩, ?_⟩
     · intro ad had;rw [← hA2] at had;split at had
       · exact hJ.sa ad had
       · obtain ⟨x, hx1, hx2⟩ := Option.map_eq_some_iff.1 had;rw [← hx2, block_add];exact hJ.sa x hx1
     · intro r hr;rcases List.mem_append.1 hr with hr | hr
       · exact hJ.sok r hr
       · simp at hr;subst hr;exact ⟨by show 5 ≤ U; omega, by show U ≤ _; omega, by show n ≤ _; omega⟩
     · show m' - n < m';omega
  · obtain rfl : m' = 0 := by omega
    have y0 : ¬ (0 : Int) < ((0 : Nat) : Int) := by decide
    obtain ⟨c0, c1, c2, c3, c4, c5, c6, c7⟩ := cfg_cells hcf;have hx := hJ.sx;have hd0 : d = [] := List.eq_nil_of_length_eq_zero hJ.si.len;obtain ⟨kk, rfl⟩ : ∃ x, k = x + 1 := ⟨k - 1, by have := hJ.sk; omega⟩
    rw [encGo, hd0, if_pos List.length_nil] at hx;have hs0 := hJ.sb.size;have hln := hJ.sn;have HIx2 := Lib.hid (HIx.out L ln lc l wr hJ.sb (rec_of_own hJ.so hJ.sol) hJ.sok (by omega))
    have hJ2l := hJ.sol;have HO := Lib.hid (show O = f ++ ixP S l ++ bkP S c.ck (ixP S l).length by rw [HX.out.2.1, ← hx])
    have HJ2 := Lib.hid hJ;have HCf := Lib.hid hcf;clear hJ hcf HJ hx hd0 hm0 HBk;have hil := ixP_len S l (by rw [hJ2l]; omega)
    have HFt2 := Lib.hid (fun W (hb : Below w.heap.size w W) => HFt.out (ixP S l).length W hb hil.1 hil.2.1 (by omega))
    obtain ⟨ix, hix⟩ : ∃ x, ixP S l = x := ⟨_, rfl⟩;rw [hix] at HIx2 HFt2 HO hil;obtain ⟨xn, hxn⟩ : ∃ x, ix.length = x := ⟨_, rfl⟩;have HXn := Lib.hid hxn;rw [hxn] at HFt2 HO hil;have hbl : (bkP S c.ck xn).length = 12 := by unfold bkP; simp [leN_length]
    have HBl := Lib.hid hbl;obtain ⟨bk, hbk⟩ : ∃ x, bkP S c.ck xn = x := ⟨_, rfl⟩;rw [hbk] at HFt2 HO HBl;have hz := HJ2.out.sz;clear hix hxn hbl hbk;go_wp2_with fail;refine HIx2.out.mono ?_;rintro e w2 ⟨A2, ca2, rfl, ho2, hb2⟩;rw [HXn.out] at ho2 ⊢;have hbw := bup HJ2.out.sb hb2;have H2 := Lib.hid (And.intro hbw (And.intro (own_below HJ2.out.sf hb2) (own_mono ho2 hs0)));obtain ⟨d0, d1, d2, d3, d4, d5, d6, d7⟩ := cfg_cells (HCf.out.below hb2)
    clear ho2 hb2 c0 c1 c2 c3 c4 c5 c6 c7 hbw;go_wp2_with fail;refine (HFt2.out w2 H2.out.1).mono ?_;rintro e w3 ⟨A3, ca3, rfl, ho3, hb3⟩;rw [HBl.out] at ho3 ⊢;have hbw := bup H2.out.1 hb3;have H3 := Lib.hid (And.intro hbw (And.intro (own_below H2.out.2.1 hb3) (And.intro (own_below H2.out.2.2 hb3) (in_own ho3 (by decide)))))
    have hs3 := hbw.size;have HFr := Lib.hid (show ∀ ad, A3 = some ad → w2.heap.size ≤ ad.block from fun ad had => (own_lt ho3 (own_addr ho3 had)).1)
    clear ho3 hb3 d0 d1 d2 d3 d4 d5 d6 d7 hbw;go_upto_region 23 with (at_builtin; refine wpList_byt (w := w3) rfl (.tmp 88) (.tmp 89) rfl w.heap.size F fn fc f rfl H3.out.2.1 A2 xn ca2 ix rfl (in_own H3.out.2.2.1 (by omega)) hs3 (by omega) ?_; intro A4 c4 w4 ho4 hb4 hg4 hat4)
    have hf4 : Fr (fun q => some q = (Value.slice F fn fc).ownBlock) w3 w4 := (Fr.refl _ _).grown hg4 (fun q hq => .inl hq.symm)
    have hi4 := H3.out.2.2.2.fr hf4 (fun h0 ad had e => by have h1 := HFr.out ad had; have h2 := (own_lt H2.out.2.1 e.symm).2; omega)
    have H4 := Lib.hid (And.intro ho4 (And.intro (H3.out.1.trans hb4) hi4));have hs4 := (H3.out.1.trans hb4).size;clear ho4 hb4 hg4 hat4 hf4 hi4;go_wp2_with (at_builtin; refine wpList_byt (w := w4) rfl (.tmp 91) (.tmp 92) rfl w.heap.size A4 (fn + xn) c4 (f ++ ix) rfl H4.out.1 A3 12 ca3 bk rfl H4.out.2.2 hs4 (by omega) ?_; intro A5 c5 w5 ho5 hb5 hg5 hat5)
    go_wp2_with fail;refine bodyPost_ret (v := .tuple #[.slice A5 (fn + xn + 12) c5, .nilIface]) (by simp [results, Tryz.results8, go_sem]) rfl ?_
    have hl : O.length = fn + xn + 12 := by rw [HO.out, List.length_append, List.length_append, HJ2.out.sfl, HXn.out, HBl.out]
    refine ⟨A5, c5, by rw [hl], ?_, H4.out.2.1.trans hb5⟩
    rw [hl, HO.out];exact ho5
theorem code_nil (w : World) : Calls Tryz.prog 11 #[.nilIface] w fun e w' => e = .returned (.int .i64 0) ∧ Below w.heap.size w w' := by
 go_enter Tryz.func11, Tryz.ntmps11;go_wp2_with fail;refine (Code_nil w).mono ?_;rintro e wz ⟨rfl, hwz⟩;rw [hwz];clear hwz;go_wp2_with fail;go_ret;exact ⟨rfl, Below.refl _ _⟩
theorem code_any (E : Nat → Addr) (k F : Nat) (w : World) (h : LaidE E w) (hv : FV E k (.iface 80 (.pointer (some ⟨F, 0, none⟩))) w) (h1 : 1 ≤ k) (h9 : k ≤ 9) :
 Calls Tryz.prog 11 #[.iface 80 (.pointer (some ⟨F, 0, none⟩))] w fun e w' => e = .returned (.int .i64 k) ∧ Below w.heap.size w w' := by
 have H := Lib.hid (Code_any E k _ w h hv h1 h9);clear h hv h1 h9;go_enter Tryz.func11, Tryz.ntmps11;go_wp2_with fail;refine H.out.mono ?_;rintro e w1 ⟨rfl, hb⟩;have HB := Lib.hid hb;clear hb;go_wp2_with fail;go_ret;exact ⟨rfl, HB.out⟩
theorem dup_any (A : Option Addr) (m c : Nat) (l : List UInt8) (w : World) (hI : In w A m l) (hm : m ≤ 1048576) :
 Calls Tryz.prog 7 #[.slice A m c] w fun e w' => ∃ A' c', e = .returned (.slice A' m c') ∧ w'.ownsRow w.heap.size 5 1 (.slice A' m c') m (bys l) ∧ Below w.heap.size w w' := by
 have HI := Lib.hid hI;clear hI;go_enter Tryz.func7, Tryz.ntmps7;go_wp2_with (at_builtin; refine wpList_byt (w := w) rfl (.tmp 4) (.tmp 5) rfl w.heap.size none 0 0 [] rfl (World.ownsRow_nil _ _ _ _) A m c l rfl HI.out (Nat.le_refl _) (by omega) ?_; intro A' c' w1 ho hb hg hat; rw [Nat.zero_add, List.nil_append] at ho; have H := Lib.hid (And.intro ho hb); clear ho hb hg hat)
 go_wp2_with fail;go_ret;exact ⟨A', c', by simp, H.out⟩
theorem str_eq (l1 l2 : List UInt8) : ((strOf l1).toList == (strOf l2).toList) = decide (l1 = l2) := by
 rw [ByteArray.toList_eq, ByteArray.toList_eq, strOf_data, strOf_data];by_cases h : l1 = l2
 · subst h; simp
 · rw [decide_eq_false h]; exact beq_eq_false_iff_ne.2 h
theorem same_any (A1 A2 : Option Addr) (n1 c1 n2 c2 : Nat) (l1 l2 : List UInt8) (w : World) (h1 : Rd w 1 A1 n1 (bys l1)) (h2 : Rd w 1 A2 n2 (bys l2)) :
 Calls Tryz.prog 9 #[.slice A1 n1 c1, .slice A2 n2 c2] w fun e w' => e = .returned (.bool (decide (l1 = l2))) ∧ w' = w := by
 have hc1 : (convert 22 9 (.slice A1 n1 c1)).run Tryz.prog w = .ok (.string (strOf l1)) w := conv_rd h1;have hc2 : (convert 22 9 (.slice A2 n2 c2)).run Tryz.prog w = .ok (.string (strOf l2)) w := conv_rd h2;have hd := str_eq l1 l2;clear h1 h2;go_enter Tryz.func9, Tryz.ntmps9;go_wp2_with fail;go_ret;exact ⟨by rw [← hd]; rfl, rfl⟩
def cfA : Cfg := ⟨4, 0, 3, 0, 2, 4096, 1, 1⟩
def cfB : Cfg := ⟨0, 0, 3, 0, 2, 4096, 65536, 0⟩
theorem cfA_ok : cfA.Ok := ⟨.inr (.inr (.inl rfl)), by decide, by decide, by decide, by decide, by decide, by decide⟩
theorem cfB_ok : cfB.Ok := ⟨.inl rfl, by decide, by decide, by decide, by decide, by decide, by decide⟩
def fxS (T Rr : Nat → Int) : Sums := ⟨crc32, ckSum T Rr, deltaL⟩
def wantA : List UInt8 := [253, 55, 122, 88, 90, 0, 0, 4, 230, 214, 180, 70, 0, 0, 0, 0, 28, 223, 68, 33, 31, 182, 243, 125, 1, 0, 0, 0, 0, 4, 89, 90]
def fileA : List UInt8 := encF ⟨crc32, fun _ _ => [], deltaL⟩ cfA (fun _ => []) []
theorem encA (T Rr : Nat → Int) : encF (fxS T Rr) cfA (fun _ => []) [] = fileA := by kernel_rfl
theorem fileA_is : fileA = wantA := by decide +kernel
def fileB : List UInt8 := encF ⟨crc32, fun _ _ => [], deltaL⟩ cfB rawR [97, 98, 99]
theorem fileB_len : fileB.length = 52 := by decide +kernel
theorem fileB_mid : (fileB.drop 24).take 7 = [1, 0, 2, 97, 98, 99, 0] := by decide +kernel
theorem decB1 (T Rr : Nat → Int) : decF (fxS T Rr) fileB 4096 = ⟨0, [97, 98, 99]⟩ := by kernel_rfl
theorem decB2 (T Rr : Nat → Int) : (decF (fxS T Rr) fileB 4095).e = 5 := by kernel_rfl
end Go.Proofs.YtcjehjdehdoaeaaGreatDoor
