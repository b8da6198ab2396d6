/-
  Laws on the way to the claim (OrF OrG OrI). Conditions: those that each theorem states.
-/
import Derived.Test.YtcjehjdehdoaeaaGreatDoorOm15
import Derived.Test.YtcjehjdehdoaeaaGreatDoorOm20
import Derived.Stop.IfaceNil
set_option linter.unusedVariables false
set_option linter.unusedSimpArgs false
set_option maxRecDepth 1000000
set_option maxHeartbeats 16000000
namespace Go.Proofs.YtcjehjdehdoaeaaGreatDoor
open Go.RowKit
theorem wpList_byt {ops : Array Oper} {rest : List Oper} {o : Oper} {a : Act} {Q : Exit → Act → World → Prop} {w : World} (hgd : o.guard = none) (s x : Operand)
 (ho : o.op = .call { callee := .builtin .append, args := #[s, x], argTypes := #[22, 22] }) (B : Nat) (A : Option Addr) (n c : Nat) (l : List UInt8) (hs : a.eval s = .slice A n c) (hown : w.ownsRow B 5 1 (.slice A n c) n (bys l))
 (A2 : Option Addr) (m c2 : Nat) (r : List UInt8) (hx : a.eval x = .slice A2 m c2) (hr : In w A2 m r) (hB : B ≤ w.heap.size) (hlen : n + m ≤ 140737488351232)
 (h : ∀ A' c' w', w'.ownsRow B 5 1 (.slice A' (n + m) c') (n + m) (bys (l ++ r)) → Below B w w' → w.grownBy w' (Value.slice A n c).ownBlock → ((Value.slice A' (n + m) c').ownBlock = (Value.slice A n c).ownBlock ∨ (Value.slice A' (n + m) c').ownBlock = some w.heap.size) → wpList Tryz.prog ops Q rest (a.put o.dst (.slice A' (n + m) c')) w') : wpList Tryz.prog ops Q (o :: rest) a w := by
 obtain ⟨i0, hi0, hz0, hz1, hz2⟩ := info_parts infou8;refine wpList_append_rd hgd s x 22 ho B 5 i0 _ 1 1 Tryz.underlying22 hi0 hz0 hz1 hz2 rfl (by decide) _ n (bys l) hs hown A2 m c2 (bys r) hx hr.1 (bys_one _) (by simp only [maxLen]; omega) (by omega) hB ?_
 intro a' c' w' ho hg hat;rw [← bys_append] at ho;refine h a' c' w' ho ?_ hg hat;refine Below.grown (Below.refl _ w) hg hB ?_;intro k hk;exact (own_lt hown hk).1
theorem in_own {w : World} {B n c : Nat} {A : Option Addr} {l : List UInt8} (h : w.ownsRow B 5 1 (.slice A n c) n (bys l)) (hn : n ≤ 140737488351232) : In w A n l :=
 ⟨Rd.of_own h, fun _ ad had => (own_lt h (own_addr h had)).2, hn⟩
structure Ww (B g : Nat) (A : Option Addr) (c : Nat) (l : List UInt8) (w : World) : Prop where
 b : Blk w g 129 #[.int .i64 l.length, .slice A l.length c]
 o : w.ownsRow B 5 1 (.slice A l.length c) l.length (bys l)
 z : B ≤ g
def Wt (B b : Nat) (l : List UInt8) (w : World) : Prop := ∃ A c, Ww B b A c l w
theorem Wt.below {B b : Nat} {l : List UInt8} {w w' : World} (h : Wt B b l w) (hb : Below w.heap.size w w') : Wt B b l w' := by
 obtain ⟨A, c, h⟩ := h;exact ⟨A, c, h.b.below hb, own_below h.o hb, h.z⟩
theorem Wt.base {B b : Nat} {l : List UInt8} {w : World} (h : Wt B b l w) : B ≤ w.heap.size := by
 obtain ⟨A, c, h⟩ := h;have := h.b.lt;have := h.z;omega
theorem NewWriter_any (w : World) : Calls Tryz.prog 36 #[] w fun e w' => e = .returned (.pointer (some ⟨w.heap.size, 0, none⟩)) ∧ Wt w.heap.size w.heap.size [] w' ∧ Below w.heap.size w w' := by
 go_enter Tryz.func36, Tryz.ntmps36;go_wp2_with fail;go_ret;exact ⟨rfl, ⟨none, 0, Blk.new _ _ _, World.ownsRow_nil _ _ _ _, Nat.le_refl _⟩, (Below.refl _ _).alloc (Nat.le_refl _) _⟩
theorem on_cell (b i k : Nat) (w : World) (h : w.cell? ⟨b, 0, none⟩ = some (.int .i64 i)) (hf : w.frozen? ⟨b, 0, none⟩ = false) (hk : i + k ≤ 4611686018427387904) :
 Calls Tryz.prog 61 #[.pointer (some ⟨b, 0, none⟩), .int .i64 k] w fun e w' => e = .returned (.tuple #[]) ∧ w' = w.setCell ⟨b, 0, none⟩ (.int .i64 ((i + k : Nat) : Int)) := by
 go_enter Tryz.func61, Tryz.ntmps61;go_wp2_with fail
 first | go_end0 | refine bodyPost_ret (results_none rfl _ _ _) rfl ?_
 exact ⟨rfl, by simp⟩
def KpW (w w' : World) : Prop := ∀ g t cs, Blk w g t cs → t ≠ 129 → t ≠ 5 → Blk w' g t cs
theorem KpW.refl (w : World) : KpW w w := fun _ _ _ h _ _ => h
theorem KpW.trans {w1 w2 w3 : World} (h : KpW w1 w2) (h2 : KpW w2 w3) : KpW w1 w3 := fun g t cs a b c => h2 g t cs (h g t cs a b c) b c
theorem KpW.of {w w' : World} (hb : Below w.heap.size w w') : KpW w w' := fun _ _ _ h _ _ => h.below hb
theorem KpW.fr {w0 w w' : World} (h : KpW w0 w) {S : Nat → Prop} (hf : Fr S w w') (hS : ∀ g, S g → BT w g 129 ∨ BT w g 5) : KpW w0 w' := fun g t cs h1 h2 h3 => (h g t cs h1 h2 h3).fr hf fun hg => by
 have hb : BT w g t := ⟨_, h g t cs h1 h2 h3⟩;rcases hS g hg with e | e
 · exact BT.ne hb e h2 rfl
 · exact BT.ne hb e h3 rfl
theorem ww_put {w w1 w2 : World} {B b c c' : Nat} {A A' : Option Addr} {l r : List UInt8} (h : Ww B b A c l w) (ho : w1.ownsRow B 5 1 (.slice A' (l ++ r).length c') (l ++ r).length (bys (l ++ r))) (hb : Blk w1 b 129 #[.int .i64 l.length, .slice A l.length c]) (hB : Below B w w1) (hkp : KpW w w1)
 (hw : w2 = (w1.setCell ⟨b, 1, none⟩ (.slice A' (l ++ r).length c')).setCell ⟨b, 0, none⟩ (.int .i64 ((l.length + r.length : Nat) : Int))) : Wt B b (l ++ r) w2 ∧ Below B w w2 ∧ KpW w w2 := by
 subst hw;have hne : some b ≠ (Value.slice A' (l ++ r).length c').ownBlock := own_ne ho hb (by decide)
 refine ⟨⟨A', c', ?_, own_far (own_far ho hne _) hne _, h.z⟩, (hB.setCell h.z _).setCell h.z _, hkp.fr (((Fr.refl _ _).set1 1 _).set1 0 _) (fun g hg => .inl (by have hg : g = b := hg; rw [hg]; exact ⟨_, hb⟩))⟩
 have h1 := (hb.set_ 1 (.slice A' (l ++ r).length c')).set_ 0 (.int .i64 ((l.length + r.length : Nat) : Int));rw [← List.length_append] at h1 ⊢;exact h1
theorem WPut_k (B b : Nat) (l : List UInt8) (A2 : Option Addr) (m c2 : Nat) (r : List UInt8) (w : World) (h : Wt B b l w) (hr : In w A2 m r) (hlen : l.length + m ≤ 140737488351232) :
 Calls Tryz.prog 37 #[.pointer (some ⟨b, 0, none⟩), .slice A2 m c2] w fun e w' => e = .returned (.tuple #[]) ∧ Wt B b (l ++ r) w' ∧ Below B w w' ∧ KpW w w' := by
 have hB := h.base;obtain ⟨A, c, h⟩ := h;have hrl := hr.len;obtain ⟨c0, c1⟩ := h.b.two;have f0 := h.b.frozen 0;have f1 := h.b.frozen 1;have H := Lib.hid h;have HR := Lib.hid hr;obtain ⟨n, hn⟩ : ∃ n, l.length = n := ⟨_, rfl⟩;have HO := Lib.hid h.o;have HBk := Lib.hid h.b;rw [hn] at c0 c1 hlen HO;have HN := Lib.hid hn;have HM := Lib.hid hrl;clear h hr hrl hn;go_enter Tryz.func37, Tryz.ntmps37;go_wp2_with (at_builtin; refine wpList_byt rfl (.tmp 8) (.tmp 9) rfl B A n c l rfl HO.out A2 m c2 r rfl HR.out hB hlen ?_)
 intro A' c' w1 ho hb1 hg hat;have hb1' : Blk w1 b 129 #[.int .i64 l.length, .slice A l.length c] := HBk.out.same (hg.block b HBk.out.lt (own_ne HO.out HBk.out (by decide)))
 have HO1 := Lib.hid ho;have HB1 := Lib.hid hb1;have HK1 := Lib.hid ((KpW.refl w).fr ((Fr.refl _ _).grown hg (fun g hg => .inl hg.symm)) (fun g hg => .inr (own_bt HO.out hg.symm)))
 have HBk1 := Lib.hid hb1';obtain ⟨e0, e3⟩ := hb1'.two;rw [HN.out] at e0 e3;have e1 := hb1'.frozen 1;have e2 := hb1'.frozen 0;have HON := Lib.hid (on_cell b n m (w1.setCell ⟨b, 1, none⟩ (.slice A' (n + m) c')) (by go_simp) (by go_simp) (by omega))
 clear hg hat ho hb1 hb1' c0 c1 f0 f1;go_wp2_with fail;refine HON.out.mono ?_;rintro e w2 ⟨rfl, hw2⟩;have HW := Lib.hid hw2;clear hw2;go_wp2_with fail
 first | go_end0 | refine bodyPost_ret (results_none rfl _ _ _) rfl ?_
 have hf := ww_put (r := r) H.out (by rw [List.length_append, HN.out, HM.out]; exact HO1.out) HBk1.out HB1.out HK1.out (w2 := w2) (by rw [List.length_append, HN.out, HM.out]; exact HW.out)
 exact ⟨rfl, hf.1, hf.2⟩
theorem WPut_any (B b : Nat) (l : List UInt8) (A2 : Option Addr) (m c2 : Nat) (r : List UInt8) (w : World) (h : Wt B b l w) (hr : In w A2 m r) (hlen : l.length + m ≤ 140737488351232) :
 Calls Tryz.prog 37 #[.pointer (some ⟨b, 0, none⟩), .slice A2 m c2] w fun e w' => e = .returned (.tuple #[]) ∧ Wt B b (l ++ r) w' ∧ Below B w w' := (WPut_k B b l A2 m c2 r w h hr hlen).mono fun _ _ ⟨a, b, c, _⟩ => ⟨a, b, c⟩
theorem in_new {w : World} {r : List UInt8} {cs : Array Value} (hcs : cs = (bys r).toArray) (hn : r.length ≤ 140737488351232) : In (w.alloc (.cells cs 5)) (some ⟨w.heap.size, 0, none⟩) r.length r := by
 subst hcs;refine ⟨⟨by rw [bys_length]; omega, fun _ => ⟨_, rfl, fun j u hu => ?_⟩⟩, fun _ ad had => by injection had with had; rw [← had]; simp, hn⟩
 have := (Blk.new w 5 (bys r).toArray).cell (0 + j);rw [show ((⟨w.heap.size, 0, none⟩ : Addr).add j) = ⟨w.heap.size, 0 + j, none⟩ by unfold Addr.add; split <;> simp_all, this]
 simpa using hu
theorem add_k (B b : Nat) (l : List UInt8) (z : UInt8) (w : World) (h : Wt B b l w) (hlen : l.length + 1 ≤ 140737488351232) :
 Calls Tryz.prog 64 #[.pointer (some ⟨b, 0, none⟩), .int .u8 (z.toNat : Int)] w fun e w' => e = .returned (.tuple #[]) ∧ Wt B b (l ++ [z]) w' ∧ Below B w w' ∧ KpW w w' := by
 have hB := h.base;obtain ⟨A, c, h⟩ := h;obtain ⟨c0, c1⟩ := h.b.two;have f0 := h.b.frozen 0;have f1 := h.b.frozen 1;have H := Lib.hid h;have hbl := h.b.lt;have hbs : ¬ b = w.heap.size := by omega
 obtain ⟨n, hn⟩ : ∃ n, l.length = n := ⟨_, rfl⟩;have HO := Lib.hid (own_below h.o ((Below.refl _ _).alloc (Nat.le_refl _) (.cells #[.int .u8 (z.toNat : Int)] 5)));have HI := Lib.hid (in_new (w := w) (r := [z]) (cs := #[.int .u8 (z.toNat : Int)]) rfl (by simp))
 have HBk := Lib.hid (h.b.alloc (.cells #[.int .u8 (z.toNat : Int)] 5));rw [hn] at c0 c1 hlen HO;have HN := Lib.hid hn;have hsz : B ≤ (w.alloc (.cells #[.int .u8 (z.toNat : Int)] 5)).heap.size := by simp; omega
 clear h hn;go_enter Tryz.func64, Tryz.ntmps64;go_wp2_with (at_builtin; refine wpList_byt rfl (.tmp 8) (.tmp 10) rfl B A n c l rfl HO.out _ 1 1 [z] rfl HI.out hsz hlen ?_);intro A' c' w1 ho hb1 hg hat;have hb1' : Blk w1 b 129 #[.int .i64 l.length, .slice A l.length c] := HBk.out.same (hg.block b HBk.out.lt (own_ne HO.out HBk.out (by decide)))
 have HO1 := Lib.hid ho;have HB1 := Lib.hid (((Below.refl B w).alloc hB (.cells #[.int .u8 (z.toNat : Int)] 5)).trans hb1);have HK1 := Lib.hid ((KpW.of ((Below.refl w.heap.size w).alloc (Nat.le_refl _) (.cells #[.int .u8 (z.toNat : Int)] 5))).fr ((Fr.refl _ _).grown hg (fun g hg => .inl hg.symm)) (fun g hg => .inr (own_bt HO.out hg.symm)))
 have HBk1 := Lib.hid hb1';obtain ⟨e0, e3⟩ := hb1'.two;rw [HN.out] at e0 e3;have e1 := hb1'.frozen 1;have e2 := hb1'.frozen 0;have HON := Lib.hid (on_cell b n 1 (w1.setCell ⟨b, 1, none⟩ (.slice A' (n + 1) c')) (by go_simp) (by go_simp) (by omega))
 clear hg hat ho hb1 hb1' c0 c1 f0 f1 hsz;go_wp2_with fail;refine HON.out.mono ?_;rintro e w2 ⟨rfl, hw2⟩;have HW := Lib.hid hw2;clear hw2;go_wp2_with fail
 first | go_end0 | refine bodyPost_ret (results_none rfl _ _ _) rfl ?_
 have hf := ww_put (r := [z]) H.out (by rw [List.length_append, HN.out]; exact HO1.out) HBk1.out HB1.out HK1.out (w2 := w2) (by rw [List.length_append, HN.out]; exact HW.out)
 exact ⟨rfl, hf.1, hf.2⟩
theorem add_any (B b : Nat) (l : List UInt8) (z : UInt8) (w : World) (h : Wt B b l w) (hlen : l.length + 1 ≤ 140737488351232) :
 Calls Tryz.prog 64 #[.pointer (some ⟨b, 0, none⟩), .int .u8 (z.toNat : Int)] w fun e w' => e = .returned (.tuple #[]) ∧ Wt B b (l ++ [z]) w' ∧ Below B w w' := (add_k B b l z w h hlen).mono fun _ _ ⟨a, b, c, _⟩ => ⟨a, b, c⟩
def leN (n v : Nat) : List UInt8 := (List.range n).map fun i => UInt8.ofNat (v / 2 ^ (8 * i))
def beN (n v : Nat) : List UInt8 := (List.range n).map fun i => UInt8.ofNat (v / 2 ^ (8 * (n - 1 - i)))
theorem leN_length (n v : Nat) : (leN n v).length = n := by simp [leN]
theorem leN_succ (n v : Nat) : leN (n + 1) v = leN n v ++ [UInt8.ofNat (v / 2 ^ (8 * n))] := by simp [leN, List.range_succ]
theorem wrap_of (q : Nat) : IntKind.u8.wrap (q : Int) = ((UInt8.ofNat q).toNat : Int) := by rw [IntKind.wrap_u8, UInt8.toNat_ofNat']; omega
theorem WLow_k (B b : Nat) (l : List UInt8) (v n : Nat) (w : World) (h : Wt B b l w) (hn : 1 ≤ n ∧ n ≤ 8) (hlen : l.length ≤ 4398046511104) :
 Calls Tryz.prog 42 #[.pointer (some ⟨b, 0, none⟩), .int .u64 v, .int .i64 n] w fun e w' => e = .returned (.int .i64 0) ∧ Wt B b (l ++ leN n v) w' ∧ Below B w w' ∧ KpW w w' := by
 have H0 := Lib.hid (show Wt B b (l ++ leN 0 v) w by simpa [leN] using h)
 have HW : Hid (∀ w, Calls Tryz.prog 63 #[.int .i64 n] w fun e w' => e = .returned (.bool true) ∧ w' = w) := fun w => by
  have h1 : (1 : Int) ≤ (n : Int) := by omega
  have h2 : (n : Int) ≤ 8 := by omega
  clear h hn H0;go_enter Tryz.func63, Tryz.ntmps63;go_wp2_with fail;go_ret;exact ⟨rfl, rfl⟩
 have HLen := Lib.hid hlen;obtain ⟨hn1, hn8⟩ := hn;clear h hlen;go_enter Tryz.func42, Tryz.ntmps42;go_wp2_with fail;refine (HW.out _).mono ?_;rintro e w1 ⟨rfl, rfl⟩;clear HW;go_wp2_with fail
 go_loopw [12] (fun s12 wr => ∃ i : Nat, s12 = .int .i64 (i : Int) ∧ i ≤ n ∧ Hid (Wt B b (l ++ leN i v) wr ∧ Below B w1 wr ∧ KpW w1 wr)) (fun s12 _ => n - (intOf s12).toNat)
 case atStart => exact ⟨0, rfl, Nat.zero_le _, H0.out, Below.refl _ _, KpW.refl _⟩
 case round =>
  obtain ⟨i, rfl, hi, H⟩ := hrel;by_cases hlt : i < n
  · have hlt' : (i : Int) < (n : Int) := by omega
    have hz := wrap_of (v / 2 ^ (8 * i));rw [show ((v / 2 ^ (8 * i) : Nat) : Int) = (v : Int) / 2 ^ (8 * i) by simp] at hz
    have HA := Lib.hid (add_k B b (l ++ leN i v) (UInt8.ofNat (v / 2 ^ (8 * i))) wr H.out.1 (by rw [List.length_append, leN_length]; have := HLen.out; omega))
    obtain ⟨z, hzz⟩ : ∃ z, UInt8.ofNat (v / 2 ^ (8 * i)) = z := ⟨_, rfl⟩;rw [hzz] at hz HA;have HZ := Lib.hid hzz;clear hzz;go_wp2_with fail;refine HA.out.mono ?_;rintro e w2 ⟨rfl, h2, hb2, hk2⟩;have H2 := Lib.hid (And.intro h2 (And.intro (H.out.2.1.trans hb2) (H.out.2.2.trans hk2)));clear h2 hb2 hk2 HA hz;go_wp2_with fail
    go_roundw
    case rel => exact ⟨i + 1, by go_num, by omega, by rw [leN_succ, ← List.append_assoc, HZ.out]; exact H2.out.1, H2.out.2⟩
    case measure => simp [intOf]; omega
  · obtain rfl : i = n := by omega
    have hlt' : ¬ (i : Int) < (i : Int) := by omega
    go_wp2_with fail;go_ret;exact ⟨rfl, H.out.1, H.out.2⟩
theorem WLow_any (B b : Nat) (l : List UInt8) (v n : Nat) (w : World) (h : Wt B b l w) (hn : 1 ≤ n ∧ n ≤ 8) (hlen : l.length ≤ 4398046511104) :
 Calls Tryz.prog 42 #[.pointer (some ⟨b, 0, none⟩), .int .u64 v, .int .i64 n] w fun e w' => e = .returned (.int .i64 0) ∧ Wt B b (l ++ leN n v) w' ∧ Below B w w' := (WLow_k B b l v n w h hn hlen).mono fun _ _ ⟨a, b, c, _⟩ => ⟨a, b, c⟩
theorem WBytes_any (B b : Nat) (l : List UInt8) (w : World) (h : Wt B b l w) (hlen : l.length ≤ 140737488351232) :
 Calls Tryz.prog 44 #[.pointer (some ⟨b, 0, none⟩)] w fun e w' => e = .returned (.slice (some ⟨w.heap.size, 0, none⟩) l.length l.length) ∧ w'.ownsRow w.heap.size 5 1 (.slice (some ⟨w.heap.size, 0, none⟩) l.length l.length) l.length (bys l) ∧ Below w.heap.size w w' := by
 obtain ⟨i0, hi0, hz0, hz1, hz2⟩ := info_parts infou8;obtain ⟨A, c, h⟩ := h;obtain ⟨c0, c1⟩ := h.b.two;have HI := Lib.hid (in_own h.o (by omega))
 have HBk := Lib.hid h.b;obtain ⟨n, hn⟩ : ∃ n, l.length = n := ⟨_, rfl⟩;rw [hn] at c1 HI HBk hlen ⊢;clear h c0 hn;go_enter Tryz.func44, Tryz.ntmps44;go_upto_region 2 with (at_make; refine wpList_make_full w rfl (.tmp 8) (.tmp 8) 22 rfl w.heap.size 5 i0 _ 1 Tryz.underlying22 hi0 hz0 hz1 .i64 .i64 n n n rfl rfl rfl rfl (by rw [hz2]; omega) (by unfold maxLen; omega) (Nat.le_refl _) ?_; intro w1 hown1 hg1)
 rw [made_zeros'] at hown1;have hb1 : Below w.heap.size w w1 := (Below.refl _ w).grown hg1 (Nat.le_refl _) (fun g hg => by cases hg)
 obtain ⟨R, hR⟩ : ∃ R, w.heap.size = R := ⟨_, rfl⟩;have HO := Lib.hid (show w1.ownsRow R 5 1 (.slice (some ⟨R, 0, none⟩) n n) n (bys (List.replicate n 0)) by rw [← hR]; exact hown1)
 have HB := Lib.hid hb1;have HR := Lib.hid hR;have e1 := (HBk.out.below hb1).two.2;rw [hR];clear hown1 hg1 hb1 hR c1;go_wp2_with (first | (with_reducible refine wpList_copy_all rfl _ _ rfl R R n _ rfl HO.out A c l rfl (HI.out.below HB.out) ?_))
 intro w2 hown2 hg2;have hb2 : Below R w w2 := (show Below R w w1 by rw [← HR.out]; exact HB.out).grown hg2 (by rw [← HR.out]; exact HB.out.size) (fun g hg => by injection hg with hg; omega)
 have HO2 := Lib.hid hown2;have HB2 := Lib.hid hb2;clear hown2 hg2 hb2;go_wp2_with fail;go_ret;exact ⟨by rw [HR.out]; rfl, by rw [HR.out]; exact HO2.out, by rw [HR.out]; exact HB2.out⟩
theorem WLen_any (B b : Nat) (l : List UInt8) (w : World) (h : Wt B b l w) :
 Calls Tryz.prog 41 #[.pointer (some ⟨b, 0, none⟩)] w fun e w' => e = .returned (.int .i64 l.length) ∧ w' = w := by
 obtain ⟨A, c, h⟩ := h;obtain ⟨c0, c1⟩ := h.b.two;obtain ⟨n, hn⟩ : ∃ n, l.length = n := ⟨_, rfl⟩;rw [hn] at c0 ⊢;clear h c1 hn;go_enter Tryz.func41, Tryz.ntmps41;go_wp2_with fail;go_ret;exact ⟨rfl, rfl⟩
theorem WZeros_k (B b : Nat) (l : List UInt8) (n : Nat) (w : World) (h : Wt B b l w) (hlen : l.length ≤ 4398046511104) (hn : n ≤ 65536) :
 Calls Tryz.prog 40 #[.pointer (some ⟨b, 0, none⟩), .int .i64 n] w fun e w' => e = .returned (.int .i64 0) ∧ Wt B b (l ++ List.replicate n 0) w' ∧ Below B w w' ∧ KpW w w' := by
 obtain ⟨i0, hi0, hz0, hz1, hz2⟩ := info_parts infou8;have hB := h.base;have HW := Lib.hid h;have h1 : decide ((n : Int) < 0) = false := decide_eq_false (by omega)
 have h2 : decide ((65536 : Int) < (n : Int)) = false := decide_eq_false (by omega)
 have h3 : decide (65536 < n) = false := decide_eq_false (by omega)
 have HL := Lib.hid hlen;clear h hlen;go_enter Tryz.func40, Tryz.ntmps40;go_wp2_with (at_make; refine wpList_make_full w rfl (.tmp 12) (.tmp 12) 22 rfl w.heap.size 5 i0 _ 1 Tryz.underlying22 hi0 hz0 hz1 .i64 .i64 n n n rfl rfl rfl rfl (by rw [hz2]; omega) (by unfold maxLen; omega) (Nat.le_refl _) ?_; intro w1 hown1 hg1)
 rw [made_zeros'] at hown1;have hb1 : Below w.heap.size w w1 := (Below.refl _ w).grown hg1 (Nat.le_refl _) (fun g hg => by cases hg)
 have HP := Lib.hid (WPut_k B b l _ n n (List.replicate n 0) w1 (HW.out.below hb1) (in_own hown1 (by omega)) (by have := HL.out; omega))
 have HB1 := Lib.hid (And.intro (hb1.mono hB) (KpW.of hb1));clear hown1 hg1 hb1;refine HP.out.mono ?_;rintro e w2 ⟨rfl, hw2, hb2, hk2⟩;have HW2 := Lib.hid hw2;have HB2 := Lib.hid (And.intro (HB1.out.1.trans hb2) (HB1.out.2.trans hk2));clear hw2 hb2 hk2;go_wp2_with fail;go_ret;exact ⟨rfl, HW2.out, HB2.out⟩
theorem WZeros_any (B b : Nat) (l : List UInt8) (n : Nat) (w : World) (h : Wt B b l w) (hlen : l.length ≤ 4398046511104) (hn : n ≤ 65536) :
 Calls Tryz.prog 40 #[.pointer (some ⟨b, 0, none⟩), .int .i64 n] w fun e w' => e = .returned (.int .i64 0) ∧ Wt B b (l ++ List.replicate n 0) w' ∧ Below B w w' := (WZeros_k B b l n w h hlen hn).mono fun _ _ ⟨a, b, c, _⟩ => ⟨a, b, c⟩
theorem beN_snoc (n v i : Nat) (_ : i < n) : (beN n v).take (i + 1) = (beN n v).take i ++ [UInt8.ofNat (v / 2 ^ (8 * (n - 1 - i)))] := by
 unfold beN;rw [List.take_add_one];simp [*]
theorem WHigh_any (B b : Nat) (l : List UInt8) (v n : Nat) (w : World) (h : Wt B b l w) (hn : 1 ≤ n ∧ n ≤ 8) (hlen : l.length ≤ 4398046511104) :
 Calls Tryz.prog 120 #[.pointer (some ⟨b, 0, none⟩), .int .u64 v, .int .i64 n] w fun e w' => e = .returned (.int .i64 0) ∧ Wt B b (l ++ beN n v) w' ∧ Below B w w' := by
 have H0 := Lib.hid (show Wt B b (l ++ (beN n v).take 0) w by simpa using h)
 have HW : Hid (∀ w, Calls Tryz.prog 63 #[.int .i64 n] w fun e w' => e = .returned (.bool true) ∧ w' = w) := fun w => by
  have h1 : (1 : Int) ≤ (n : Int) := by omega
  have h2 : (n : Int) ≤ 8 := by omega
  clear h hn H0;go_enter Tryz.func63, Tryz.ntmps63;go_wp2_with fail;go_ret;exact ⟨rfl, rfl⟩
 have HLen := Lib.hid hlen;obtain ⟨hn1, hn8⟩ := hn;clear h hlen;go_enter Tryz.func120, Tryz.ntmps120;go_wp2_with fail;refine (HW.out _).mono ?_;rintro e w1 ⟨rfl, rfl⟩;clear HW;go_wp2_with fail
 go_loopw [12] (fun s12 wr => ∃ i : Nat, s12 = .int .i64 (i : Int) ∧ i ≤ n ∧ Hid (Wt B b (l ++ (beN n v).take i) wr ∧ Below B w1 wr)) (fun s12 _ => n - (intOf s12).toNat)
 case atStart => exact ⟨0, rfl, Nat.zero_le _, H0.out, Below.refl _ _⟩
 case round =>
  obtain ⟨i, rfl, hi, H⟩ := hrel;by_cases hlt : i < n
  · have hlt' : (i : Int) < (n : Int) := by omega
    have hz := wrap_of (v / 2 ^ (8 * (n - 1 - i)));rw [show ((v / 2 ^ (8 * (n - 1 - i)) : Nat) : Int) = (v : Int) / 2 ^ (8 * (n - 1 - i)) by simp] at hz
    have HA := Lib.hid (add_any B b (l ++ (beN n v).take i) (UInt8.ofNat (v / 2 ^ (8 * (n - 1 - i)))) wr H.out.1 (by rw [List.length_append, List.length_take]; have := HLen.out; omega))
    obtain ⟨z, hzz⟩ : ∃ z, UInt8.ofNat (v / 2 ^ (8 * (n - 1 - i))) = z := ⟨_, rfl⟩;rw [hzz] at hz HA;have HZ := Lib.hid hzz;have hd : (8 * ((n : Int) - 1 - (i : Int))).toNat = 8 * (n - 1 - i) := by omega
    clear hzz;go_wp2_with fail;refine HA.out.mono ?_;rintro e w2 ⟨rfl, h2, hb2⟩;have H2 := Lib.hid (And.intro h2 (H.out.2.trans hb2));clear h2 hb2 HA hz hd;go_wp2_with fail
    go_roundw
    case rel => exact ⟨i + 1, by go_num, by omega, by rw [beN_snoc n v i hlt, ← List.append_assoc, HZ.out]; exact H2.out.1, H2.out.2⟩
    case measure => simp [intOf]; omega
  · obtain rfl : i = n := by omega
    have hlt' : ¬ (i : Int) < (i : Int) := by omega
    have hl : (beN i v).take i = beN i v := List.take_of_length_le (by simp [beN])
    rw [hl] at H;clear hl;go_wp2_with fail;go_ret;exact ⟨rfl, H.out.1, H.out.2⟩
theorem fsum_any (A : Option Addr) (n c : Nat) (l : List UInt8) (w : World) (hI : In w A n l) (hl : LaidC w) :
 Calls Tryz.prog 29 #[.slice A n c] w fun e w' => ∃ R, e = .returned (.slice (some ⟨R, 0, none⟩) 4 4) ∧ w'.ownsRow w.heap.size 5 1 (.slice (some ⟨R, 0, none⟩) 4 4) 4 (bys (leN 4 (crc32 l))) ∧ Below w.heap.size w w' := by
 have HI := Lib.hid hI;have HL := Lib.hid hl;clear hI hl;go_enter Tryz.func29, Tryz.ntmps29;go_wp2_with fail;refine (NewWriter_any w).mono ?_;rintro e w1 ⟨rfl, hW, hb⟩;have HW1 := Lib.hid hW;have HB1 := Lib.hid hb;clear hW hb;obtain ⟨B, hB⟩ : ∃ B, w.heap.size = B := ⟨_, rfl⟩;have HBE := Lib.hid hB;have hI1 := HI.out.below HB1.out;obtain ⟨w2, hw2⟩ : ∃ w2, w1.alloc (.cells #[.slice A n c] 22) = w2 := ⟨_, rfl⟩
 have hb2 : Below w1.heap.size w1 w2 := by rw [← hw2]; exact (Below.refl _ _).alloc (Nat.le_refl _) _
 obtain ⟨g, hg⟩ : ∃ g, w1.heap.size = g := ⟨_, rfl⟩;have hc2 : w2.cell? ⟨g, 0, none⟩ = some (.slice A n c) := by rw [← hw2, ← hg]; exact (Blk.new _ _ _).cell 0
 have HS := Lib.hid (Sum32_any g 1 A n c l w2 hc2 (hI1.below hb2) ((HL.out.below HB1.out).below hb2));have HW2 := Lib.hid (HW1.out.below hb2);have HB2 := Lib.hid (bup HB1.out hb2);have hcl := crc32_lt l;obtain ⟨s, hs⟩ : ∃ s, crc32 l = s := ⟨_, rfl⟩;rw [hs] at HS hcl;have HSE := Lib.hid hs;have hwr : IntKind.u64.wrap (s : Int) = (s : Int) := by rw [IntKind.wrap_u64]; omega
 rw [hB] at HW2 ⊢;clear hI1 hb2 hc2 HW1 HL HI hB hs;have Hw2 := Lib.hid (And.intro hw2 hg);clear hw2 hg;go_wp2_with fail;rw [Hw2.out.1, Hw2.out.2];refine HS.out.mono ?_;rintro e w3 ⟨rfl, rfl⟩;clear HS Hw2;have HLo := Lib.hid (WLow_any B B [] s 4 w3 HW2.out (by decide) (by decide))
 go_wp2_with fail;refine HLo.out.mono ?_;rintro e w4 ⟨rfl, hW4, hb4⟩;have HBy := Lib.hid (WBytes_any B B _ w4 hW4 (by simp [leN_length]))
 rw [List.nil_append, leN_length] at HBy;have HB4 := Lib.hid hb4;have hsz := hW4.base;have HSZ := Lib.hid hsz;clear hW4 hb4 HLo hsz;go_wp2_with fail;refine HBy.out.mono ?_;rintro e w5 ⟨rfl, ho, hb5⟩;have HO := Lib.hid ho;have HB5 := Lib.hid hb5;clear ho hb5 HBy;go_wp2_with fail;go_ret;exact ⟨w4.heap.size, rfl, by rw [HSE.out, HBE.out]; exact own_mono HO.out HSZ.out, by rw [HBE.out]; exact ((HBE.out ▸ HB2.out : Below B w w3).trans HB4.out).trans (HB5.out.mono HSZ.out)⟩
def u32s (l : List Nat) : List Value := l.map fun (z : Nat) => Value.int .u32 (z : Int)
def shaFirst : List Nat := [0x6a09e667, 0xbb67ae85, 0x3c6ef372, 0xa54ff53a, 0x510e527f, 0x9b05688c, 0x1f83d9ab, 0x5be0cd19]
def LaidF (w : World) : Prop := 12 < w.heap.size ∧ ∀ i : Nat, i < 8 → w.cell? ⟨12, i, none⟩ = some (.int .u32 (shaFirst.getD i 0 : Nat))
theorem LaidF.below {w w' : World} (h : LaidF w) (hb : Below w.heap.size w w') : LaidF w' := ⟨Nat.lt_of_lt_of_le h.1 hb.size, fun i hi => (hb.cell (p := ⟨12, i, none⟩) h.1).trans (h.2 i hi)⟩
structure Sh (h : Nat) (s : List Nat) (d : List UInt8) (n : Nat) (w : World) : Prop where
 b : Blk w h 242 (u32s s ++ bys d ++ [Value.int .i64 (n : Int)]).toArray
 s : s.length = 8
 l : d.length = 64
theorem Sh.below {h : Nat} {s : List Nat} {b : List UInt8} {n : Nat} {w w' : World} (k : Sh h s b n w) (hb : Below w.heap.size w w') : Sh h s b n w' := ⟨k.b.below hb, k.s, k.l⟩
theorem shaNew_any (w : World) (hf : LaidF w) :
 Calls Tryz.prog 96 #[] w fun e w' => e = .returned (.pointer (some ⟨w.heap.size, 0, none⟩)) ∧ Sh w.heap.size shaFirst (List.replicate 64 0) 0 w' ∧ Below w.heap.size w w' := by
 have c0 := hf.2 0 (by decide)
 have c1 := hf.2 1 (by decide)
 have c2 := hf.2 2 (by decide)
 have c3 := hf.2 3 (by decide)
 have c4 := hf.2 4 (by decide)
 have c5 := hf.2 5 (by decide)
 have c6 := hf.2 6 (by decide)
 have c7 := hf.2 7 (by decide)
 simp only [shaFirst, List.getD_cons_zero, List.getD_cons_succ, Int.cast_ofNat_Int] at c0 c1 c2 c3 c4 c5 c6 c7;clear hf;go_enter Tryz.func96, Tryz.ntmps96;go_wp2_with fail;go_ret;refine ⟨rfl, ⟨?_, rfl, by simp⟩, (Below.refl _ _).alloc (Nat.le_refl _) _⟩
 have e : (u32s shaFirst ++ bys (List.replicate 64 0) ++ [Value.int .i64 ((0 : Nat) : Int)]).toArray = ((((((((Tryz.zeroCells242.setIfInBounds 0 (.int .u32 1779033703)).setIfInBounds 1 (.int .u32 3144134277)).setIfInBounds 2 (.int .u32 1013904242)).setIfInBounds 3 (.int .u32 2773480762)).setIfInBounds 4 (.int .u32 1359893119)).setIfInBounds 5 (.int .u32 2600822924)).setIfInBounds 6 (.int .u32 528734635)).setIfInBounds 7 (.int .u32 1541459225)) := by kernel_rfl
 rw [e];exact Blk.new _ _ _
def Mk (k : Nat) (B : Nat) (v : Value) (w : World) : Prop :=
 (k = 0 ∧ v = .iface 194 (.agg #[])) ∨
 (k = 1 ∧ ∃ g, B ≤ g ∧ v = .iface 195 (.pointer (some ⟨g, 0, none⟩)) ∧ Blk w g 197 #[.int .u32 0]) ∨
 (k = 4 ∧ ∃ g, B ≤ g ∧ v = .iface 198 (.pointer (some ⟨g, 0, none⟩)) ∧ Blk w g 200 #[.int .u64 0]) ∨
 (k = 10 ∧ ∃ g h, B ≤ g ∧ B ≤ h ∧ v = .iface 201 (.pointer (some ⟨g, 0, none⟩)) ∧ Blk w g 205 #[.pointer (some ⟨h, 0, none⟩)] ∧ Sh h shaFirst (List.replicate 64 0) 0 w)
def kindOk (kind : Nat) : Prop := kind = 0 ∨ kind = 1 ∨ kind = 4 ∨ kind = 10
instance (k : Nat) : Decidable (kindOk k) := by unfold kindOk; exact inferInstance
theorem made_yes (k : Nat) (w : World) (hf : LaidF w) (hk : kindOk k) :
 Calls Tryz.prog 75 #[.int .i64 k] w fun e w' => ∃ t x, e = .returned (.iface t x) ∧ Mk k w.heap.size (.iface t x) w' ∧ Below w.heap.size w w' := by
 have HF := Lib.hid hf;clear hf;rcases hk with rfl | rfl | rfl | rfl
 · go_enter Tryz.func75, Tryz.ntmps75;go_wp2_with fail;go_ret;exact ⟨_, _, rfl, .inl ⟨rfl, rfl⟩, Below.refl _ _⟩
 · go_enter Tryz.func75, Tryz.ntmps75;go_wp2_with fail;go_ret;exact ⟨_, _, rfl, .inr (.inl ⟨rfl, _, Nat.le_refl _, rfl, Blk.new _ _ _⟩), (Below.refl _ _).alloc (Nat.le_refl _) _⟩
 · go_enter Tryz.func75, Tryz.ntmps75;go_wp2_with fail;go_ret;exact ⟨_, _, rfl, .inr (.inr (.inl ⟨rfl, _, Nat.le_refl _, rfl, Blk.new _ _ _⟩)), (Below.refl _ _).alloc (Nat.le_refl _) _⟩
 · go_enter Tryz.func75, Tryz.ntmps75;go_wp2_with fail;refine (shaNew_any _ HF.out).mono ?_;rintro e w1 ⟨rfl, hs, hb⟩;have HS := Lib.hid hs;have HB := Lib.hid hb;clear hs hb;go_wp2_with fail;go_ret;exact ⟨_, _, rfl, .inr (.inr (.inr ⟨rfl, _, w.heap.size, HB.out.size, Nat.le_refl _, rfl, Blk.new _ _ _, HS.out.below ((Below.refl _ _).alloc (Nat.le_refl _) _)⟩)), bmk_ HB.out _⟩
theorem made_no (k : Nat) (w : World) (hk : ¬ kindOk k) (h16 : k < 16) :
 Calls Tryz.prog 75 #[.int .i64 k] w fun e w' => e = .returned .nilIface ∧ w' = w := by
 have h0 : ((k : Int) == 0) = false := beq_eq_false_iff_ne.2 fun h => hk (.inl (by omega))
 have h1 : ((k : Int) == 1) = false := beq_eq_false_iff_ne.2 fun h => hk (.inr (.inl (by omega)))
 have h4 : ((k : Int) == 4) = false := beq_eq_false_iff_ne.2 fun h => hk (.inr (.inr (.inl (by omega))))
 have h10 : ((k : Int) == 10) = false := beq_eq_false_iff_ne.2 fun h => hk (.inr (.inr (.inr (by omega))))
 have n0 : (k == 0) = false := beq_eq_false_iff_ne.2 fun h => hk (.inl (by omega))
 have n1 : (k == 1) = false := beq_eq_false_iff_ne.2 fun h => hk (.inr (.inl (by omega)))
 have n4 : (k == 4) = false := beq_eq_false_iff_ne.2 fun h => hk (.inr (.inr (.inl (by omega))))
 have n10 : (k == 10) = false := beq_eq_false_iff_ne.2 fun h => hk (.inr (.inr (.inr (by omega))))
 clear hk;go_enter Tryz.func75, Tryz.ntmps75;go_wp2_with fail;go_ret;exact ⟨rfl, rfl⟩
def ckReadE (k : Nat) : Int := if kindOk k then 0 else if k < 16 then 4 else 6
theorem ckRead_any (k : Nat) (w : World) (hf : LaidF w) :
 Calls Tryz.prog 49 #[.int .i64 k] w fun e w' => e = .returned (.int .i64 (ckReadE k)) ∧ Below w.heap.size w w' := by
 have h0 : decide ((k : Int) < 0) = false := decide_eq_false (by omega)
 have HF := Lib.hid hf;clear hf;unfold ckReadE;by_cases hk : kindOk k
 · rw [if_pos hk];have h2 : decide ((16 : Int) ≤ (k : Int)) = false := decide_eq_false (by rcases hk with rfl | rfl | rfl | rfl <;> decide)
   have h3 : decide (16 ≤ k) = false := decide_eq_false (by rcases hk with rfl | rfl | rfl | rfl <;> decide)
   have HK := Lib.hid hk;clear hk;go_enter Tryz.func49, Tryz.ntmps49;go_wp2_with fail;refine (made_yes k w HF.out HK.out).mono ?_;rintro e w1 ⟨t, x, rfl, hm, hb⟩;have HB := Lib.hid hb;clear hb hm;go_wp2_with fail;go_ret;exact ⟨rfl, HB.out⟩
 · rw [if_neg hk];by_cases h16 : k < 16
   · rw [if_pos h16];have h2 : decide ((16 : Int) ≤ (k : Int)) = false := decide_eq_false (by omega)
     have h3 : decide (16 ≤ k) = false := decide_eq_false (by omega)
     have HK := Lib.hid hk;clear hk;go_enter Tryz.func49, Tryz.ntmps49;go_wp2_with fail;refine (made_no k w HK.out h16).mono ?_;rintro e w1 ⟨rfl, rfl⟩;go_wp2_with fail;go_ret;exact ⟨rfl, Below.refl _ _⟩
   · rw [if_neg h16];have h2 : decide ((16 : Int) ≤ (k : Int)) = true := decide_eq_true (by omega)
     have h3 : decide (16 ≤ k) = true := decide_eq_true (by omega)
     clear hk h16;go_enter Tryz.func49, Tryz.ntmps49;go_wp2_with fail;go_ret;exact ⟨rfl, Below.refl _ _⟩
theorem isKind_any (k : Nat) (w : World) (hf : LaidF w) :
 Calls Tryz.prog 28 #[.int .i64 k] w fun e w' => e = .returned (.bool (decide (kindOk k))) ∧ Below w.heap.size w w' := by
 have HR := Lib.hid (ckRead_any k w hf);clear hf;unfold ckReadE at HR;by_cases hk : kindOk k
 · rw [if_pos hk] at HR;rw [decide_eq_true hk];clear hk;go_enter Tryz.func28, Tryz.ntmps28;go_wp2_with fail;refine HR.out.mono ?_;rintro e w1 ⟨rfl, hb⟩;have HB := Lib.hid hb;clear hb;go_wp2_with fail;go_ret;exact ⟨rfl, HB.out⟩
 · rw [if_neg hk] at HR;rw [decide_eq_false hk];clear hk;obtain ⟨z, hz, hz0⟩ : ∃ z : Int, (if k < 16 then (4 : Int) else 6) = z ∧ (z == 0) = false := by
    by_cases h : k < 16
    · exact ⟨4, if_pos h, rfl⟩
    · exact ⟨6, if_neg h, rfl⟩
   rw [hz] at HR;clear hz;go_enter Tryz.func28, Tryz.ntmps28;go_wp2_with fail;refine HR.out.mono ?_;rintro e w1 ⟨rfl, hb⟩;have HB := Lib.hid hb;clear hb;go_wp2_with fail;go_ret;exact ⟨rfl, HB.out⟩
def ckSize (kind : Nat) : Nat := if kind = 1 then 4 else if kind = 4 then 8 else if kind = 10 then 32 else 0
def LaidZ (w : World) : Prop := 11 < w.heap.size ∧ ∀ k : Nat, kindOk k → w.cell? ⟨11, k, none⟩ = some (.int .i64 (ckSize k))
theorem LaidZ.below {w w' : World} (h : LaidZ w) (hb : Below w.heap.size w w') : LaidZ w' := ⟨Nat.lt_of_lt_of_le h.1 hb.size, fun k hk => (hb.cell (p := ⟨11, k, none⟩) h.1).trans (h.2 k hk)⟩
theorem ckSize_any (k : Nat) (w : World) (hz : LaidZ w) (hk : kindOk k) :
 Calls Tryz.prog 89 #[.int .i64 k] w fun e w' => e = .returned (.tuple #[.int .i64 (ckSize k), .int .i64 0]) ∧ w' = w := by
 have c := hz.2 k hk;have h16 : k < 16 := by rcases hk with rfl | rfl | rfl | rfl <;> decide
 have h16' : (k : Int) < 16 := by omega
 have h0 : decide ((k : Int) < 0) = false := decide_eq_false (by omega)
 have h2 : decide ((16 : Int) ≤ (k : Int)) = false := decide_eq_false (by omega)
 have h3 : decide (16 ≤ k) = false := decide_eq_false (by omega)
 obtain ⟨z, hzz⟩ : ∃ z, ckSize k = z := ⟨_, rfl⟩;rw [hzz] at c ⊢;clear hz hk hzz;go_enter Tryz.func89, Tryz.ntmps89;go_wp2_with fail
 go_ret2
 exact ⟨rfl, rfl⟩
end Go.Proofs.YtcjehjdehdoaeaaGreatDoor
