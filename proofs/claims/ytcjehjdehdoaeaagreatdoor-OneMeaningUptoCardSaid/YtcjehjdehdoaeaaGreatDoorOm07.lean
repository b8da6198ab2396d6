/-
  Laws on the way to the claim (OpI OpJ StNums StSmall). Conditions: those that each theorem states.
-/
import Derived.Test.YtcjehjdehdoaeaaGreatDoorOm06
import Derived.Test.YtcjehjdehdoaeaaGreatDoorChecked
import Derived.WalkKit
import Derived.WalkSpells
import Derived.WalkLawsBesides
import Derived.Lib.Strings
import Derived.Lib.Slices
import Derived.Lib.Small
import Derived.Lib.Walk
import Derived.Lib.BitFns
import Derived.Lib.Hide
import Derived.Deep.Light
import Derived.Test.YtcjehjdehdoaeaaGreatDoorOm01
set_option linter.unusedVariables false
set_option linter.unusedSimpArgs false
set_option maxRecDepth 1000000
set_option maxHeartbeats 16000000
namespace Go.Proofs.YtcjehjdehdoaeaaGreatDoor
open Go.RowKit
def DownPost (x : RcX) (r : TrR) (sb rb : Nat) (b : Bool) (n D S V C N : Nat) (w0 : World) (e : Ending) (w' : World) : Prop :=
 e = .returned (.int .i64 r.e) ∧ ∃ u, Tg x r.s sb rb r.ps b n D S V C N u w0 w' ∧ (r.e = 0 → u = r.v)
theorem pow2_le {i : Nat} (h : i ≤ 16) : (2 : Int) ^ (i + 1) ≤ 131072 := by
 have : (2 : Nat) ^ (i + 1) ≤ 2 ^ 17 := Nat.pow_le_pow_right (by decide) (by omega)
 have h2 : ((2 ^ (i + 1) : Nat) : Int) ≤ ((2 ^ 17 : Nat) : Int) := by exact_mod_cast this
 simpa using h2
theorem trGo_step {l : List UInt8} {at_ m v : Int} {n i : Nat} {b : Bool} {s : RcS} {ps : List Int} {r : TrR} (h : trGo l at_ n b (n - i) m v s ps = r) (hi : i < n) {R : BitR} (hR : bitT l s ps (at_ + m) = R) :
 r = if R.e = 0 then trGo l at_ n b (n - (i + 1)) (2 * m + R.v) (bits .or .i64 v (IntKind.i64.wrap (R.v * 2 ^ ordN b n i))) R.s R.ps else ⟨0, R.e, R.s, R.ps⟩ := by
 rw [← h, show n - i = (n - (i + 1)) + 1 by omega, trGo, hR, show n - ((n - (i + 1)) + 1) = i by omega]
theorem down_any (x : RcX) (s : RcS) (sb rb : Nat) (ps : List Int) (b : Bool) (at_ n D S V C N : Nat) (w0 w : World) (h : Tg x s sb rb ps b n D S V C N 0 w0 w) (hn : n ≤ 16) (ha : at_ ≤ 1048576) :
 Calls Tryz.prog 245 #[.int .i64 at_, .int .i64 n, .func (.func 246) #[] #[.pointer (some ⟨D, 0, none⟩), .pointer (some ⟨S, 0, none⟩), .pointer (some ⟨V, 0, none⟩), .pointer (some ⟨C, 0, none⟩), .pointer (some ⟨N, 0, none⟩)]] w (DownPost x (trGo x.l at_ n b n 1 0 s ps) sb rb b n D S V C N w0) := by
 obtain ⟨r, hr⟩ : ∃ r, trGo x.l at_ n b n 1 0 s ps = r := ⟨_, rfl⟩;rw [hr];have H : Hid (Tg x s sb rb ps b n D S V C N 0 w0 w ∧ trGo x.l at_ n b (n - 0) 1 0 s ps = r) := ⟨h, hr⟩;clear h hr;go_enter Tryz.func245, Tryz.ntmps245;go_wp2_with fail
 go_loopw [7, 12] (fun s7 s12 wr => ∃ (i : Nat) (m v : Int) (s : RcS) (ps : List Int), s12 = .int .i64 (i : Int) ∧ s7 = .int .i64 m ∧ i ≤ n ∧ 1 ≤ m ∧ m < 2 ^ (i + 1) ∧ Hid (Tg x s sb rb ps b n D S V C N v w0 wr ∧ trGo x.l at_ n b (n - i) m v s ps = r)) (fun _ s12 _ => n - (intOf s12).toNat)
 case atStart => exact ⟨0, 1, 0, s, ps, rfl, rfl, Nat.zero_le _, by decide, by decide, H⟩
 case round =>
  clear H;obtain ⟨i, m, v, s, ps, rfl, rfl, hi, hm1, hm2, H⟩ := hrel;by_cases hlt : i < n
  · have hlt' : (i : Int) < (n : Int) := by omega
    have hp := pow2_le (i := i) (by omega)
    have hm3 : m ≤ 131072 := by omega
    have hv := bitT_bit x.l s ps (at_ + m);have hst := trGo_step H.out.2 hlt rfl;have HG := Lib.hid (get1_any x s sb rb ps b n i D S V C N v (at_ + m) w0 wr H.out.1 hlt hn);obtain ⟨R, hR⟩ : ∃ R, bitT x.l s ps (at_ + m) = R := ⟨_, rfl⟩;rw [hR] at hv hst HG;have Hst := Lib.hid hst;have HM := Lib.hid (show 1 ≤ 2 * m + R.v ∧ 2 * m + R.v < 2 ^ (i + 1 + 1) by rw [Int.pow_succ 2 (i + 1)]; omega)
    clear hst hR H hm2 hp;go_wp2_with fail;refine HG.out.mono ?_;rintro e w1 ⟨rfl, h1⟩;have H1 := Lib.hid h1;clear h1 HG;by_cases he : R.e = 0
    · have H2 := Lib.hid (by have := Hst.out; rw [if_pos he] at this; exact this)
      obtain ⟨Re, hRe⟩ : ∃ q, R.e = q := ⟨_, rfl⟩;rw [hRe] at he ⊢;subst he;clear hRe Hst;go_wp2_with fail
      go_roundw
      case rel => exact ⟨i + 1, 2 * m + R.v, _, _, _, by go_num, rfl, by omega, HM.out.1, HM.out.2, H1.out, H2.out.symm⟩
      case measure => simp [intOf]; omega
    · have H2 := Lib.hid (by have := Hst.out; rw [if_neg he] at this; exact this)
      clear Hst;go_wp2_with fail;go_ret;refine ⟨by rw [H2.out]; rfl, _, by rw [H2.out]; exact H1.out, fun h0 => absurd (by rw [H2.out] at h0; exact h0) he⟩
  · obtain rfl : i = n := by omega
    have hlt' : ¬ (i : Int) < (i : Int) := by omega
    go_wp2_with fail;go_ret;have h2 := H.out.2;rw [Nat.sub_self, trGo] at h2;exact ⟨by rw [← h2]; rfl, v, by rw [← h2]; exact H.out.1, fun _ => by rw [← h2]⟩
def GetPost (x : RcX) (r : TrR) (sb rb : Nat) (w : World) (e : Ending) (w' : World) : Prop :=
 e = .returned (.tuple #[.int .i64 r.v, .int .i64 r.e]) ∧ Rc x r.s w' ∧ Ps sb rb r.ps w' ∧ Fr (fun g => g = x.db ∨ g = rb) w w'
theorem trGo_bad {l : List UInt8} {at_ : Int} {n : Nat} {b : Bool} : ∀ (r : Nat) (m v : Int) (s : RcS) (ps : List Int), (trGo l at_ n b r m v s ps).e ≠ 0 → (trGo l at_ n b r m v s ps).v = 0 := by
 intro r;induction r with
 | zero => intro m v s ps h; exact absurd rfl h
 | succ r ih =>
  intro m v s ps h;rw [trGo] at h ⊢;split at h
  · rename_i h0; rw [if_pos h0]; exact ih _ _ _ _ h
  · rename_i h0; rw [if_neg h0]
theorem get_any (x : RcX) (s : RcS) (sb rb : Nat) (ps : List Int) (b : Bool) (at_ n : Int) (w : World) (h : Rc x s w) (hp : Ps sb rb ps w) :
 Calls Tryz.prog 242 #[.pointer (some ⟨x.db, 0, none⟩), .pointer (some ⟨sb, 0, none⟩), .int .i64 at_, .int .i64 n, .bool b] w (GetPost x (trT x.l s ps at_ n b) sb rb w) := by
 go_enter Tryz.func242, Tryz.ntmps242;go_upto_region 1 with (fail);obtain ⟨D, hD⟩ : ∃ D, w.heap.size = D := ⟨_, rfl⟩;obtain ⟨S, hS⟩ : ∃ S, D + 1 = S := ⟨_, rfl⟩;obtain ⟨N, hN⟩ : ∃ N, S + 1 = N := ⟨_, rfl⟩;obtain ⟨C, hC⟩ : ∃ C, N + 1 = C := ⟨_, rfl⟩;obtain ⟨w4, hw4⟩ : ∃ w4, ((((w.alloc (.cells #[.pointer (some ⟨x.db, 0, none⟩)] 371)).alloc (.cells #[.pointer (some ⟨sb, 0, none⟩)] 248)).alloc (.cells #[.int .i64 n] 3)).alloc (.cells #[.bool b] 4)) = w4 := ⟨_, rfl⟩
 have hb4 : Below w.heap.size w w4 := by
  rw [← hw4];exact ((((Below.refl _ _).alloc (Nat.le_refl _) _).alloc (by simp) _).alloc (by simp <;> omega) _).alloc (by simp <;> omega) _
 have hz4 : w4.heap.size = C + 1 := by rw [← hw4]; simp; omega
 have hT : Blk w4 D 371 #[.pointer (some ⟨x.db, 0, none⟩)] ∧ Blk w4 S 248 #[.pointer (some ⟨sb, 0, none⟩)] ∧ Blk w4 N 3 #[.int .i64 n] ∧ Blk w4 C 4 #[.bool b] := by
  subst hw4 hC hN hS hD;exact ⟨(((Blk.new _ _ _).alloc _).alloc _).alloc _, ((Blk.new_at (by simp)).alloc _).alloc _, (Blk.new_at (by simp)).alloc _, Blk.new_at (by simp)⟩
 rw [hw4, hD, hS, hN, hC];have s0 := hT.2.1.one;have n0 := hT.2.2.1.one;have HT := Lib.hid hT;have HB4 := Lib.hid hb4;have hlt := h.b.lt;have hlt2 := hp.s.lt;have hlt3 := hp.r.lt;have hr4 := Lib.hid (h.below hb4);have hp4 := Lib.hid (hp.below hb4);have hln := hp.n;have HZ := Lib.hid (And.intro hD (And.intro hS (And.intro hN hC)));clear hw4 hT hb4 h hp hD hS hN hC;by_cases hth : thereB ps.length at_ n = true
 · have hcond : 0 ≤ n ∧ n ≤ 16 ∧ 0 ≤ at_ ∧ at_ ≤ (ps.length : Int) := by
    have := of_decide_eq_true hth;exact ⟨this.1, this.2.1, this.2.2.1, this.2.2.2.1⟩
   obtain ⟨n, rfl⟩ : ∃ k : Nat, n = k := ⟨n.toNat, by omega⟩
   obtain ⟨at_, rfl⟩ : ∃ k : Nat, at_ = k := ⟨at_.toNat, by omega⟩
   have hn : n ≤ 16 := by omega
   have ha : at_ ≤ 1048576 := by omega
   have HR : Hid (trT x.l s ps at_ n b = trGo x.l at_ n b n 1 0 s ps) := by show _ = _; unfold trT; rw [if_pos hth, Int.toNat_natCast]
   have HX := Lib.hid (there_any sb rb ps at_ n w4 hp4.out);rw [hth] at HX;clear hth hcond hln;go_wp2_with fail;refine HX.out.mono ?_;rintro e w5 ⟨rfl, k, rfl⟩;go_upto_region 4 with (fail);obtain ⟨V, hV⟩ : ∃ V, C + 1 = V := ⟨_, rfl⟩;rw [hV];obtain ⟨w5, hw5⟩ : ∃ w5, ((w4.drewN k).alloc (.cells #[.int .i64 0] 3)) = w5 := ⟨_, rfl⟩;rw [hw5];have H5 : Hid (Tg x s sb rb ps b n D S V C N 0 w w5) := by
    show Tg _ _ _ _ _ _ _ _ _ _ _ _ _ _ _;have hb5 : Below w4.heap.size w4 w5 := by rw [← hw5]; exact (below_drewN (Below.refl _ _) k).alloc (Nat.le_refl _) _
    have hz := HZ.out;refine ⟨⟨HT.out.1.below hb5, HT.out.2.1.below hb5, by rw [← hw5]; exact Blk.new_at (by show V = w4.heap.size; omega), HT.out.2.2.2.below hb5, HT.out.2.2.1.below hb5⟩, hr4.out.below hb5, hp4.out.below hb5, (Fr.of_below HB4.out).of_below' hb5, by omega⟩
   have n5 := H5.out.t.n.one;clear hw5 hz4 hV HX hr4 hp4 HT s0 n0 HB4;have hmf : ∀ (fn : Fn) (first cap : Array Value) (w : World), (Instr.makeFunc fn first cap).run Tryz.prog w = .ok (.func fn first cap) w := fun _ _ _ _ => rfl
   go_wp2_with fail;refine (down_any x s sb rb ps b at_ n D S V C N w w5 H5.out hn ha).mono ?_;rintro e w6 ⟨rfl, u, h6, hu⟩;have H6 := Lib.hid h6;have v6 := h6.t.v.one;have HU := Lib.hid hu;clear h6 hu;by_cases he : (trGo x.l at_ n b n 1 0 s ps).e = 0
   · obtain ⟨r, hr⟩ : ∃ r, trGo x.l at_ n b n 1 0 s ps = r := ⟨_, rfl⟩;rw [hr] at he H6 HU HR ⊢;have hu := HU.out he;subst hu;have H0 := Lib.hid he;obtain ⟨re, hre⟩ : ∃ q, r.e = q := ⟨_, rfl⟩;rw [hre] at he ⊢;subst he;clear hre HU;go_wp2_with fail
     go_ret2
     exact ⟨by rw [HR.out, H0.out]; rfl, by rw [HR.out]; exact H6.out.r, by rw [HR.out]; exact H6.out.p, H6.out.k⟩
   · have H0 := Lib.hid (trGo_bad n 1 0 s ps he);obtain ⟨r, hr⟩ : ∃ r, trGo x.l at_ n b n 1 0 s ps = r := ⟨_, rfl⟩;rw [hr] at he H6 HR H0 ⊢;clear hr HU;go_wp2_with fail
     go_ret2
     exact ⟨by rw [HR.out, H0.out]; rfl, by rw [HR.out]; exact H6.out.r, by rw [HR.out]; exact H6.out.p, H6.out.k⟩
 · have HR : Hid (trT x.l s ps at_ n b = ⟨0, 7, s, ps⟩) := by show _ = _; unfold trT; rw [if_neg hth]
   have HX := Lib.hid (there_any sb rb ps at_ n w4 hp4.out);rw [eq_false_of_ne_true hth] at HX;clear hth hln;go_wp2_with fail;refine HX.out.mono ?_;rintro e w5 ⟨rfl, k, rfl⟩;go_wp2_with fail
   go_ret2
   have hb5 : Below w4.heap.size w4 (w4.drewN k) := below_drewN (Below.refl _ _) k;exact ⟨by rw [HR.out]; rfl, by rw [HR.out]; exact hr4.out.below hb5, by rw [HR.out]; exact hp4.out.below hb5, (Fr.of_below HB4.out).of_below' hb5⟩
theorem Get_any (x : RcX) (s : RcS) (sb rb : Nat) (ps : List Int) (at_ n : Int) (w : World) (h : Rc x s w) (hp : Ps sb rb ps w) :
 Calls Tryz.prog 236 #[.pointer (some ⟨x.db, 0, none⟩), .pointer (some ⟨sb, 0, none⟩), .int .i64 at_, .int .i64 n] w (GetPost x (trT x.l s ps at_ n false) sb rb w) := by
 have HG := Lib.hid (get_any x s sb rb ps false at_ n w h hp);clear h hp;go_enter Tryz.func236, Tryz.ntmps236;go_wp2_with fail;refine HG.out.mono ?_;rintro e w1 ⟨rfl, h1⟩;go_wp2_with fail
 go_ret2
 exact ⟨rfl, h1⟩
theorem GetBack_any (x : RcX) (s : RcS) (sb rb : Nat) (ps : List Int) (at_ n : Int) (w : World) (h : Rc x s w) (hp : Ps sb rb ps w) :
 Calls Tryz.prog 237 #[.pointer (some ⟨x.db, 0, none⟩), .pointer (some ⟨sb, 0, none⟩), .int .i64 at_, .int .i64 n] w (GetPost x (trT x.l s ps at_ n true) sb rb w) := by
 have HG := Lib.hid (get_any x s sb rb ps true at_ n w h hp);clear h hp;go_enter Tryz.func237, Tryz.ntmps237;go_wp2_with fail;refine HG.out.mono ?_;rintro e w1 ⟨rfl, h1⟩;go_wp2_with fail
 first | go_ret2 | go_ret
 exact ⟨rfl, h1⟩
theorem infoint : (Tryz.prog.info? 3).map (fun i => (i.zero, i.size, i.bytes)) = some (some (.int .i64 0), 1, 8) := by kernel_rfl
theorem blk_of_own {w : World} {B : Nat} {e : TypeId} {n g : Nat} {xs : List Value} (h : w.ownsRow B e 1 (.slice (some ⟨g, 0, none⟩) n n) n xs) : Blk w g e xs.toArray ∧ B ≤ g := by
 rcases h.2 with ⟨hv, _⟩ | ⟨g', cap, cur, hv, hb, hg, hn, hc, hs, hx⟩
 · cases hv
 · injection hv with h1 h2 h3;injection h1 with h1;injection h1 with h1;subst h1; subst h3;refine ⟨?_, hb⟩;have h5 : cur.toList = xs := by
    rw [← hx, List.take_of_length_le];simp only [Array.length_toList];omega
   unfold Blk;rw [hg, ← h5]
theorem made_i64s (n : Nat) : (madeCells (Value.int .i64 0).cells (n * 1)).toList = i64s (List.replicate n 0) := by
 apply List.ext_getElem
 · simp [madeCells, i64s]
 · intro i h1 h2;simp [madeCells, i64s, Value.cells, Nat.mod_one]
def halfs (n : Nat) : List Int := List.replicate n 1024
theorem Reset_any (sb rb n : Nat) (w : World) (h : Ps sb rb (List.replicate n 0) w) :
 Calls Tryz.prog 178 #[.pointer (some ⟨sb, 0, none⟩)] w fun e w' => e = .returned (.tuple #[]) ∧ Ps sb rb (halfs n) w' ∧ Fr (fun g => g = rb) w w' := by
 have hn := h.n;rw [List.length_replicate] at hn;have H : Hid (Ps sb rb (List.replicate 0 1024 ++ List.replicate (n - 0) 0) w ∧ Fr (fun g => g = rb) w w) := ⟨by simpa using h, Fr.refl _ _⟩
 have c0 : w.cell? ⟨sb, 0, none⟩ = some (.slice (some ⟨rb, 0, none⟩) n n) := by have := h.s.one; rw [List.length_replicate] at this; exact this
 clear h;go_enter Tryz.func178, Tryz.ntmps178;go_wp2_with fail;clear c0
 go_loopw [8] (fun s8 wr => ∃ i : Nat, s8 = .int .i64 (i : Int) ∧ i ≤ n ∧ Hid (Ps sb rb (List.replicate i 1024 ++ List.replicate (n - i) 0) wr ∧ Fr (fun g => g = rb) w wr)) (fun s8 _ => n - (intOf s8).toNat)
 case atStart => exact ⟨0, rfl, Nat.zero_le _, H⟩
 case round =>
  clear H;obtain ⟨i, rfl, hi, H⟩ := hrel;by_cases hlt : i < n
  · have hlt' : (i : Int) < (n : Int) := by omega
    have hl : (List.replicate i (1024 : Int) ++ List.replicate (n - i) 0).length = n := by simp; omega
    have c0 : wr.cell? ⟨sb, 0, none⟩ = some (.slice (some ⟨rb, 0, none⟩) n n) := by have := H.out.1.s.one; rw [hl] at this; exact this
    have c1 := H.out.1.cell (i := i) (by rw [hl]; exact hlt)
    have f1 := H.out.1.r.frozen i;obtain ⟨q, hq⟩ : ∃ q, (List.replicate i (1024 : Int) ++ List.replicate (n - i) 0).getD i 0 = q := ⟨_, rfl⟩;rw [hq] at c1;have HS := Lib.hid (show (List.replicate i (1024 : Int) ++ List.replicate (n - i) (0 : Int)).set i (1024 : Int) = List.replicate (i + 1) (1024 : Int) ++ List.replicate (n - (i + 1)) (0 : Int) by
     rw [List.set_append_right _ _ (by simp), List.length_replicate, Nat.sub_self, show n - i = (n - (i + 1)) + 1 by omega, List.replicate_succ, List.set_cons_zero, List.replicate_succ', List.append_assoc, List.singleton_append])
    clear hl hq;go_wp2_with fail
    go_roundw
    case rel => exact ⟨i + 1, by go_num, by omega, by rw [← HS.out]; exact H.out.1.set i _, Fr.set1 H.out.2 i _⟩
    case measure => simp [intOf]; omega
  · obtain rfl : i = n := by omega
    have hlt' : ¬ (i : Int) < (i : Int) := by omega
    go_wp2_with fail
    first | go_end0 | refine bodyPost_ret (results_none rfl _ _ _) rfl ?_
    exact ⟨rfl, by have := H.out.1; rw [Nat.sub_self, List.replicate_zero, List.append_nil] at this; exact this, H.out.2⟩
def NewSet (n : Nat) (w : World) (sb rb : Nat) (w' : World) : Prop := Ps sb rb (halfs n) w' ∧ Below w.heap.size w w' ∧ w.heap.size ≤ rb ∧ w.heap.size ≤ sb
theorem PNew_any (n : Nat) (w : World) (hn : n ≤ 1048576) :
 Calls Tryz.prog 144 #[.int .i64 n] w fun e w' => ∃ sb rb, e = .returned (.tuple #[.pointer (some ⟨sb, 0, none⟩), .int .i64 0]) ∧ NewSet n w sb rb w' := by
 obtain ⟨i0, hi0, hz0, hz1, hz2⟩ := info_parts infoint;have h0 : ¬ (n : Int) < 0 := by omega
 have h1 : ¬ 1048576 < (n : Int) := by omega
 go_enter Tryz.func144, Tryz.ntmps144;go_wp2_with (at_make; refine wpList_make_full w rfl (.tmp 11) (.tmp 11) 48 rfl w.heap.size 3 i0 _ 1 Tryz.underlying48 hi0 hz0 hz1 .i64 .i64 n n n rfl rfl rfl rfl (by rw [hz2]; omega) (by unfold maxLen; omega) (Nat.le_refl _) ?_; intro w1 hown1 hg1)
 rw [made_i64s] at hown1;have hb1 : Below w.heap.size w w1 := (Below.refl _ w).grown hg1 (Nat.le_refl _) (fun g hg => by cases hg)
 obtain ⟨R, hR⟩ : ∃ R, w.heap.size = R := ⟨_, rfl⟩;obtain ⟨D, hD⟩ : ∃ D, w1.heap.size = D := ⟨_, rfl⟩;rw [hR] at hown1;have hP := blk_of_own hown1;obtain ⟨w2, hw2⟩ : ∃ w2, w1.alloc (.cells #[.slice (some ⟨R, 0, none⟩) n n] 334) = w2 := ⟨_, rfl⟩;have h2 : Ps D R (List.replicate n 0) w2 := by
  rw [← hw2];refine ⟨?_, hP.1.alloc _, by rw [List.length_replicate]; exact hn⟩
  rw [List.length_replicate];exact Blk.new_at hD.symm
 have hb2 : Below w.heap.size w w2 := by rw [← hw2]; exact bmk_ hb1 _
 rw [hR, hD, hw2];have H2 := Lib.hid h2;have HB := Lib.hid hb2;have HZ := Lib.hid (And.intro hR (show R ≤ D by rw [← hD, ← hR]; exact hb1.size))
 clear hown1 hg1 hb1 hR hD hP hw2 h2 hb2;refine (Reset_any D R n w2 H2.out).mono ?_;rintro e w3 ⟨rfl, h3, hf3⟩;have H3 := Lib.hid (show NewSet n w D R w3 from ⟨h3, ⟨hf3.os.trans HB.out.os, hf3.tape.trans HB.out.tape, hf3.output.trans HB.out.output, Nat.le_trans HB.out.size hf3.size, fun k hk => (hf3.block k (Nat.lt_of_lt_of_le hk HB.out.size) (by have := HZ.out; omega)).trans (HB.out.block k hk)⟩, by have := HZ.out; omega, by have := HZ.out; omega⟩)
 clear h3 hf3;go_wp2_with fail
 go_ret2
 exact ⟨D, R, rfl, H3.out⟩
theorem row_any (n : Nat) (w : World) (hn : n ≤ 1048576) :
 Calls Tryz.prog 117 #[.int .i64 n] w fun e w' => ∃ sb rb, e = .returned (.pointer (some ⟨sb, 0, none⟩)) ∧ NewSet n w sb rb w' := by
 have HN := Lib.hid (PNew_any n w hn);go_enter Tryz.func117, Tryz.ntmps117;go_wp2_with fail;refine HN.out.mono ?_;rintro e w1 ⟨sb, rb, rfl, h1⟩;have H1 := Lib.hid h1;clear h1;go_wp2_with fail;go_ret;exact ⟨sb, rb, rfl, H1.out⟩
def SetsL (B : Nat) (l : List (Nat × Nat)) (ps : List (List Int)) (w : World) : Prop :=
 l.length = ps.length ∧ ∀ j, j < l.length → Ps (l.getD j (0, 0)).1 (l.getD j (0, 0)).2 (ps.getD j []) w ∧ B ≤ (l.getD j (0, 0)).1 ∧ B ≤ (l.getD j (0, 0)).2 ∧ ∀ i, i < j → (l.getD i (0, 0)).2 < (l.getD j (0, 0)).2
theorem SetsL.nil (B : Nat) (w : World) : SetsL B [] [] w := ⟨rfl, fun _ h => absurd h (by simp)⟩
theorem SetsL.below {B : Nat} {l : List (Nat × Nat)} {ps : List (List Int)} {w w' : World} (h : SetsL B l ps w) (hb : Below w.heap.size w w') : SetsL B l ps w' :=
 ⟨h.1, fun j hj => ⟨(h.2 j hj).1.below hb, (h.2 j hj).2⟩⟩
theorem SetsL.snoc {B : Nat} {l : List (Nat × Nat)} {ps : List (List Int)} {n sb rb : Nat} {w w' : World} (h : SetsL B l ps w) (hn : NewSet n w sb rb w') (hB : B ≤ w.heap.size) : SetsL B (l ++ [(sb, rb)]) (ps ++ [halfs n]) w' := by
 obtain ⟨n1, n2, n3, n4⟩ := hn;refine ⟨by simp [h.1], fun j hj => ?_⟩
 rw [List.length_append, List.length_singleton] at hj;by_cases hlt : j < l.length
 · have e1 : (l ++ [(sb, rb)]).getD j (0, 0) = l.getD j (0, 0) := by simp [List.getD, List.getElem?_append_left hlt]
   have e2 : (ps ++ [halfs n]).getD j [] = ps.getD j [] := by simp [List.getD, List.getElem?_append_left (show j < ps.length by rw [← h.1]; exact hlt)]
   rw [e1, e2];refine ⟨(h.2 j hlt).1.below n2, (h.2 j hlt).2.1, (h.2 j hlt).2.2.1, fun i hi => ?_⟩
   have e3 : (l ++ [(sb, rb)]).getD i (0, 0) = l.getD i (0, 0) := by simp [List.getD, List.getElem?_append_left (show i < l.length by omega)]
   rw [e3];exact (h.2 j hlt).2.2.2 i hi
 · obtain rfl : j = l.length := by omega
   have e1 : (l ++ [(sb, rb)]).getD l.length (0, 0) = (sb, rb) := by simp [List.getD]
   have e2 : (ps ++ [halfs n]).getD l.length [] = halfs n := by rw [h.1]; simp [List.getD]
   rw [e1, e2];refine ⟨n1, by show B ≤ sb; omega, by show B ≤ rb; omega, fun i hi => ?_⟩
   have e3 : (l ++ [(sb, rb)]).getD i (0, 0) = l.getD i (0, 0) := by simp [List.getD, List.getElem?_append_left hi]
   rw [e3];have := (h.2 i hi).1.r.lt;show _ < rb;omega
theorem SetsL.fr {B : Nat} {l : List (Nat × Nat)} {ps : List (List Int)} {w w' : World} (h : SetsL B l ps w) {S : Nat → Prop} (hf : Fr S w w') (h1 : ∀ g, BT w g 334 → ¬ S g) (h2 : ∀ g, BT w g 3 → ¬ S g) : SetsL B l ps w' :=
 ⟨h.1, fun j hj => ⟨(h.2 j hj).1.fr hf (h1 _ ⟨_, (h.2 j hj).1.s⟩) (h2 _ ⟨_, (h.2 j hj).1.r⟩), (h.2 j hj).2⟩⟩
theorem row_sets {B : Nat} {l : List (Nat × Nat)} {ps : List (List Int)} (z : Int) (w : World) (h : SetsL B l ps w) (hB : B ≤ w.heap.size) (hz : 0 ≤ z ∧ z ≤ 1048576) :
 Calls Tryz.prog 117 #[.int .i64 z] w fun e w' => ∃ a : Nat × Nat, e = .returned (.pointer (some ⟨a.1, 0, none⟩)) ∧ SetsL B (l ++ [a]) (ps ++ [halfs z.toNat]) w' ∧ Below w.heap.size w w' := by
 obtain ⟨n, rfl⟩ : ∃ n : Nat, z = n := ⟨z.toNat, by omega⟩
 refine (row_any n w (by omega)).mono ?_
 rintro e w' ⟨sb, rb, rfl, h1⟩;exact ⟨(sb, rb), rfl, h.snoc h1 hB, h1.2.1⟩
theorem lengths_sets {B : Nat} {l : List (Nat × Nat)} {ps : List (List Int)} (w : World) (h : SetsL B l ps w) (hB : B ≤ w.heap.size) :
 Calls Tryz.prog 118 #[] w fun e w' => ∃ a b c d : Nat × Nat, e = .returned (.agg #[.pointer (some ⟨a.1, 0, none⟩), .pointer (some ⟨b.1, 0, none⟩), .pointer (some ⟨c.1, 0, none⟩), .pointer (some ⟨d.1, 0, none⟩)]) ∧
  SetsL B (l ++ [a] ++ [b] ++ [c] ++ [d]) (ps ++ [halfs 2] ++ [halfs 128] ++ [halfs 128] ++ [halfs 256]) w' ∧ Below w.heap.size w w' := by
 obtain ⟨L, hL⟩ : ∃ L, w.heap.size = L := ⟨_, rfl⟩;obtain ⟨w1, hw1⟩ : ∃ w1, w.alloc (.cells #[.pointer none, .pointer none, .pointer none, .pointer none] 251) = w1 := ⟨_, rfl⟩;have hb : Below w.heap.size w w1 := by rw [← hw1]; exact (Below.refl _ _).alloc (Nat.le_refl _) _
 have hN : Blk w1 L 251 #[.pointer none, .pointer none, .pointer none, .pointer none] := by rw [← hw1]; exact Blk.new_at hL.symm
 have HS := Lib.hid (h.below hb);have HN := Lib.hid hN;have HB := Lib.hid hb;have HLL := Lib.hid hL;clear h hb hN;go_enter Tryz.func118, Tryz.ntmps118;go_upto_region 1 with (fail);clear hw1 hL;go_wp2_with fail;refine (row_sets 2 w1 HS.out (by have := HB.out.size; omega) (by decide)).mono ?_
 rintro e w2 ⟨a, rfl, h2, b2⟩;go_wp2_with fail;refine (row_sets 128 w2 h2 (by have := HB.out.size; have := b2.size; omega) (by decide)).mono ?_
 rintro e w3 ⟨b, rfl, h3, b3⟩;have HB3 := Lib.hid (b2.trans (b3.mono b2.size));clear h2 b2 b3;go_wp2_with fail;refine (row_sets 128 w3 h3 (by have := HB.out.size; have := HB3.out.size; omega) (by decide)).mono ?_
 rintro e w4 ⟨c, rfl, h4, b4⟩;go_wp2_with fail;refine (row_sets 256 w4 h4 (by have := HB.out.size; have := HB3.out.size; have := b4.size; omega) (by decide)).mono ?_
 rintro e w5 ⟨d, rfl, h5, b5⟩;have HB5 := Lib.hid (bup HB3.out (bup b4 b5));have H5 := Lib.hid h5;have hN5 := HN.out.below HB5.out;obtain ⟨n0, n1, n2, n3⟩ := hN5.four;have f0 := hN5.frozen 0;have f1 := hN5.frozen 1;have f2 := hN5.frozen 2;have f3 := hN5.frozen 3;clear h3 b4 b5 h4 h5 hN5;go_wp2_with fail;have hN5 := HN.out.below HB5.out;have hN6 := (((hN5.set_ 0 (.pointer (some ⟨a.1, 0, none⟩))).set_ 1 (.pointer (some ⟨b.1, 0, none⟩))).set_ 2 (.pointer (some ⟨c.1, 0, none⟩))).set_ 3 (.pointer (some ⟨d.1, 0, none⟩))
 have hF : Fr (fun g => g = L) w5 ((((w5.setCell ⟨L, 0, none⟩ (.pointer (some ⟨a.1, 0, none⟩))).setCell ⟨L, 1, none⟩ (.pointer (some ⟨b.1, 0, none⟩))).setCell ⟨L, 2, none⟩ (.pointer (some ⟨c.1, 0, none⟩))).setCell ⟨L, 3, none⟩ (.pointer (some ⟨d.1, 0, none⟩))) :=
  Fr.set1 (Fr.set1 (Fr.set1 (Fr.set1 (Fr.refl _ _) 0 _) 1 _) 2 _) 3 _
 have hb6 := ((((bup HB.out HB5.out).setCell (p := ⟨L, 0, none⟩) (by have := HLL.out; show w.heap.size ≤ L; omega) (.pointer (some ⟨a.1, 0, none⟩))).setCell (p := ⟨L, 1, none⟩) (by have := HLL.out; show w.heap.size ≤ L; omega) (.pointer (some ⟨b.1, 0, none⟩))).setCell (p := ⟨L, 2, none⟩) (by have := HLL.out; show w.heap.size ≤ L; omega) (.pointer (some ⟨c.1, 0, none⟩))).setCell (p := ⟨L, 3, none⟩) (by have := HLL.out; show w.heap.size ≤ L; omega) (.pointer (some ⟨d.1, 0, none⟩))
 have h6 := H5.out.fr hF (fun g hg => BT.ne hg ⟨_, hN5⟩ (by decide)) (fun g hg => BT.ne hg ⟨_, hN5⟩ (by decide))
 obtain ⟨m0, m1, m2, m3⟩ := hN6.four;obtain ⟨w6, hw6⟩ : ∃ w6, ((((w5.setCell ⟨L, 0, none⟩ (.pointer (some ⟨a.1, 0, none⟩))).setCell ⟨L, 1, none⟩ (.pointer (some ⟨b.1, 0, none⟩))).setCell ⟨L, 2, none⟩ (.pointer (some ⟨c.1, 0, none⟩))).setCell ⟨L, 3, none⟩ (.pointer (some ⟨d.1, 0, none⟩))) = w6 := ⟨_, rfl⟩;rw [hw6] at m0 m1 m2 m3 h6 hb6 ⊢;exact bodyPost_ret (v := .agg #[.pointer (some ⟨a.1, 0, none⟩), .pointer (some ⟨b.1, 0, none⟩), .pointer (some ⟨c.1, 0, none⟩), .pointer (some ⟨d.1, 0, none⟩)]) (by simp [results, Tryz.results118, go_sem, m0, m1, m2, m3]) rfl ⟨a, b, c, d, rfl, h6, hb6⟩
theorem isDist_yes (d : Nat) (h1 : 1 ≤ d) (h2 : d ≤ 4294967295) (w : World) : Calls Tryz.prog 154 #[.int .i64 (d : Int)] w fun e w' => e = .returned (.bool true) ∧ w = w' := by
 have a1 : (1 : Int) ≤ d := by omega
 have a2 : (d : Int) ≤ 4294967295 := by omega
 go_enter Tryz.func154, Tryz.ntmps154
 go_wp2
 go_ret;exact ⟨rfl, rfl⟩
theorem isDist_no (d : Int) (h : ¬ (1 ≤ d ∧ d ≤ 4294967295)) (w : World) : Calls Tryz.prog 154 #[.int .i64 d] w fun e w' => e = .returned (.bool false) ∧ w = w' := by
 by_cases a1 : (1 : Int) ≤ d
 · have a2 : ¬ (d ≤ 4294967295) := fun h' => h ⟨a1, h'⟩
   go_enter Tryz.func154, Tryz.ntmps154
   go_wp2
   go_ret;exact ⟨rfl, rfl⟩
 · go_enter Tryz.func154, Tryz.ntmps154
   go_wp2
   go_ret;exact ⟨rfl, rfl⟩
abbrev stC (n a b c d : Int) : Array Value := #[.int .i64 n, .int .i64 a, .int .i64 b, .int .i64 c, .int .i64 d]
def stV (n a b c d : Int) : Value := .agg (stC n a b c d)
def isD (d : Int) : Prop := 1 ≤ d ∧ d ≤ 4294967295
instance (d : Int) : Decidable (isD d) := by unfold isD; infer_instance
def rightP (n a b c d : Int) : Prop := isD a ∧ isD b ∧ isD c ∧ isD d ∧ 0 ≤ n ∧ n < 12
instance (n a b c d : Int) : Decidable (rightP n a b c d) := by unfold rightP; infer_instance
theorem isDist_any (d : Int) (w : World) : Calls Tryz.prog 154 #[.int .i64 d] w fun e w' => e = .returned (.bool (decide (isD d))) ∧ w = w' := by
 by_cases h : isD d
 · obtain ⟨k, rfl⟩ : ∃ k : Nat, d = k := ⟨d.toNat, by unfold isD at h; omega⟩
   rw [decide_eq_true h];exact isDist_yes k (by unfold isD at h; omega) (by unfold isD at h; omega) w
 · rw [decide_eq_false h];exact isDist_no d h w
def isL (d : Int) : Prop := 2 ≤ d ∧ d ≤ 273
instance (d : Int) : Decidable (isL d) := by unfold isL; infer_instance
theorem isLen_any (d : Int) (w : World) : Calls Tryz.prog 153 #[.int .i64 d] w fun e w' => e = .returned (.bool (decide (isL d))) ∧ w = w' := by
 by_cases h : isL d
 · rw [decide_eq_true h];obtain ⟨h1, h2⟩ := h;go_enter Tryz.func153, Tryz.ntmps153
   go_wp2
   go_ret;exact ⟨rfl, rfl⟩
 · rw [decide_eq_false h];have : ¬ 2 ≤ d ∨ (2 ≤ d ∧ ¬ d ≤ 273) := by unfold isL at h; omega
   rcases this with h1 | ⟨h1, h2⟩
   all_goals
    go_enter Tryz.func153, Tryz.ntmps153
    go_wp2
    go_ret;exact ⟨rfl, rfl⟩
def at4 (a b c d : Int) (i : Nat) : Int := if i = 0 then a else if i = 1 then b else if i = 2 then c else d
theorem right_any (n a b c d : Int) (w : World) : Calls Tryz.prog 152 #[stV n a b c d] w fun e w' => e = .returned (.bool (decide (rightP n a b c d))) ∧ Below w.heap.size w w' := by
 unfold stV;have i0 : ∀ w : World, (Instr.index 155 (.agg #[.int .i64 a, .int .i64 b, .int .i64 c, .int .i64 d]) (.int .i64 0)).run Tryz.prog w = .ok (.int .i64 a) w := fun _ => by kernel_rfl
 have i1 : ∀ w : World, (Instr.index 155 (.agg #[.int .i64 a, .int .i64 b, .int .i64 c, .int .i64 d]) (.int .i64 1)).run Tryz.prog w = .ok (.int .i64 b) w := fun _ => by kernel_rfl
 have i2 : ∀ w : World, (Instr.index 155 (.agg #[.int .i64 a, .int .i64 b, .int .i64 c, .int .i64 d]) (.int .i64 2)).run Tryz.prog w = .ok (.int .i64 c) w := fun _ => by kernel_rfl
 have i3 : ∀ w : World, (Instr.index 155 (.agg #[.int .i64 a, .int .i64 b, .int .i64 c, .int .i64 d]) (.int .i64 3)).run Tryz.prog w = .ok (.int .i64 d) w := fun _ => by kernel_rfl
 go_enter Tryz.func152, Tryz.ntmps152;go_wp2_with fail
 go_loopw [4, 7] (fun s4 s7 wr => ∃ i : Nat, s7 = .int .i64 (i : Int) ∧ i ≤ 4 ∧ Hid (∀ j, j < i → isD (at4 a b c d j)) ∧ Blk wr w.heap.size 157 (stC n a b c d) ∧ Below w.heap.size w wr) (fun _ s7 _ => 4 - (intOf s7).toNat)
 case atStart => exact ⟨0, rfl, by omega, fun j h => absurd h (by omega), Blk.new _ _ _, (Below.refl _ _).alloc (Nat.le_refl _) _⟩
 case round =>
  obtain ⟨i, rfl, hi, hall, hb, hB⟩ := hrel;have c0 := hb.cell 0;simp at c0;by_cases h4 : i = 4
  · subst h4;by_cases n0 : 0 ≤ n
    · by_cases n1 : n < 12
      · go_wp2_with fail;go_ret;refine ⟨?_, hB⟩;rw [decide_eq_true ⟨hall.out 0 (by omega), hall.out 1 (by omega), hall.out 2 (by omega), hall.out 3 (by omega), n0, n1⟩]
        rfl
      · have hf : ¬ rightP n a b c d := fun h => n1 h.2.2.2.2.2
        go_wp2_with fail;go_ret
        first | exact ⟨rfl, hB⟩ | exact ⟨by rw [decide_eq_false hf]; rfl, hB⟩
    · have hf : ¬ rightP n a b c d := fun h => n0 h.2.2.2.2.1
      go_wp2_with fail;go_ret
      first | exact ⟨rfl, hB⟩ | exact ⟨by rw [decide_eq_false hf]; rfl, hB⟩
  · have hs : i = 0 ∨ i = 1 ∨ i = 2 ∨ i = 3 := by omega
    rcases hs with rfl | rfl | rfl | rfl
    · by_cases hd : isD a
      · have hc := isDist_any a wr;rw [decide_eq_true hd] at hc;go_wp2_with (go_at_call 154; refine hc.mono ?_; rintro e w' ⟨rfl, rfl⟩)
        go_roundw
        case rel => exact ⟨1, rfl, by omega, fun j hj => by
         by_cases e : j = 0
         · subst e; exact hd
         · exact hall.out j (by omega), hb, hB⟩
        case measure => simp [intOf]
      · have hc := isDist_any a wr;rw [decide_eq_false hd] at hc;have hf : ¬ rightP n a b c d := fun h => hd h.1
        go_wp2_with (go_at_call 154; refine hc.mono ?_; rintro e w' ⟨rfl, rfl⟩);go_ret
        first | exact ⟨rfl, hB⟩ | exact ⟨by rw [decide_eq_false hf]; rfl, hB⟩
    · by_cases hd : isD b
      · have hc := isDist_any b wr;rw [decide_eq_true hd] at hc;go_wp2_with (go_at_call 154; refine hc.mono ?_; rintro e w' ⟨rfl, rfl⟩)
        go_roundw
        case rel => exact ⟨2, rfl, by omega, fun j hj => by
         by_cases e : j = 1
         · subst e; exact hd
         · exact hall.out j (by omega), hb, hB⟩
        case measure => simp [intOf]
      · have hc := isDist_any b wr;rw [decide_eq_false hd] at hc;have hf : ¬ rightP n a b c d := fun h => hd h.2.1
        go_wp2_with (go_at_call 154; refine hc.mono ?_; rintro e w' ⟨rfl, rfl⟩);go_ret
        first | exact ⟨rfl, hB⟩ | exact ⟨by rw [decide_eq_false hf]; rfl, hB⟩
    · by_cases hd : isD c
      · have hc := isDist_any c wr;rw [decide_eq_true hd] at hc;go_wp2_with (go_at_call 154; refine hc.mono ?_; rintro e w' ⟨rfl, rfl⟩)
        go_roundw
        case rel => exact ⟨3, rfl, by omega, fun j hj => by
         by_cases e : j = 2
         · subst e; exact hd
         · exact hall.out j (by omega), hb, hB⟩
        case measure => simp [intOf]
      · have hc := isDist_any c wr;rw [decide_eq_false hd] at hc;have hf : ¬ rightP n a b c d := fun h => hd h.2.2.1
        go_wp2_with (go_at_call 154; refine hc.mono ?_; rintro e w' ⟨rfl, rfl⟩);go_ret
        first | exact ⟨rfl, hB⟩ | exact ⟨by rw [decide_eq_false hf]; rfl, hB⟩
    · by_cases hd : isD d
      · have hc := isDist_any d wr;rw [decide_eq_true hd] at hc;go_wp2_with (go_at_call 154; refine hc.mono ?_; rintro e w' ⟨rfl, rfl⟩)
        go_roundw
        case rel => exact ⟨4, rfl, by omega, fun j hj => by
         by_cases e : j = 3
         · subst e; exact hd
         · exact hall.out j (by omega), hb, hB⟩
        case measure => simp [intOf]
      · have hc := isDist_any d wr;rw [decide_eq_false hd] at hc;have hf : ¬ rightP n a b c d := fun h => hd h.2.2.2.1
        go_wp2_with (go_at_call 154; refine hc.mono ?_; rintro e w' ⟨rfl, rfl⟩);go_ret
        first | exact ⟨rfl, hB⟩ | exact ⟨by rw [decide_eq_false hf]; rfl, hB⟩
theorem Literal_any (n a b c d : Int) (w : World) : Calls Tryz.prog 187 #[stV n a b c d] w fun e w' => e = .returned (.bool (decide (0 ≤ n ∧ n < 7))) ∧ Below w.heap.size w w' := by
 unfold stV;by_cases n0 : 0 ≤ n
 · by_cases n1 : n < 7
   · rw [decide_eq_true ⟨n0, n1⟩];go_enter Tryz.func187, Tryz.ntmps187
     go_wp2
     go_ret;exact ⟨rfl, (Below.refl _ _).alloc (Nat.le_refl _) _⟩
   · rw [decide_eq_false (fun h => n1 h.2)]
     go_enter Tryz.func187, Tryz.ntmps187
     go_wp2
     go_ret;exact ⟨rfl, (Below.refl _ _).alloc (Nat.le_refl _) _⟩
 · rw [decide_eq_false (fun h => n0 h.1)]
   go_enter Tryz.func187, Tryz.ntmps187
   go_wp2
   go_ret;exact ⟨rfl, (Below.refl _ _).alloc (Nat.le_refl _) _⟩
def New_post (w : World) (e : Ending) (w' : World) : Prop := e = .returned (stV 0 1 1 1 1) ∧ Below w.heap.size w w'
theorem New_any (w : World) : Calls Tryz.prog 80 #[] w (New_post w) := by
 go_enter Tryz.func80, Tryz.ntmps80
 go_wp2
 exact bodyPost_ret (v := stV 0 1 1 1 1) (by simp [results, Tryz.results80, go_sem, stV]) rfl ⟨rfl, (Below.refl _ _).alloc (Nat.le_refl _) _⟩
def yV (k y l d : Int) : Value := .agg #[.int .i64 k, .int .u8 y, .int .i64 l, .int .i64 d]
def movedN (n k : Int) : Int := if k = 1 then (if n < 4 then 0 else if n < 10 then n - 3 else n - 6) else if k = 2 then (if 7 ≤ n then 10 else 7) else if 7 ≤ n then 11 else if k = 3 then 8 else 9
end Go.Proofs.YtcjehjdehdoaeaaGreatDoor
