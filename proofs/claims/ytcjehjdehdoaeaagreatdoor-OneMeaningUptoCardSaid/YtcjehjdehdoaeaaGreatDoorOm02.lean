/-
  Laws on the way to the claim (WiA). Conditions: those that each theorem states.
-/
import Derived.Test.YtcjehjdehdoaeaaGreatDoorOm01
import Derived.Test.YtcjehjdehdoaeaaGreatDoorChecked
import Derived.WalkKit
import Derived.WalkSpells
import Derived.WalkLawsBesides
import Derived.Deep.QuietTactic
import Derived.BigQuiet
import Derived.BigRegion
import Derived.Deep.LoopGhost
import Derived.Deep.RegionLaw
import Derived.Deep.RegionHeld3
import Derived.Deep.DeepCutAuto
import Derived.Laws.CopyRow
import Derived.Laws.IdiomCopy
import Derived.Outline
set_option linter.unusedVariables false
set_option linter.unusedSimpArgs false
set_option maxRecDepth 1000000
set_option maxHeartbeats 16000000
section
namespace Go.Proofs.YtcjehjdehdoaeaaGreatDoor.win
def lastN {α : Type} (n : Nat) (l : List α) : List α := l.drop (l.length - n)
theorem lastN_length {α : Type} (n : Nat) (l : List α) : (lastN n l).length = min l.length n := by simp [lastN]; omega
theorem lastN_all {α : Type} {n : Nat} {l : List α} (h : l.length ≤ n) : lastN n l = l := by unfold lastN; rw [Nat.sub_eq_zero_of_le h]; rfl
theorem lastN_lastN {α : Type} (n : Nat) (l r : List α) : lastN n (lastN n l ++ r) = lastN n (l ++ r) := by
 unfold lastN;rw [List.drop_append, List.drop_append, List.drop_drop];simp only [List.length_append, List.length_drop]
 congr 2 <;> omega
theorem lastN_cut {α : Type} {n : Nat} (l r : List α) (h : n < r.length) : lastN n (l ++ r) = r.drop (r.length - n) := by
 unfold lastN;rw [List.drop_append, List.drop_eq_nil_of_le (by simp; omega), List.nil_append]
 congr 1
 simp; omega
theorem lastN_getElem? {α : Type} {n : Nat} {l : List α} {d : Nat} (h1 : 1 ≤ d) (h2 : d ≤ (lastN n l).length) : (lastN n l)[(lastN n l).length - d]? = l[l.length - d]? := by
 have hl := lastN_length n l;unfold lastN at *;rw [List.getElem?_drop]
 congr 1
 simp at h2 ⊢;omega
def Ring (size : Nat) (L xs : List UInt8) (i : Nat) : Prop :=
 xs.length ≤ size ∧ i ≤ xs.length ∧ (xs.length < size → i = xs.length) ∧ L = xs.drop i ++ xs.take i
theorem Ring.len {size : Nat} {L xs : List UInt8} {i : Nat} (h : Ring size L xs i) : L.length = xs.length := by
 rw [h.2.2.2]; have := h.2.1; simp; omega
theorem Ring.nil (size : Nat) : Ring size [] [] 0 := ⟨Nat.zero_le _, Nat.le_refl _, fun _ => rfl, rfl⟩
theorem Ring.back {size : Nat} {L xs : List UInt8} {i d : Nat} (h : Ring size L xs i) (h1 : 1 ≤ d) (h2 : d ≤ xs.length) :
 xs[if i < d then i + xs.length - d else i - d]? = L[L.length - d]? := by
 obtain ⟨_, h4, _, rfl⟩ := h;have hL : (xs.drop i ++ xs.take i).length = xs.length := by simp; omega
 rw [hL, List.getElem?_append];by_cases hid : i < d
 · rw [if_pos hid, if_pos (by simp; omega), List.getElem?_drop]
   congr 1; omega
 · rw [if_neg hid, if_neg (by simp; omega), List.getElem?_take_of_lt (by simp; omega)]
   congr 1; simp; omega
theorem Ring.grow {size : Nat} {L xs ys : List UInt8} {i : Nat} (h : Ring size L xs i) (hy : 0 < ys.length) (hs : xs.length + ys.length ≤ size) : Ring size (L ++ ys) (xs ++ ys) (xs ++ ys).length := by
 obtain ⟨h1, h2, h3, rfl⟩ := h;have := h3 (by omega)
 subst this;refine ⟨by simpa using hs, Nat.le_refl _, fun _ => rfl, ?_⟩
 rw [List.drop_length, List.take_length, List.drop_length, List.take_length]; rfl
theorem Ring.over {size : Nat} {L xs ys : List UInt8} {i : Nat} (h : Ring size L xs i) (hf : xs.length = size) (hy : i + ys.length ≤ size) : Ring size (L.drop ys.length ++ ys) (xs.take i ++ ys ++ xs.drop (i + ys.length)) (i + ys.length) := by
 obtain ⟨h1, h2, h3, rfl⟩ := h;have hl1 : (xs.take i).length = i := by rw [List.length_take]; omega
 have hl : (xs.take i ++ ys).length = i + ys.length := by rw [List.length_append, hl1]
 have hll : (xs.take i ++ ys ++ xs.drop (i + ys.length)).length = size := by rw [List.length_append, hl, List.length_drop]; omega
 refine ⟨by omega, by omega, fun h => by omega, ?_⟩
 have e1 : (xs.take i ++ ys ++ xs.drop (i + ys.length)).drop (i + ys.length) = xs.drop (i + ys.length) := by
  rw [← hl, List.drop_append, List.drop_length, Nat.sub_self]; rfl
 have e2 : (xs.take i ++ ys ++ xs.drop (i + ys.length)).take (i + ys.length) = xs.take i ++ ys := by
  rw [← hl, List.take_append, List.take_length, Nat.sub_self, List.take_zero, List.append_nil]
 rw [e1, e2, List.drop_append, List.drop_drop, List.length_drop, Nat.sub_eq_zero_of_le (by omega)]
 simp
theorem Ring.wrap {size : Nat} {L xs : List UInt8} (h : Ring size L xs size) (hf : xs.length = size) : Ring size L xs 0 := by
 obtain ⟨h1, h2, h3, rfl⟩ := h;refine ⟨h1, Nat.zero_le _, fun h => by omega, ?_⟩
 rw [← hf]; simp
theorem over_last {size : Nat} {L b : List UInt8} {k : Nat} (hL : L.length = size) (hk : k ≤ b.length) (hs : k ≤ size) : lastN size (L.drop k ++ b.take k ++ b.drop k) = lastN size (L ++ b) := by
 have e : L.drop k ++ b.take k ++ b.drop k = (L ++ b).drop k := by
  rw [List.append_assoc, List.take_append_drop, List.drop_append, Nat.sub_eq_zero_of_le (by omega), List.drop_zero]
 rw [e];unfold lastN;rw [List.drop_drop]
 congr 1
 simp; omega
end Go.Proofs.YtcjehjdehdoaeaaGreatDoor.win
namespace Go.Proofs.YtcjehjdehdoaeaaGreatDoor.win
open Go.RowKit
def Win (w : World) (B b : Nat) (r : Option Nat) (size : Nat) (all : List UInt8) : Prop :=
 ∃ (v : Value) (xs : List UInt8) (i : Nat), Blk w b 247 #[.int .i64 (size : Int), v, .int .i64 (i : Int), .int .i64 (all.length : Int)] ∧ w.ownsRow B 5 1 v xs.length (bys xs) ∧ v.ownBlock = r ∧ Ring size (lastN size all) xs i ∧ 1 ≤ size ∧ size ≤ 4294967295 ∧ B ≤ b
def full (size : Nat) (all : List UInt8) : Nat := min all.length size
section
variable {w w' : World} {B b size : Nat} {r : Option Nat} {all : List UInt8}
theorem Win.keep (h : Win w B b r size all) (hb : w'.heap[b]? = w.heap[b]?) (hr : ∀ g, r = some g → w'.heap[g]? = w.heap[g]?) : Win w' B b r size all := by
 obtain ⟨v, xs, i, h1, h2, h3, h4⟩ := h;exact ⟨v, xs, i, h1.same hb, own_same h2 (fun g hg => hr g (h3 ▸ hg)), h3, h4⟩
theorem Win.lt (h : Win w B b r size all) : b < w.heap.size ∧ ∀ g, r = some g → B ≤ g ∧ g < w.heap.size := by
 obtain ⟨v, xs, i, h1, h2, h3, _⟩ := h;exact ⟨h1.lt, fun g hg => own_lt h2 (h3.trans hg)⟩
theorem Win.base (h : Win w B b r size all) : B ≤ b := by
 obtain ⟨v, xs, i, _, _, _, _, _, _, h⟩ := h; exact h
theorem Win.bt (h : Win w B b r size all) : BT w b 247 ∧ ∀ g, r = some g → BT w g 5 := by
 obtain ⟨v, xs, i, h1, h2, h3, _⟩ := h;exact ⟨⟨_, h1⟩, fun g hg => own_bt h2 (h3.trans hg)⟩
theorem Win.below (h : Win w B b r size all) (hb : Below w.heap.size w w') : Win w' B b r size all :=
 h.keep (hb.block b h.lt.1) fun g hg => hb.block g (h.lt.2 g hg).2
theorem Win.fr {S : Nat → Prop} (h : Win w B b r size all) (hf : Fr S w w') (h1 : ¬ S b) (h2 : ∀ g, r = some g → ¬ S g) : Win w' B b r size all :=
 h.keep (hf.block b h.lt.1 h1) fun g hg => hf.block g (h.lt.2 g hg).2 (h2 g hg)
theorem Win.mono {C : Nat} (h : Win w B b r size all) (hC : C ≤ B) : Win w C b r size all := by
 obtain ⟨v, xs, i, h1, h2, h3, h4, h5, h6, h7⟩ := h;exact ⟨v, xs, i, h1, own_mono h2 hC, h3, h4, h5, h6, Nat.le_trans hC h7⟩
end
theorem ring_full {size : Nat} {all xs : List UInt8} {i : Nat} (h : Ring size (lastN size all) xs i) : xs.length = full size all := by
 rw [← h.len, lastN_length]; rfl
theorem full_len {size : Nat} {all : List UInt8} : full size all ≤ all.length := Nat.min_le_left _ _
theorem Pos_any (B b size : Nat) (r : Option Nat) (all : List UInt8) (w : World) (h : Win w B b r size all) :
 Calls Tryz.prog 160 #[.pointer (some ⟨b, 0, none⟩)] w fun e w' => e = .returned (.int .i64 (all.length : Int)) ∧ w = w' := by
 obtain ⟨v, xs, i, hb, _⟩ := h;obtain ⟨_, _, _, c3⟩ := hb.four;go_enter Tryz.func160, Tryz.ntmps160
 go_wp2
 go_ret;exact ⟨rfl, rfl⟩
theorem in_yes (B b size : Nat) (r : Option Nat) (all : List UInt8) (d : Int) (w : World) (h : Win w B b r size all) (h1 : 1 ≤ d) (h2 : d ≤ full size all) :
 Calls Tryz.prog 183 #[.pointer (some ⟨b, 0, none⟩), .int .i64 d] w fun e w' => e = .returned (.bool true) ∧ w = w' := by
 obtain ⟨v, xs, i, hb, hown, _, hr, _⟩ := h;obtain ⟨a, c, rfl⟩ := own_slice hown;obtain ⟨_, c1, _, _⟩ := hb.four;rw [← ring_full hr] at h2;go_enter Tryz.func183, Tryz.ntmps183
 go_wp2
 go_ret;exact ⟨rfl, rfl⟩
theorem in_no (B b size : Nat) (r : Option Nat) (all : List UInt8) (d : Int) (w : World) (h : Win w B b r size all) (hd : ¬ (1 ≤ d ∧ d ≤ full size all)) :
 Calls Tryz.prog 183 #[.pointer (some ⟨b, 0, none⟩), .int .i64 d] w fun e w' => e = .returned (.bool false) ∧ w = w' := by
 obtain ⟨v, xs, i, hb, hown, _, hr, _⟩ := h;obtain ⟨a, c, rfl⟩ := own_slice hown;obtain ⟨_, c1, _, _⟩ := hb.four;rw [← ring_full hr] at hd;by_cases h1 : 1 ≤ d
 · have h2 : ¬ d ≤ (xs.length : Int) := fun h => hd ⟨h1, h⟩
   go_enter Tryz.func183, Tryz.ntmps183
   go_wp2
   go_ret;exact ⟨rfl, rfl⟩
 · go_enter Tryz.func183, Tryz.ntmps183
   go_wp2
   go_ret;exact ⟨rfl, rfl⟩
theorem back_any (B b size : Nat) (r : Option Nat) (all : List UInt8) (d : Nat) (c : UInt8) (w : World) (h : Win w B b r size all) (h1 : 1 ≤ d) (h2 : d ≤ full size all) (hc : all[all.length - d]? = some c) :
 Calls Tryz.prog 184 #[.pointer (some ⟨b, 0, none⟩), .int .i64 (d : Int)] w fun e w' => e = .returned (.int .u8 (c.toNat : Int)) ∧ w = w' := by
 obtain ⟨v, xs, i, hb, hown, _, hr, hs1, hs2, _⟩ := h;rw [← ring_full hr] at h2;obtain ⟨g, cap, rfl, _, _⟩ := hown.form (by omega)
 obtain ⟨_, c1, c2, _⟩ := hb.four;have hback := hr.back h1 h2;rw [lastN_getElem? h1 (by rw [hr.len]; exact h2), hc] at hback
 have hi := hr.2.1;have hxs := hr.1;by_cases hid : i < d
 · rw [if_pos hid] at hback;obtain ⟨j, hj⟩ : ∃ j : Nat, j = i + xs.length - d := ⟨_, rfl⟩;rw [← hj] at hback;have e0 := hown.cellAt j (by omega)
   rw [bys_get hback] at e0;have x1 : (i : Int) - (d : Int) + (xs.length : Int) = (j : Int) := by omega
   have x2 : (j : Int) < (xs.length : Int) := by omega
   have x3 : (i : Int) - (d : Int) < 0 := by omega
   clear hj;go_enter Tryz.func184, Tryz.ntmps184
   go_wp2
   go_ret;exact ⟨rfl, rfl⟩
 · rw [if_neg hid] at hback;obtain ⟨j, hj⟩ : ∃ j : Nat, j = i - d := ⟨_, rfl⟩;rw [← hj] at hback;have e0 := hown.cellAt j (by omega)
   rw [bys_get hback] at e0;have x1 : (i : Int) - (d : Int) = (j : Int) := by omega
   have x2 : (j : Int) < (xs.length : Int) := by omega
   clear hj;go_enter Tryz.func184, Tryz.ntmps184
   go_wp2
   go_ret;exact ⟨rfl, rfl⟩
theorem Last_yes (B b size : Nat) (r : Option Nat) (all : List UInt8) (d : Nat) (c : UInt8) (w : World) (h : Win w B b r size all) (h1 : 1 ≤ d) (h2 : d ≤ full size all) (hc : all[all.length - d]? = some c) :
 Calls Tryz.prog 158 #[.pointer (some ⟨b, 0, none⟩), .int .i64 (d : Int)] w fun e w' => e = .returned (.tuple #[.int .u8 (c.toNat : Int), .int .i64 0]) ∧ w = w' := by
 go_enter Tryz.func158, Tryz.ntmps158;go_wp2_with fail;refine (in_yes B b size r all d w h (by omega) (by omega)).mono ?_
 rintro e w' ⟨rfl, rfl⟩;go_wp2_with fail;refine (back_any B b size r all d c w h h1 h2 hc).mono ?_;rintro e w' ⟨rfl, rfl⟩;go_wp2_with fail
 go_ret2
 exact ⟨rfl, rfl⟩
theorem Last_no (B b size : Nat) (r : Option Nat) (all : List UInt8) (d : Int) (w : World) (h : Win w B b r size all) (hd : ¬ (1 ≤ d ∧ d ≤ full size all)) :
 Calls Tryz.prog 158 #[.pointer (some ⟨b, 0, none⟩), .int .i64 d] w fun e w' => e = .returned (.tuple #[.int .u8 0, .int .i64 7]) ∧ w = w' := by
 go_enter Tryz.func158, Tryz.ntmps158;go_wp2_with fail;refine (in_no B b size r all d w h hd).mono ?_;rintro e w' ⟨rfl, rfl⟩;go_wp2_with fail
 go_ret2
 exact ⟨rfl, rfl⟩
theorem New_yes (size : Nat) (w : World) (h1 : 1 ≤ size) (h2 : size ≤ 4294967295) :
 Calls Tryz.prog 99 #[.int .i64 (size : Int)] w fun e w' => e = .returned (.tuple #[.pointer (some ⟨w.heap.size, 0, none⟩), .int .i64 0]) ∧ Win w' w.heap.size w.heap.size none size [] ∧ Below w.heap.size w w' ∧ w'.heap.size = w.heap.size + 1 := by
 have x1 : (1 : Int) ≤ (size : Int) := by omega
 have x2 : (size : Int) ≤ 4294967295 := by omega
 go_enter Tryz.func99, Tryz.ntmps99
 go_wp2
 go_ret2
 exact ⟨rfl, ⟨_, [], 0, Blk.new _ _ _, World.ownsRow_nil _ _ _ _, rfl, (by rw [lastN_all (l := []) (Nat.zero_le _)]; exact Ring.nil _), h1, h2, Nat.le_refl _⟩, (Below.refl _ _).alloc (Nat.le_refl _) _, by simp⟩
end Go.Proofs.YtcjehjdehdoaeaaGreatDoor.win
namespace Go.Proofs.YtcjehjdehdoaeaaGreatDoor.win
open Go.RowKit
section
variable {P : Program} {w : World}
theorem run_copy_rd (t ty e : TypeId) (ht : P.underlying t = some (.slice e)) (hsz : (P.info? e).map (·.size) = some 1)
 (B g off dLen dCap n cap : Nat) (xs : List Value) (hown : w.ownsRow B e 1 (.slice (some ⟨g, 0, none⟩) n cap) n xs) (hoff : off + dLen = n)
 (A : Option Addr) (m c : Nat) (news : List Value) (hr : Rd w 1 A m news) (h1 : ∀ u ∈ news, u.oneCell' = true) (k : Nat) (hk : k = min m dLen) :
 ∃ w', (Builtin.copy_ #[t, t] ty #[.slice (some ⟨g, off, none⟩) dLen dCap, .slice A m c]).run P w = .ok (goInt k) w' ∧
  w'.ownsRow B e 1 (.slice (some ⟨g, 0, none⟩) n cap) n (xs.take off ++ news.take k ++ xs.drop (off + k)) ∧ w.grownBy w' (some g) := by
 have hxl : xs.length = n := by have := hown.1; omega
 have hnl : news.length = m := by have := hr.1; omega
 have hkm : k ≤ m := by omega
 have hkd : k ≤ dLen := by omega
 rcases Nat.eq_zero_or_pos k with h0 | h0
 · subst h0;refine ⟨w, run_copy_none w t t ty e _ _ _ _ _ _ ht hsz hk.symm, ?_, World.grownBy.refl w _⟩;simpa using hown
 · obtain ⟨ad, rfl, hc⟩ := hr.2 (by omega)
   have hown0 := hown;rcases hown.2 with ⟨hv, _⟩ | ⟨g', cap', cur, hv, hB, hg, hn, hcm, hcs, htk⟩
   · cases hv
   · injection hv with e1 _ e3;injection e1 with e1;injection e1 with e1;subst e1; subst e3;have hcl : (news.take k).length = k := by rw [List.length_take]; omega
     have hrun := run_copy_row (P := P) w t t ty e g off dLen dCap ad m c cur e (news.take k) ht hsz hg (by rw [hcl]; exact hk) (fun j v hj => hc j v (by
      rw [List.getElem?_take] at hj;split at hj
      · exact hj
      · cases hj)) (by rw [hcl, hcs]; omega) (fun v hv => h1 v (List.mem_of_mem_take hv))
     rw [hcl] at hrun;refine ⟨_, hrun, ⟨?_, .inr ⟨g, cap, _, rfl, hB, setRow_heap w g _ _ e _ hg, hn, hcm, ?_, ?_⟩⟩, ⟨rfl, rfl, rfl, by simp [World.setRow], fun j _ hj => setRow_other w g j _ (fun e => hj (by rw [e]))⟩⟩
     · simp only [List.length_append, List.length_take, List.length_drop, hxl, hcl]; omega
     · simp only [List.size_toArray, List.length_append, List.length_take, List.length_drop, hcl, Array.length_toList]; omega
     · have hcur : cur.toList.length = cap := by simp [hcs]
       have hxs : xs = cur.toList.take n := by rw [← htk, Nat.mul_one]
       rw [Nat.mul_one, hxs];simp only [List.toList_toArray];apply List.ext_getElem?;intro j;have l1 : (cur.toList.take off).length = off := by rw [List.length_take]; omega
       have l2 : ((cur.toList.take n).take off).length = off := by rw [List.length_take, List.length_take]; omega
       rw [List.getElem?_take];by_cases hj : j < n
       · rw [if_pos hj];simp only [List.append_assoc, List.getElem?_append, l1, l2, hcl];by_cases h2 : j < off
         · rw [if_pos h2, if_pos h2, List.getElem?_take_of_lt h2, List.getElem?_take_of_lt h2, List.getElem?_take_of_lt hj]
         · rw [if_neg h2, if_neg h2];by_cases h3 : j - off < k
           · rw [if_pos h3, if_pos h3]
           · rw [if_neg h3, if_neg h3, List.getElem?_drop, List.getElem?_drop, List.getElem?_take_of_lt (by omega)]
       · rw [if_neg hj, List.getElem?_eq_none];simp only [List.length_append, List.length_take, List.length_drop]; omega
theorem step_copy_rd {ops : Array Oper} {o : Oper} {a : Act} {K : Act → World → Prop} {Q : Exit → Act → World → Prop} {E : Prop} (hgd : o.guard = none) (s x : Operand) (t : TypeId)
 (ho : o.op = .call { callee := .builtin .copy, args := #[s, x], argTypes := #[t, t] }) (e : TypeId) (ht : P.underlying t = some (.slice e)) (hsz : (P.info? e).map (·.size) = some 1)
 (B g off dLen dCap n cap : Nat) (hs : a.eval s = .slice (some ⟨g, off, none⟩) dLen dCap) (xs : List Value) (hown : w.ownsRow B e 1 (.slice (some ⟨g, 0, none⟩) n cap) n xs) (hoff : off + dLen = n)
 (A : Option Addr) (m c : Nat) (hx : a.eval x = .slice A m c) (news : List Value) (hr : Rd w 1 A m news) (h1 : ∀ u ∈ news, u.oneCell' = true) (k : Nat) (hk : k = min m dLen)
 (h : ∀ w', w'.ownsRow B e 1 (.slice (some ⟨g, 0, none⟩) n cap) n (xs.take off ++ news.take k ++ xs.drop (off + k)) → w.grownBy w' (some g) → K (a.put o.dst (goInt k)) w') :
 if Region.wanted o (yielded ops a.tmps) = true then Oper.wp P o a w K Q else E := by
 have hw : Region.wanted o (yielded ops a.tmps) = true := by simp [Region.wanted, hgd]
 rw [if_pos hw];obtain ⟨w', hrun, h2, h3⟩ := run_copy_rd (P := P) t o.type e ht hsz B g off dLen dCap n cap xs hown hoff A m c news hr h1 k hk;unfold Oper.wp execOp;simp only [ho, resolve, invoke, builtin, Sem.run_bind, Sem.run_pure, Result.andThen_ok, List.map_toArray, List.map_cons, List.map_nil, hs, hx, hrun];exact h w' h2 h3
end
end Go.Proofs.YtcjehjdehdoaeaaGreatDoor.win
namespace Go.Proofs.YtcjehjdehdoaeaaGreatDoor.win
open Go.RowKit
theorem infou8 : (Tryz.prog.info? 5).map (fun i => (i.zero, i.size, i.bytes)) = some (some (.int .u8 0), 1, 1) := by kernel_rfl
def Src (w : World) (b : Nat) (r : Option Nat) (A : Option Addr) (m c : Nat) (ys : List UInt8) : Prop :=
 Rd w 1 A m (bys ys) ∧ m ≤ c ∧ ∀ ad, A = some ad → ad.block < w.heap.size ∧ ad.block ≠ b ∧ r ≠ some ad.block
theorem Src.len {w : World} {b m c : Nat} {r : Option Nat} {A : Option Addr} {ys : List UInt8} (h : Src w b r A m c ys) : ys.length = m := by
 have := h.1.1; rw [bys_length] at this; omega
theorem Src.cut {w : World} {b m c k : Nat} {r : Option Nat} {A : Option Addr} {ys : List UInt8} (h : Src w b r A m c ys) (hk : k ≤ m) :
 Src w b r (if c = k then A else A.map (·.add (k * 1))) (m - k) (c - k) (ys.drop k) := by
 refine ⟨?_, by have := h.2.1; omega, fun ad had => ?_⟩
 · have := h.1.cut hk h.2.1;rw [Nat.mul_one, bys_drop] at this;rw [Nat.mul_one];exact this
 · split at had
   · exact h.2.2 ad had
   · cases A with
     | none => cases had
     | some a =>
      simp only [Option.map_some, Option.some.injEq] at had;subst had;rw [block_add];exact h.2.2 a rfl
theorem Src.take {w : World} {b m c k : Nat} {r : Option Nat} {A : Option Addr} {ys : List UInt8} (h : Src w b r A m c ys) (hk : k ≤ m) : Src w b r A k c (ys.take k) := by
 refine ⟨?_, by have := h.2.1; omega, h.2.2⟩
 have := h.1.take hk;rw [Nat.mul_one, bys_take] at this;exact this
def Mid (w wx : World) (B b : Nat) (r : Option Nat) (size pos : Nat) (L xs : List UInt8) (i : Nat) (v : Value) : Prop :=
 Blk wx b 247 #[.int .i64 (size : Int), v, .int .i64 (i : Int), .int .i64 (pos : Int)] ∧ wx.ownsRow B 5 1 v xs.length (bys xs) ∧ Ring size L xs i ∧
  Fr (fun k => k = b ∨ some k = r) w wx ∧ (∀ g, v.ownBlock = some g → r = some g ∨ w.heap.size ≤ g)
theorem Src.past {w wx : World} {B b m c size pos i : Nat} {r : Option Nat} {A : Option Addr} {ys L xs : List UInt8} {v : Value} (h : Src w b r A m c ys) (hm : Mid w wx B b r size pos L xs i v) : Rd wx 1 A m (bys ys) :=
 h.1.keep fun ad had => hm.2.2.2.1.block _ (h.2.2 ad had).1 (by
  rintro (e | e)
  · exact (h.2.2 ad had).2.1 e
  · exact (h.2.2 ad had).2.2 e.symm)
def lenV : Value → Nat
 | .slice _ n _ => n
 | _ => 0
def PutPost (B b size : Nat) (r : Option Nat) (all : List UInt8) (w : World) (e : Ending) (w' : World) : Prop :=
 e = .returned (.tuple #[]) ∧ ∃ r', Win w' B b r' size all ∧ Fr (fun k => k = b ∨ some k = r) w w' ∧ (∀ g, r' = some g → r = some g ∨ w.heap.size ≤ g)
theorem Put_any (B b size : Nat) (r : Option Nat) (all : List UInt8) (A : Option Addr) (m c : Nat) (ys : List UInt8) (w : World) (h : Win w B b r size all) (hsrc : Src w b r A m c ys) (hlen : all.length + m < 4611686018427387904) :
 Calls Tryz.prog 124 #[.pointer (some ⟨b, 0, none⟩), .slice A m c] w (PutPost B b size r (all ++ ys) w) := by
 obtain ⟨v, xs, i, hb, hown, hv, hr, hs1, hs2, hBb⟩ := h;obtain ⟨c0, c1, c2, c3⟩ := hb.four;have blt := hb.lt;have f3 := hb.frozen 3;have hmc := hsrc.2.1;have hml := hsrc.len;have hxs := hr.1;obtain ⟨i0, hi0, hz0, hz1, hz2⟩ := info_parts infou8;obtain ⟨va, vc, rfl⟩ := own_slice hown;have hMid : Hid (Mid w (w.setCell ⟨b, 3, none⟩ (.int .i64 ((all.length : Int) + (m : Int)))) B b r size (all.length + m) (lastN size all) xs i (.slice va xs.length vc)) :=
  ⟨by have := hb.set_ 3 (.int .i64 ((all.length : Int) + (m : Int))); exact this, own_far hown (own_ne hown hb (by decide)) _, hr, Fr.setCell (Fr.refl _ _) (.inl (.inl rfl)) _, fun g hg => .inl (hv ▸ hg)⟩
 go_enter Tryz.func124, Tryz.ntmps124;go_upto_if 21 with (fail)
 go_cut [1] (fun s1 wx => ∃ (A' : Option Addr) (m' c' : Nat) (ys' : List UInt8), s1 = .slice A' m' c' ∧ Src w b r A' m' c' ys' ∧ m' ≤ size ∧ Hid (lastN size (lastN size all ++ ys') = lastN size (all ++ ys)) ∧
  Hid (Mid w wx B b r size (all.length + m) (lastN size all) xs i (.slice va xs.length vc)))
 case first =>
  by_cases hbig : size < m
  · have x1 : (m : Int) - (size : Int) = ((m - size : Nat) : Int) := by omega
    have x2 : ((m - size : Nat) : Int) ≤ (m : Int) := by omega
    have x3 : m - (m - size) = size := by omega
    have x4 : c - (m - size) = c - (m - size) := rfl;go_wp2_with fail
    go_meet
    have h1 := hsrc.cut (k := m - size) (by omega)
    rw [if_neg (by omega), Nat.mul_one, x3] at h1
    refine ⟨_, size, _, _, rfl, h1, Nat.le_refl _, ?_, hMid⟩;have h2 : m - size = ys.length - size := by omega
    show lastN size (lastN size all ++ ys.drop (m - size)) = _;rw [lastN_lastN, h2, lastN_cut all ys (by omega)]
    have h3 := lastN_cut (n := size) all ys (by omega)
    have h4 : (ys.drop (ys.length - size)).length = size := by rw [List.length_drop]; omega
    unfold lastN;rw [List.drop_append, List.drop_eq_nil_of_le (by rw [List.length_append]; omega), List.nil_append, List.length_append, h4]
    rw [show all.length + size - size - all.length = 0 from by omega]
    rfl
  · have hd : decide (size < m) = false := decide_eq_false hbig;go_wp2_with fail
    go_meet
    exact ⟨A, m, c, ys, rfl, hsrc, by omega, lastN_lastN _ _ _, hMid⟩
 case rest =>
  clear c0 c1 c2 c3 f3;obtain ⟨A', m', c', ys', rfl, hsrc', hms, heq, hmid⟩ := hcut;obtain ⟨d0, d1, d2, d3⟩ := hmid.out.1.four;have hml' := hsrc'.len;go_upto_region 3 with (fail)
  go_quiet (fail)
  obtain ⟨wd, hwd⟩ : ∃ wd, wc.drewN nq = wd := ⟨_, rfl⟩;rw [hwd];have hmid2 : Hid (Mid w wd B b r size (all.length + m) (lastN size all) xs i (.slice va xs.length vc)) := hwd ▸ (⟨hmid.out.1.drewN nq, hmid.out.2.1, hmid.out.2.2.1, hmid.out.2.2.2.1.drewN nq, hmid.out.2.2.2.2⟩ : Mid _ _ _ _ _ _ _ _ _ _ _);obtain ⟨e0, e1, e2, e3⟩ := hmid2.out.1.four;clear hwd d0 d1 d2 d3 hmid hMid;go_upto_if 45 with (fail)
  obtain ⟨q, hq⟩ : ∃ q : Nat, (if (size : Int) - (xs.length : Int) < (m' : Int) then (size : Int) - (xs.length : Int) else (m' : Int)) = (q : Int) := ⟨min m' (size - xs.length), by split <;> omega⟩
  have hqm : q ≤ m' := by split at hq <;> omega
  have hqs : xs.length + q ≤ size := by split at hq <;> omega
  have hqf : 0 < m' - q → xs.length + q = size := by split at hq <;> omega
  rw [hq];have Hqf := Lib.hid hqf;clear hq hqf;go_cut [1] (fun s1 wx => ∃ (A2 : Option Addr) (m2 c2 : Nat) (zs L2 xs2 : List UInt8) (i2 : Nat) (v2 : Value), s1 = .slice A2 m2 c2 ∧ Src w b r A2 m2 c2 zs ∧ Hid (0 < m2 → xs2.length = size) ∧
   Hid (lastN size (L2 ++ zs) = lastN size (all ++ ys)) ∧ Hid (Mid w wx B b r size (all.length + m) L2 xs2 i2 v2))
  case first =>
   by_cases hq0 : 0 < q
   · have hq0' : (0 : Int) < (q : Int) := by omega
     have y1 : (q : Int) ≤ (c' : Int) := by have := hsrc'.2.1; omega
     have y2 : (q : Int) ≤ (m' : Int) := by omega
     have y3 := hsrc'.2.1;have blt2 := hmid2.out.1.lt;have hsep : some b ≠ (Value.slice va xs.length vc).ownBlock := own_ne hmid2.out.2.1 hmid2.out.1 (by decide)
     have hBd : B ≤ wd.drew.heap.size := by have := hmid2.out.2.2.2.1.size; show B ≤ wd.heap.size; omega
     have hrd0 := (hsrc'.take hqm).past hmid2.out;have hrd : Rd wd.drew 1 A' q (bys (ys'.take q)) := hrd0;have hod : wd.drew.ownsRow B 5 1 (.slice va xs.length vc) xs.length (bys xs) := hmid2.out.2.1;go_upto_region 5 with (fail)
     go_region_law (
      (refine step_append_rd (w := wd.drew) rfl (.tmp 50) (.tmp 53) 22 rfl B 5 i0 _ 1 1 Tryz.underlying22 hi0 hz0 hz1 hz2 rfl (by decide) (.slice va xs.length vc) xs.length (bys xs) (by simp [Act.eval]) hod A' q c' (bys (ys'.take q)) (by simp [Act.eval]) hrd (bys_one _) (by simp only [maxLen]; omega) (by omega) hBd ?_
       intro a1 c1 w1 hown1 hg1 hat1;have hb1 : Blk w1 b 247 _ := hmid2.out.1.drew.same (hg1.block b blt2 hsep);obtain ⟨f0, f1, f2, f3⟩ := hb1.four;have z1 := hb1.frozen 1;have z2 := hb1.frozen 2))
     all_goals
      go_wp2_with fail
     all_goals go_meet
     all_goals
      have hMid2 : Hid (Mid w ((w1.setCell ⟨b, 1, none⟩ (.slice a1 (xs.length + q) c1)).setCell ⟨b, 2, none⟩ (.int .i64 ((xs.length : Int) + (q : Int)))) B b r size (all.length + m) (lastN size all ++ ys'.take q) (xs ++ ys'.take q) (xs.length + q) (.slice a1 (xs.length + q) c1)) := by
       have hq1 : (ys'.take q).length = q := by rw [List.length_take]; omega
       refine ⟨?_, ?_, ?_, ?_, ?_⟩
       · have := (hb1.set_ 1 (.slice a1 (xs.length + q) c1)).set_ 2 (.int .i64 ((xs.length : Int) + (q : Int)));rw [show ((xs.length + q : Nat) : Int) = (xs.length : Int) + (q : Int) from by omega]
         exact this
       · rw [List.length_append, hq1, bys_append];exact own_far (own_far hown1 (own_ne hown1 hb1 (by decide)) _) (own_ne hown1 hb1 (by decide)) _
       · have := hmid2.out.2.2.1.grow (ys := ys'.take q) (by omega) (by omega)
         rw [List.length_append, hq1] at this;exact this
       · refine Fr.setCell (Fr.setCell ((hmid2.out.2.2.2.1.drew).grown hg1 ?_) (.inl (.inl rfl)) _) (.inl (.inl rfl)) _;intro g hg;exact (hmid2.out.2.2.2.2 g hg).imp (fun h => Or.inr h.symm) id
       · intro g hg;rcases hat1 with h | h
         · exact hmid2.out.2.2.2.2 g (h ▸ hg)
         · rw [h] at hg;cases hg;exact .inr hmid2.out.2.2.2.1.size
      have hSrc2 := hsrc'.cut hqm;have hEq2 : Hid (lastN size ((lastN size all ++ ys'.take q) ++ ys'.drop q) = lastN size (all ++ ys)) := by
       show _ = _;rw [List.append_assoc, List.take_append_drop]; exact heq.out
      have hfull2 : Hid (0 < m' - q → (xs ++ ys'.take q).length = size) := by
       have h1 := Hqf.out;have hq1 : (ys'.take q).length = q := by rw [List.length_take]; omega
       intro h; rw [List.length_append, hq1]; exact h1 h
     · have hcq : c' = q := by assumption
       rw [if_pos hcq, hcq, Nat.sub_self] at hSrc2;exact ⟨_, _, _, _, _, _, _, _, rfl, hSrc2, hfull2, hEq2, hMid2⟩
     · have hcq : ¬ c' = q := by assumption
       rw [if_neg hcq, Nat.mul_one] at hSrc2;exact ⟨_, _, _, _, _, _, _, _, rfl, hSrc2, hfull2, hEq2, hMid2⟩
   · have hq0' : decide (0 < q) = false := decide_eq_false hq0;go_wp2_with fail
     go_meet
     refine ⟨A', m', c', ys', _, xs, i, _, rfl, hsrc', ?_, heq, hmid2⟩;have := Hqf.out;exact fun h => by have := this (by omega); omega
  case rest =>
   clear e0 e1 e2 e3 hmid2;obtain ⟨A2, m2, c2, zs, L2, xs2, i2, v2, rfl, hsrc2, hfull, heq2, hmid⟩ := hcut;obtain ⟨wo, hwo⟩ : ∃ wo : World, wo = wc := ⟨_, rfl⟩;go_wp2_with fail
   go_loopw [1] (fun s1 wr => ∃ (A2 : Option Addr) (m2 c2 : Nat) (zs L2 xs2 : List UInt8) (i2 : Nat) (v2 : Value), s1 = .slice A2 m2 c2 ∧ Src w b r A2 m2 c2 zs ∧ Hid (0 < m2 → xs2.length = size) ∧
    Hid (lastN size (L2 ++ zs) = lastN size (all ++ ys)) ∧ Hid (Mid w wr B b r size (all.length + m) L2 xs2 i2 v2)) (fun s1 _ => lenV s1)
   case atStart => exact ⟨_, _, _, _, _, _, _, _, rfl, hsrc2, hfull, heq2, hmid⟩
   case round =>
    clear hsrc2 hfull heq2 hmid hwo;obtain ⟨A3, m3, c3, zs, L3, xs3, i3, v3, rfl, hsrc3, hfull, heq3, hmid⟩ := hrel;by_cases h0 : 0 < m3
    · have h0' : (0 : Int) < (m3 : Int) := by omega
      have hfl := hfull.out h0;obtain ⟨g, cap, rfl, hBg, hgl⟩ := hmid.out.2.1.form (by omega)
      obtain ⟨d0, d1, d2, d3⟩ := hmid.out.1.four;have hcap := own_cap hmid.out.2.1;have blt3 := hmid.out.1.lt;have hi3 := hmid.out.2.2.1.2.1;have Hfl := Lib.hid hfl;have hfl1 : xs3.length ≤ size := by omega
      have hfl2 : size ≤ xs3.length := by omega
      clear hfl;go_wp2_with fail
      go_quiet (fail)
      obtain ⟨wd, hwd⟩ : ∃ wd, wr.drewN nq = wd := ⟨_, rfl⟩;rw [hwd];have hmid2 : Hid (Mid w wd B b r size (all.length + m) L3 xs3 i3 (.slice (some ⟨g, 0, none⟩) xs3.length cap)) := hwd ▸ (⟨hmid.out.1.drewN nq, hmid.out.2.1, hmid.out.2.2.1, hmid.out.2.2.2.1.drewN nq, hmid.out.2.2.2.2⟩ : Mid _ _ _ _ _ _ _ _ _ _ _);clear hwd d0 d1 d2 d3 hmid;obtain ⟨d0, d1, d2, d3⟩ := hmid2.out.1.four;have f2 := hmid2.out.1.frozen 2
      go_upto_if 79 with (fail)
      go_cut [] (fun wx => ∃ i4 : Nat, i4 < size ∧ Hid (Mid w wx B b r size (all.length + m) L3 xs3 i4 (.slice (some ⟨g, 0, none⟩) xs3.length cap)))
      case first =>
       by_cases hi : i3 = size
       · have hd : ((i3 : Int) == (size : Int)) = true := beq_iff_eq.2 (by omega)
         have hmid3 : Mid w (wd.setCell ⟨b, 2, none⟩ (.int .i64 0)) B b r size (all.length + m) L3 xs3 0 (.slice (some ⟨g, 0, none⟩) xs3.length cap) := by
          refine ⟨?_, ?_, ?_, ?_, ?_⟩
          · have := hmid2.out.1.set_ 2 (.int .i64 0);exact this
          · exact own_far hmid2.out.2.1 (own_ne hmid2.out.2.1 hmid2.out.1 (by decide)) _
          · have := hmid2.out.2.2.1;rw [hi] at this;exact this.wrap Hfl.out
          · exact Fr.setCell hmid2.out.2.2.2.1 (.inl (.inl rfl)) _
          · exact hmid2.out.2.2.2.2
         have Hmid3 := Lib.hid hmid3;clear hi hmid3;go_wp2_with fail
         go_meet
         exact ⟨0, by omega, Hmid3⟩
       · have hd : ((i3 : Int) == (size : Int)) = false := beq_eq_false_iff_ne.2 (by omega)
         have hi4 : i3 < size := by omega
         clear hi;go_wp2_with fail
         go_meet
         exact ⟨i3, hi4, hmid2⟩
      case rest =>
       clear d0 d1 d2 d3 f2 hmid2;obtain ⟨i4, hi4, hmid4⟩ := hcut;obtain ⟨d0, d1, d2, d3⟩ := hmid4.out.1.four;obtain ⟨k, hk⟩ : ∃ k, k = min m3 (xs3.length - i4) := ⟨_, rfl⟩;have hk0 : 0 < k := by omega
       have hkm : k ≤ m3 := by omega
       have hks : i4 + k ≤ size := by omega
       have hoff : i4 + (xs3.length - i4) = xs3.length := by omega
       have hix : i4 ≤ xs3.length := by omega
       have hix' : (i4 : Int) ≤ (xs3.length : Int) := by omega
       have hic : ¬ cap = i4 := by omega
       have hrd := hsrc3.past hmid4.out;have hod := hmid4.out.2.1;have blt4 := hmid4.out.1.lt;have hgb : some b ≠ some g := own_ne hod hmid4.out.1 (by decide)
       have Hk := Lib.hid hk;have Hrd := Lib.hid hrd;have Hod := Lib.hid hod;clear hk hrd hod;go_wp2_with fail
       go_region_law (
        (refine step_copy_rd (w := wc.drew) rfl (.tmp 91) (.tmp 92) 22 rfl 5 Tryz.underlying22 (by kernel_rfl) B g i4 (xs3.length - i4) (cap - i4) xs3.length cap (by simp [Act.eval, Act.put]) (bys xs3) Hod.out hoff A3 m3 c3 (by simp [Act.eval, Act.put]) (bys zs) Hrd.out (bys_one _) k Hk.out ?_
         intro w1 hown1 hg1;have hb1 : Blk w1 b 247 _ := hmid4.out.1.drew.same (hg1.block b blt4 hgb);obtain ⟨e0, e1, e2, e3⟩ := hb1.four;have z2 := hb1.frozen 2))
       all_goals
        go_wp2_with fail
       all_goals
        have hk := Hk.out;have hfl := Hfl.out;have hzl := hsrc3.len;have hk1 : (zs.take k).length = k := by rw [List.length_take]; omega
        have hLl := hmid4.out.2.2.1.len
        go_roundw
        case rel =>
         have hS := hsrc3.cut (k := k) hkm;rw [Nat.mul_one] at hS;refine ⟨_, _, _, zs.drop k, L3.drop k ++ zs.take k, xs3.take i4 ++ zs.take k ++ xs3.drop (i4 + k), i4 + k, .slice (some ⟨g, 0, none⟩) xs3.length cap, rfl, hS, ?_, ?_, ?_, ?_, ?_, ?_, ?_⟩
         · intro _;simp only [List.length_append, List.length_take, List.length_drop]; omega
         · show _ = _;rw [over_last (by omega) (by omega) (by omega)]
           exact heq3.out
         · have := hb1.set_ 2 (.int .i64 ((i4 : Int) + (k : Int)));rw [show ((i4 + k : Nat) : Int) = (i4 : Int) + (k : Int) from by omega]
           exact this
         · have h1 := own_far hown1 (own_ne hown1 hb1 (by decide)) (p := ⟨b, 2, none⟩) (.int .i64 ((i4 : Int) + (k : Int)))
           rw [bys_take, bys_take, bys_drop, ← bys_append, ← bys_append] at h1;have h2 : (xs3.take i4 ++ zs.take k ++ xs3.drop (i4 + k)).length = xs3.length := by
            simp only [List.length_append, List.length_take, List.length_drop]; omega
           rw [h2];exact h1
         · have := hmid4.out.2.2.1.over (ys := zs.take k) (by omega) (by omega)
           rw [hk1] at this;exact this
         · refine Fr.setCell ((hmid4.out.2.2.2.1.drew).grown hg1 ?_) (.inl (.inl rfl)) _;intro j hj;cases hj;exact (hmid4.out.2.2.2.2 g rfl).imp (fun h => Or.inr h.symm) id
         · exact hmid4.out.2.2.2.2
        case measure => simp [lenV]; omega
    · have h00 : m3 = 0 := by omega
      go_wp2_with fail
      go_end0
      have hz : zs = [] := List.eq_nil_of_length_eq_zero (by have := hsrc3.len; omega)
      have he := heq3.out;rw [hz, List.append_nil] at he;have hR := hmid.out.2.2.1;rw [lastN_all (by have := hR.len; have := hR.1; omega)] at he
      rw [he] at hR;refine ⟨rfl, v3.ownBlock, ⟨v3, xs3, i3, ?_, hmid.out.2.1, rfl, hR, hs1, hs2, hBb⟩, hmid.out.2.2.2.1, hmid.out.2.2.2.2⟩;have := hmid.out.1;rw [List.length_append, hml];exact this
end Go.Proofs.YtcjehjdehdoaeaaGreatDoor.win
end
