/-
  State.Next as a plain function; lists of symbols in memory. No condition beyond each theorem's own.
-/
import Derived.Test.YthfmomhcalppfaaDoorStRep
import Derived.Test.YthfmomhcalppfaaDoorStOpen
import Derived.Deep.Slices
import Derived.Deep.RegionLaw
import Derived.Deep.RegionHeld3
import Derived.Deep.DeepCutAuto
import Derived.Deep.QuietTactic
import Derived.BigQuiet
import Derived.BigRegion
namespace Go.Proofs.YthfmomhcalppfaaDoor
open Go.RowKit Go.ChangeShapes Go.WideShapes Go.ChangeAt Go.Deep
set_option maxRecDepth 100000
theorem rightP_n {n a b c d : Int} (h : rightP n a b c d) : ∃ k : Nat, n = (k : Int) ∧ k < 12 := ⟨n.toNat, by have := h.2.2.2.2.1; omega, by have := h.2.2.2.2.2; omega⟩
theorem movedN_ok {n k : Int} (h0 : 0 ≤ n) (h1 : n < 12) : 0 ≤ movedN n k ∧ movedN n k < 12 := by
  unfold movedN
  split
  · split
    · omega
    · split <;> omega
  · split
    · split <;> omega
    · split
      · omega
      · split <;> omega
theorem bup {w w1 w2 : World} (h : Below w.heap.size w w1) (k : Below w1.heap.size w1 w2) : Below w.heap.size w w2 := h.trans (k.mono h.size)
theorem bmk {w w1 : World} (h : Below w.heap.size w w1) (o : Obj) : Below w.heap.size w (w1.alloc o) := h.alloc h.size _
structure St where
  (n a b c d : Int)
structure Sy where
  (k : Int)
  (y : UInt8)
  (l x : Int)
def St.v (s : St) : Value := .agg (stC s.n s.a s.b s.c s.d)
def Sy.cs (y : Sy) : Array Value := #[.int .i64 y.k, .int .u8 (y.y.toNat : Int), .int .i64 y.l, .int .i64 y.x]
def Sy.v (y : Sy) : Value := .agg y.cs
def St.zero : St := ⟨0, 0, 0, 0, 0⟩
def St.start : St := ⟨0, 1, 1, 1, 1⟩
def St.right (s : St) : Prop := rightP s.n s.a s.b s.c s.d
instance (s : St) : Decidable s.right := by unfold St.right; infer_instance
def St.rep (s : St) (i : Int) : Int := if i = 0 then s.a else if i = 1 then s.b else if i = 2 then s.c else s.d
def nextE (s : St) (y : Sy) : Int := if s.right then formedN y.k y.l y.x else 7
def nextS (s : St) (y : Sy) : St :=
  if nextE s y = 0 then
    (if y.k = 2 then ⟨movedN s.n 2, y.x, s.a, s.b, s.c⟩
     else if y.k = 3 then
      (if y.x = 0 then ⟨movedN s.n 3, s.a, s.b, s.c, s.d⟩ else if y.x = 1 then ⟨movedN s.n 3, s.b, s.a, s.c, s.d⟩
       else if y.x = 2 then ⟨movedN s.n 3, s.c, s.a, s.b, s.d⟩ else ⟨movedN s.n 3, s.d, s.a, s.b, s.c⟩)
     else ⟨movedN s.n y.k, s.a, s.b, s.c, s.d⟩)
  else St.zero
theorem Next_fn (s : St) (y : Sy) : ∀ w, Laid w → Calls Tryd.prog 10 #[.agg (stC s.n s.a s.b s.c s.d), .agg #[.int .i64 y.k, .int .u8 (y.y.toNat : Int), .int .i64 y.l, .int .i64 y.x]] w (NPost (.agg (stC (nextS s y).n (nextS s y).a (nextS s y).b (nextS s y).c (nextS s y).d)) (nextE s y) w) := by
  obtain ⟨n, a, b, c, d⟩ := s
  obtain ⟨k, z, l, x⟩ := y
  simp only []
  by_cases h : rightP n a b c d
  · have hE : nextE ⟨n, a, b, c, d⟩ ⟨k, z, l, x⟩ = formedN k l x := if_pos h
    unfold nextS
    rw [hE]
    obtain ⟨q, rfl, hq⟩ := rightP_n h
    by_cases k1 : k = 1
    · subst k1
      exact fun w hl => Next_lit q a b c d _ l x h w hl
    · by_cases k4 : k = 4
      · subst k4
        exact fun w hl => Next_short q a b c d _ l x h w hl
      · by_cases k2 : k = 2
        · subst k2
          by_cases hf : isL l ∧ isD x
          · have hf0 : formedN 2 l x = 0 := by unfold formedN; rw [if_neg (by decide), if_neg (by decide), if_pos rfl, if_pos hf]
            rw [if_pos hf0, if_pos rfl, hf0]
            exact fun w hl => Next_match q a b c d _ l x h hf w hl
          · have hf0 : formedN 2 l x = 7 := by unfold formedN; rw [if_neg (by decide), if_neg (by decide), if_pos rfl, if_neg hf]
            rw [hf0, if_neg (by decide)]
            exact fun w _ => Next_match_bad q a b c d _ l x h hf w
        · by_cases k3 : k = 3
          · subst k3
            by_cases hf : isL l ∧ repOk x
            · have hf0 : formedN 3 l x = 0 := by unfold formedN; rw [if_neg (by decide), if_neg (by decide), if_neg (by decide), if_pos rfl, if_pos hf]
              rw [if_pos hf0, if_neg (show ¬ (3 : Int) = 2 by decide), if_pos (show (3 : Int) = 3 from rfl), hf0]
              have hx : x = 0 ∨ x = 1 ∨ x = 2 ∨ x = 3 := by have := hf.2; unfold repOk at this; omega
              rcases hx with rfl | rfl | rfl | rfl
              · exact fun w hl => Next_rep0 q a b c d _ l h hf.1 w hl
              · exact fun w hl => Next_rep1 q a b c d _ l h hf.1 w hl
              · exact fun w hl => Next_rep2 q a b c d _ l h hf.1 w hl
              · exact fun w hl => Next_rep3 q a b c d _ l h hf.1 w hl
            · have hf0 : formedN 3 l x = 7 := by unfold formedN; rw [if_neg (by decide), if_neg (by decide), if_neg (by decide), if_pos rfl, if_neg hf]
              rw [hf0, if_neg (by decide)]
              exact fun w _ => Next_rep_bad q a b c d _ l x h hf w
          · have hf0 : formedN k l x = 6 := by unfold formedN; rw [if_neg k1, if_neg k4, if_neg k2, if_neg k3]
            rw [hf0, if_neg (by decide)]
            exact fun w _ => Next_kind q a b c d k _ l x h k1 k2 k3 k4 w
  · have hE : nextE ⟨n, a, b, c, d⟩ ⟨k, z, l, x⟩ = 7 := if_neg h
    unfold nextS
    rw [hE, if_neg (by decide)]
    exact fun w _ => Next_bad n a b c d k _ l x h w
theorem Next_p (s : St) (y : Sy) (w : World) (hl : Laid w) : Calls Tryd.prog 10 #[s.v, y.v] w (NPost (nextS s y).v (nextE s y) w) := Next_fn s y w hl
theorem formedN_zero {k l x : Int} (h : formedN k l x = 0) : k = 1 ∨ k = 4 ∨ (k = 2 ∧ isL l ∧ isD x) ∨ (k = 3 ∧ isL l ∧ repOk x) := by
  unfold formedN at h
  by_cases k1 : k = 1
  · exact .inl k1
  · by_cases k4 : k = 4
    · exact .inr (.inl k4)
    · rw [if_neg k1, if_neg k4] at h
      by_cases k2 : k = 2
      · rw [if_pos k2] at h
        split at h
        · exact .inr (.inr (.inl ⟨k2, by assumption⟩))
        · cases h
      · rw [if_neg k2] at h
        by_cases k3 : k = 3
        · rw [if_pos k3] at h
          split at h
          · exact .inr (.inr (.inr ⟨k3, by assumption⟩))
          · cases h
        · rw [if_neg k3] at h
          cases h
theorem nextE_zero {s : St} {y : Sy} (h : nextE s y = 0) : s.right ∧ formedN y.k y.l y.x = 0 := by
  unfold nextE at h
  split at h
  · exact ⟨by assumption, h⟩
  · cases h
theorem nextS_right {s : St} {y : Sy} (h : nextE s y = 0) : (nextS s y).right := by
  obtain ⟨hr, hf⟩ := nextE_zero h
  have hr' := hr
  obtain ⟨ha, hb, hc, hd, h0, h1⟩ := hr'
  unfold nextS
  rw [if_pos h]
  have hm : ∀ k, 0 ≤ movedN s.n k ∧ movedN s.n k < 12 := fun k => movedN_ok h0 h1
  rcases formedN_zero hf with k1 | k4 | ⟨k2, hl, hx⟩ | ⟨k3, hl, hx⟩
  · rw [if_neg (by omega), if_neg (by omega)]
    exact ⟨ha, hb, hc, hd, hm y.k⟩
  · rw [if_neg (by omega), if_neg (by omega)]
    exact ⟨ha, hb, hc, hd, hm y.k⟩
  · rw [if_pos k2]
    exact ⟨hx, ha, hb, hc, hm 2⟩
  · rw [if_neg (by omega), if_pos k3]
    split
    · exact ⟨ha, hb, hc, hd, hm 3⟩
    · split
      · exact ⟨hb, ha, hc, hd, hm 3⟩
      · split
        · exact ⟨hc, ha, hb, hd, hm 3⟩
        · exact ⟨hd, ha, hb, hc, hm 3⟩
theorem start_right : St.start.right := by decide
theorem stC_five {w : World} {g t : Nat} {n a b c d : Int} (h : Blk w g t (stC n a b c d)) : w.cell? ⟨g, 0, none⟩ = some (.int .i64 n) ∧ w.cell? ⟨g, 1, none⟩ = some (.int .i64 a) ∧ w.cell? ⟨g, 2, none⟩ = some (.int .i64 b) ∧ w.cell? ⟨g, 3, none⟩ = some (.int .i64 c) ∧ w.cell? ⟨g, 4, none⟩ = some (.int .i64 d) := ⟨h.cell 0, h.cell 1, h.cell 2, h.cell 3, h.cell 4⟩

theorem keep5 {w1 : World} {N g i : Nat} {v0 v1 v2 v3 v4 : Value} (h : ¬ g = N) : (((((w1.setCell ⟨N, 0, none⟩ v0).setCell ⟨N, 1, none⟩ v1).setCell ⟨N, 2, none⟩ v2).setCell ⟨N, 3, none⟩ v3).setCell ⟨N, 4, none⟩ v4).cell? ⟨g, i, none⟩ = w1.cell? ⟨g, i, none⟩ := by
  have e : ∀ (w : World) (j : Nat) (v : Value), (w.setCell ⟨N, j, none⟩ v).cell? ⟨g, i, none⟩ = w.cell? ⟨g, i, none⟩ := fun w j v => World.cell?_setCell_other w _ _ v (fun e => h (by first | exact (Addr.mk.inj e).1 | exact (Addr.mk.inj e).1.symm))
  rw [e, e, e, e, e]
theorem bd1 {w w1 : World} (h : Below w.drew.heap.size w.drew w1) : Below w.heap.size w w1 := ((Below.refl _ w).drew).trans h
theorem bd2 {w w1 : World} {o : Obj} (h : Below (w.alloc o).drew.heap.size (w.alloc o).drew w1) : Below w.heap.size w w1 := (((Below.refl _ w).alloc (Nat.le_refl _) o).drew).trans (h.mono (by show w.heap.size ≤ (w.alloc o).heap.size; simp))
theorem Rd.keep0 {w w' : World} {size n : Nat} {A : Option Addr} {xs : List Value} (h : Rd w size A n xs) (hk : 0 < n → ∀ ad, A = some ad → w'.heap[ad.block]? = w.heap[ad.block]?) : Rd w' size A n xs :=
  ⟨h.1, fun hn => by
    obtain ⟨ad, e, hc⟩ := h.2 hn
    refine ⟨ad, e, fun j u hu => (World.cell?_of_block ?_).trans (hc j u hu)⟩
    rw [block_add]
    exact hk hn ad e⟩
theorem own_le {w : World} {B : Nat} {e : TypeId} {size n c : Nat} {a : Option Addr} {xs : List Value} (h : w.ownsRow B e size (.slice a n c) n xs) : n ≤ c := by
  rcases h.2 with ⟨hv, h0⟩ | ⟨g', cap', cur, hv, _, _, hn, _⟩
  · injection hv with _ h2 h3; omega
  · injection hv with _ _ h3; omega
theorem own_addr {w : World} {B : Nat} {e : TypeId} {size n c : Nat} {a : Option Addr} {xs : List Value} (h : w.ownsRow B e size (.slice a n c) n xs) {ad : Addr} (ha : a = some ad) : (Value.slice a n c).ownBlock = some ad.block := by
  subst ha; rfl
/-- the cells of symbols, one behind the other -/
def syc : List Sy → List Value
  | [] => []
  | y :: r => .int .i64 y.k :: .int .u8 (y.y.toNat : Int) :: .int .i64 y.l :: .int .i64 y.x :: syc r
theorem syc_length (l : List Sy) : (syc l).length = l.length * 4 := by
  induction l with
  | nil => rfl
  | cons y r ih => simp only [syc, List.length_cons, ih]; omega
theorem syc_append (l r : List Sy) : syc (l ++ r) = syc l ++ syc r := by
  induction l with
  | nil => rfl
  | cons y l ih => simp only [syc, List.cons_append, ih]
theorem syc_one (l : List Sy) : ∀ u ∈ syc l, u.oneCell' = true := by
  induction l with
  | nil => intro u h; cases h
  | cons y r ih =>
    intro u h
    simp only [syc, List.mem_cons] at h
    rcases h with rfl | rfl | rfl | rfl | h
    · rfl
    · rfl
    · rfl
    · rfl
    · exact ih u h
theorem syc_get {l : List Sy} {i : Nat} {y : Sy} (h : l[i]? = some y) : (syc l)[i * 4]? = some (.int .i64 y.k) ∧ (syc l)[i * 4 + 1]? = some (.int .u8 (y.y.toNat : Int)) ∧ (syc l)[i * 4 + 2]? = some (.int .i64 y.l) ∧ (syc l)[i * 4 + 3]? = some (.int .i64 y.x) := by
  induction l generalizing i with
  | nil => simp at h
  | cons z r ih =>
    cases i with
    | zero =>
      simp at h
      subst h
      exact ⟨rfl, rfl, rfl, rfl⟩
    | succ i =>
      simp at h
      have := ih h
      have e : (i + 1) * 4 = i * 4 + 1 + 1 + 1 + 1 := by omega
      rw [e]
      simp only [syc, List.getElem?_cons_succ, show i * 4 + 1 + 1 + 1 + 1 + 1 = (i * 4 + 1) + 1 + 1 + 1 + 1 from rfl, show i * 4 + 1 + 1 + 1 + 1 + 2 = (i * 4 + 2) + 1 + 1 + 1 + 1 by omega, show i * 4 + 1 + 1 + 1 + 1 + 3 = (i * 4 + 3) + 1 + 1 + 1 + 1 by omega]
      exact this
/-- symbols that come in: they lie in w -/
def InS (w : World) (A : Option Addr) (n : Nat) (l : List Sy) : Prop := Rd w 4 A n (syc l) ∧ (0 < n → ∀ ad, A = some ad → ad.block < w.heap.size ∧ ad.spot = none) ∧ n ≤ 4398046511104
section
variable {w w' : World} {A : Option Addr} {n c : Nat} {l : List Sy}
theorem InS.len (h : InS w A n l) : l.length = n := by have := h.1.1; rw [syc_length] at this; omega
theorem InS.fr {S : Nat → Prop} (h : InS w A n l) (hf : Fr S w w') (hS : 0 < n → ∀ ad, A = some ad → ¬ S ad.block) : InS w' A n l :=
  ⟨h.1.keep0 fun h0 ad had => hf.block _ (h.2.1 h0 ad had).1 (hS h0 ad had), fun h0 ad had => ⟨Nat.lt_of_lt_of_le (h.2.1 h0 ad had).1 hf.size, (h.2.1 h0 ad had).2⟩, h.2.2⟩
theorem InS.below (h : InS w A n l) (hb : Below w.heap.size w w') : InS w' A n l :=
  h.fr (S := fun _ => False) ⟨hb.os, hb.tape, hb.output, hb.size, fun k hk _ => hb.block k hk⟩ fun _ _ _ e => e
theorem InS.nil (w : World) : InS w none 0 [] := ⟨⟨rfl, fun h => absurd h (by omega)⟩, (fun _ _ h => by cases h), by omega⟩
theorem InS.take {k : Nat} (h : InS w A n l) (hk : k ≤ n) : InS w A k (l.take k) := by
  refine ⟨?_, fun h0 => h.2.1 (by omega), by have := h.2.2; omega⟩
  have := h.1.take hk
  have e : (syc l).take (k * 4) = syc (l.take k) := by
    rw [show syc l = syc (l.take k) ++ syc (l.drop k) by rw [← syc_append, List.take_append_drop]]
    rw [List.take_append_of_le_length (by rw [syc_length, List.length_take, h.len]; omega), List.take_of_length_le (by rw [syc_length, List.length_take]; omega)]
  rwa [e] at this
theorem InS.at (h : InS w A n l) {i : Nat} (hi : i < n) : ∃ b off y, A = some ⟨b, off, none⟩ ∧ l[i]? = some y ∧ b < w.heap.size ∧ w.cell? ⟨b, off + i * 4, none⟩ = some (.int .i64 y.k) ∧ w.cell? ⟨b, off + (i * 4 + 1), none⟩ = some (.int .u8 (y.y.toNat : Int)) ∧ w.cell? ⟨b, off + (i * 4 + 2), none⟩ = some (.int .i64 y.l) ∧ w.cell? ⟨b, off + (i * 4 + 3), none⟩ = some (.int .i64 y.x) := by
  obtain ⟨⟨b, off, sp⟩, rfl, hc⟩ := h.1.2 (by omega)
  have hl := h.len
  have hs := (h.2.1 (by omega) _ rfl)
  have e : sp = none := hs.2
  subst e
  have hy : l[i]? = some l[i] := List.getElem?_eq_getElem (by omega)
  obtain ⟨g0, g1, g2, g3⟩ := syc_get hy
  have hadd : ∀ j, (⟨b, off, none⟩ : Addr).add j = ⟨b, off + j, none⟩ := fun j => by unfold Addr.add; split <;> simp_all
  have a0 := hc _ _ g0
  have a1 := hc _ _ g1
  have a2 := hc _ _ g2
  have a3 := hc _ _ g3
  rw [hadd] at a0 a1 a2 a3
  exact ⟨b, off, _, rfl, hy, hs.1, a0, a1, a2, a3⟩
end
section
variable {H : Type} {enc : TypeId × Value → H} {w : World} {b0 : Nat} {held : Bool} {r : Reach}
theorem byte_at5 {n : Nat} {cs : List Value} {i : Nat} {y : Option (DataW H × List MemPlace)} (h : DataW.trod enc Tryd.prog w 0 (fun _ => true) held n 5 ((cs.drop i).take (Tryd.prog.cellsOf 5)) = y) (hy : y.isSome = true) (hi : i < cs.length) : ∃ x : UInt8, cs[i]? = some (.int .u8 (x.toNat : Int)) := by
  rw [c05] at h
  obtain ⟨y, rfl⟩ := Option.isSome_iff_exists.1 hy
  obtain ⟨x, e, _, hw⟩ := DataW.trod_int Tryd.underlying5 h
  rw [List.drop_eq_getElem_cons hi, List.take_succ_cons, List.take_zero] at e
  injection e with e
  have hw := bounds_u8 hw
  refine ⟨UInt8.ofNat x.toNat, ?_⟩
  have hx : ((UInt8.ofNat x.toNat).toNat : Int) = x := by
    rw [UInt8.toNat_ofNat']; omega
  rw [hx]
  rw [List.getElem?_eq_getElem hi, e]
theorem cells_sy {n : Nat} {cs : List Value} {x : DataW H × List MemPlace} (hf : DataW.trod enc Tryd.prog w 0 (fun _ => true) held n 24 cs = some x) : ∃ y : Sy, cs = y.cs.toList := by
  obtain ⟨xs, n', _, _, hlen, hxl, hat⟩ := DataW.trod_struct Tryd.underlying24 hf
  rw [c24] at hlen
  have h0 := hat 0 _ rfl
  have h1 := hat 1 _ rfl
  have h2 := hat 2 _ rfl
  have h3 := hat 3 _ rfl
  have hxl' : xs.length = 4 := hxl
  obtain ⟨a, e0⟩ := int_at3 (i := 0) h0 (by simp; omega) (by omega)
  obtain ⟨b, e1⟩ := byte_at5 (i := 1) h1 (by simp; omega) (by omega)
  obtain ⟨c, e2⟩ := int_at3 (i := 2) h2 (by simp; omega) (by omega)
  obtain ⟨d, e3⟩ := int_at3 (i := 3) h3 (by simp; omega) (by omega)
  match cs, hlen, e0, e1, e2, e3 with
  | [v0, v1, v2, v3], _, e0, e1, e2, e3 =>
    simp at e0 e1 e2 e3
    exact ⟨⟨a, b, c, d⟩, by rw [e0, e1, e2, e3]; rfl⟩
/-- a list of symbols that comes in as an argument -/
theorem open_sys {v : Value} {d : DataW H} {p : List MemPlace} (hv : Value.okWide Tryd.prog w r b0 22 v) (h : DataW.Trod enc Tryd.prog w 0 (fun _ => true) held 22 v d p) :
    ∃ A n c l, v = .slice A n c ∧ n ≤ c ∧ Rd w 4 A n (syc l) ∧ (0 < n → ∀ ad, A = some ad → ad.block < w.heap.size ∧ ad.spot = none) ∧ (n = 0 ∨ ∃ es sp, d = .slice es sp ∧ es.length = n) := by
  obtain ⟨A, n, c, rfl⟩ := okWide_slice Tryd.underlying22 hv
  obtain ⟨fuel, hf⟩ := h
  rcases open_slice Tryd.underlying22 hf with ⟨hcs, _⟩ | ⟨a, len, cap, m, n', D, Pl, hcs, _, hl, hm, hmm, hx, hi⟩
  · simp [Value.cells] at hcs
    obtain ⟨rfl, rfl, rfl⟩ := hcs
    exact ⟨none, 0, 0, [], rfl, Nat.le_refl _, ⟨rfl, fun h => absurd h (by omega)⟩, (fun _ _ h => by cases h), .inl rfl⟩
  · simp [Value.cells] at hcs
    obtain ⟨rfl, rfl, rfl⟩ := hcs
    simp only [if_true] at hmm
    subst hmm
    have cell : ∀ i, i < n → ∃ y : Sy, w.cell? (a.add (i * 4)) = some (.int .i64 y.k) ∧ w.cell? (a.add (i * 4 + 1)) = some (.int .u8 (y.y.toNat : Int)) ∧ w.cell? (a.add (i * 4 + 2)) = some (.int .i64 y.l) ∧ w.cell? (a.add (i * 4 + 3)) = some (.int .i64 y.x) := by
      intro i hin
      obtain ⟨cs', hc, ht⟩ := hi i (by omega)
      obtain ⟨y, rfl⟩ := cells_sy ht
      rw [c24] at hc
      obtain ⟨_, _, hat⟩ := World.cells?_some hc
      have h0 := hat 0 (by omega)
      have h1 := hat 1 (by omega)
      have h2 := hat 2 (by omega)
      have h3 := hat 3 (by omega)
      rw [add_add'] at h0 h1 h2 h3
      exact ⟨y, by simpa [Sy.cs] using h0, by simpa [Sy.cs] using h1, by simpa [Sy.cs] using h2, by simpa [Sy.cs] using h3⟩
    have hall : ∃ l : List Sy, l.length = n ∧ ∀ i y, l[i]? = some y → w.cell? (a.add (i * 4)) = some (.int .i64 y.k) ∧ w.cell? (a.add (i * 4 + 1)) = some (.int .u8 (y.y.toNat : Int)) ∧ w.cell? (a.add (i * 4 + 2)) = some (.int .i64 y.l) ∧ w.cell? (a.add (i * 4 + 3)) = some (.int .i64 y.x) := by
      clear hi hf hx
      revert cell
      clear hl
      intro cell
      refine ⟨(List.range n).attach.map fun i => Classical.choose (cell i.1 (List.mem_range.1 i.2)), by simp, fun i x hx => ?_⟩
      have hin : i < n := by
        have := (List.getElem?_eq_some_iff.1 hx).1
        simpa using this
      have := Classical.choose_spec (cell i hin)
      simp [hin] at hx
      rw [← hx]
      exact this
    obtain ⟨l, hll, hlc⟩ := hall
    refine ⟨some a, n, _, l, rfl, hl, ⟨by rw [syc_length]; omega, fun _ => ⟨a, rfl, fun j u hu => ?_⟩⟩, fun h0 ad had => ?_, .inr ⟨_, _, by simp only [Prod.mk.injEq] at hx; exact hx.1, by simp⟩⟩
    · have hj : j < l.length * 4 := by have := (List.getElem?_eq_some_iff.1 hu).1; rwa [syc_length] at this
      have hg : l[j / 4]? = some l[j / 4] := List.getElem?_eq_getElem (by omega)
      obtain ⟨g0, g1, g2, g3⟩ := syc_get hg
      obtain ⟨c0, c1, c2, c3⟩ := hlc _ _ hg
      have hj4 : j = j / 4 * 4 ∨ j = j / 4 * 4 + 1 ∨ j = j / 4 * 4 + 2 ∨ j = j / 4 * 4 + 3 := by omega
      rcases hj4 with e | e | e | e
      · rw [e] at hu ⊢; rw [g0] at hu; cases hu; exact c0
      · rw [e] at hu ⊢; rw [g1] at hu; cases hu; exact c1
      · rw [e] at hu ⊢; rw [g2] at hu; cases hu; exact c2
      · rw [e] at hu ⊢; rw [g3] at hu; cases hu; exact c3
    · cases had
      obtain ⟨y, h1, _⟩ := cell 0 h0
      have := World.block_lt_of_cell? w _ h1
      rw [block_add] at this
      refine ⟨this, ?_⟩
      obtain ⟨b, off, spot⟩ := a
      simpa [Addr.add] using World.cell?_spot h1
end
theorem st_five {w : World} {g t : Nat} {n a b c d : Int} (h : Blk w g t (stC n a b c d)) : (w.cell? ⟨g, 0, none⟩ = some (.int .i64 n) ∧ w.cell? ⟨g, 1, none⟩ = some (.int .i64 a) ∧ w.cell? ⟨g, 2, none⟩ = some (.int .i64 b) ∧ w.cell? ⟨g, 3, none⟩ = some (.int .i64 c) ∧ w.cell? ⟨g, 4, none⟩ = some (.int .i64 d)) ∧
    (w.frozen? ⟨g, 0, none⟩ = false ∧ w.frozen? ⟨g, 1, none⟩ = false ∧ w.frozen? ⟨g, 2, none⟩ = false ∧ w.frozen? ⟨g, 3, none⟩ = false ∧ w.frozen? ⟨g, 4, none⟩ = false) := ⟨⟨h.cell 0, h.cell 1, h.cell 2, h.cell 3, h.cell 4⟩, ⟨h.frozen 0, h.frozen 1, h.frozen 2, h.frozen 3, h.frozen 4⟩⟩
theorem set5_st {w : World} {g t : Nat} {n a b c d : Int} (h : Blk w g t (stC n a b c d)) (n' a' b' c' d' : Int) :
    Blk (((((w.setCell ⟨g, 0, none⟩ (.int .i64 n')).setCell ⟨g, 1, none⟩ (.int .i64 a')).setCell ⟨g, 2, none⟩ (.int .i64 b')).setCell ⟨g, 3, none⟩ (.int .i64 c')).setCell ⟨g, 4, none⟩ (.int .i64 d')) g t (stC n' a' b' c' d') :=
  ((((h.set_ 0 _).set_ 1 _).set_ 2 _).set_ 3 _).set_ 4 _
theorem infosy : (Tryd.prog.info? 24).map (fun i => (i.zero, i.size, i.bytes)) = some (some (.agg #[.int .i64 0, .int .u8 0, .int .i64 0, .int .i64 0]), 4, 32) := by kernel_rfl
theorem Rd.of_blk {w : World} {g n size : Nat} {t : TypeId} {cs : Array Value} {xs : List Value} (h : Blk w g t cs) (hx : cs.toList = xs) (hn : xs.length = n * size) : Rd w size (some ⟨g, 0, none⟩) n xs :=
  ⟨hn, fun _ => ⟨_, rfl, fun j u hu => by
    rw [show (⟨g, 0, none⟩ : Addr).add j = ⟨g, j, none⟩ from by unfold Addr.add; split <;> simp_all]
    rw [h.cell, ← Array.getElem?_toList, hx]; exact hu⟩⟩
theorem InS.of_own {w : World} {B : Nat} {A : Option Addr} {n c : Nat} {l : List Sy} (h : w.ownsRow B 24 4 (.slice A n c) n (syc l)) (hn : n ≤ 4398046511104) : InS w A n l := by
  refine ⟨Rd.of_own h, fun h0 ad had => ⟨(own_lt h (own_addr h had)).2, ?_⟩, hn⟩
  obtain ⟨g, cap, hv, _, _⟩ := h.form h0
  injection hv with hA
  rw [hA] at had
  cases had
  rfl
/-- a copy of symbols in new memory -/
def FreshS (w w' : World) (a : Option Addr) (n c : Nat) (l : List Sy) : Prop := w'.ownsRow w.heap.size 24 4 (.slice a n c) n (syc l) ∧ Below w.heap.size w w'
theorem wpList_freshS {ops : Array Oper} {rest : List Oper} {o : Oper} {a : Act} {Q : Exit → Act → World → Prop} (hgd : o.guard = none) (s x : Operand)
    (ho : o.op = .call { callee := .builtin .append, args := #[s, x], argTypes := #[22, 22] }) {w : World} (N : Nat) (hN : N = w.heap.size) (hs : a.eval s = .slice (some ⟨N, 0, none⟩) 0 0)
    (A : Option Addr) (m c : Nat) (l : List Sy) (hx : a.eval x = .slice A m c) (hr : InS w A m l)
    (h : ∀ a' c' w', FreshS w w' a' m c' l → wpList Tryd.prog ops Q rest (a.put o.dst (.slice a' m c')) w') : wpList Tryd.prog ops Q (o :: rest) a (w.alloc (.cells #[] 24)) := by
  obtain ⟨i0, hi0, hz0, hz1, hz2⟩ := info_parts infosy
  have hO := (World.ownsRow_made (base := w.heap.size) (e := 24) (size := 4) w #[] 0 (Nat.le_refl _) (by unfold maxLen; omega) rfl)
  have hr' := hr.below ((Below.refl _ _).alloc (Nat.le_refl _) (.cells #[] 24))
  subst hN
  refine wpList_append_rd hgd s x 22 ho w.heap.size 24 i0 _ 4 32 Tryd.underlying22 hi0 hz0 hz1 hz2 rfl (by decide) _ 0 [] hs hO A m c (syc l) hx hr'.1 (syc_one _) (by have := hr.2.2; simp only [maxLen]; omega) (by have := hr.2.2; omega) (by simp) ?_
  intro a1 c1 w1 hown hg hat
  simp only [Nat.zero_add, List.nil_append] at hown hat ⊢
  refine h a1 c1 w1 ⟨hown, ?_⟩
  refine Below.grown ((Below.refl _ w).alloc (Nat.le_refl _) _) hg (by simp) ?_
  intro k hk
  simp [Value.ownBlock] at hk; omega
theorem take_snoc' {l : List Sy} {i : Nat} {y : Sy} (h : l[i]? = some y) : l.take (i + 1) = l.take i ++ [y] := by
  rw [List.take_add_one, h]; rfl
theorem formedN_2 (l x : Int) : formedN 2 l x = if isL l ∧ isD x then 0 else 7 := by
  unfold formedN
  rw [if_neg (show ¬ ((2 : Int) = 1) by decide), if_neg (show ¬ ((2 : Int) = 4) by decide), if_pos rfl]
end Go.Proofs.YthfmomhcalppfaaDoor
