
/-
  A book of lists that were answered, and the walk of the law's held: all are as they were left. Conditions: each list is a row of the call's own, no two share a block.
-/
import Derived.Test.YtcfaocbdhfmhbaaHeld
import Derived.Outline
namespace Go.Proofs.Ytcfaocbdhfmhbaa
open Go.RowKit

theorem infoH : (Try.prog.info? 66).map (fun i => (i.zero, i.size, i.bytes)) = some (some (.agg #[.slice none 0 0, .int .i64 0, .int .u8 0, .string ⟨#[]⟩, .bool false]), 5, 64) := by kernel_rfl
structure HE where
  A : Option Addr
  c : Nat
  N : Nat
  mark : UInt8
  want : List UInt8
  kept : Bool
  xs : List UInt8
def HE.v (e : HE) : Value := .slice e.A e.xs.length e.c
def HE.cs (e : HE) : List Value := [.slice e.A e.xs.length e.c, .int .i64 (e.N : Int), .int .u8 (e.mark.toNat : Int), .string (strOf e.want), .bool e.kept]
def hec : List HE → List Value
  | [] => []
  | e :: r => .slice e.A e.xs.length e.c :: .int .i64 (e.N : Int) :: .int .u8 (e.mark.toNat : Int) :: .string (strOf e.want) :: .bool e.kept :: hec r
theorem hec_length (l : List HE) : (hec l).length = l.length * 5 := by
  induction l with
  | nil => rfl
  | cons y r ih => simp only [hec, List.length_cons, ih]; omega
theorem hec_append (l r : List HE) : hec (l ++ r) = hec l ++ hec r := by
  induction l with
  | nil => rfl
  | cons y l ih => simp only [hec, List.cons_append, ih]
theorem hec_one (l : List HE) : ∀ u ∈ hec l, u.oneCell' = true := by
  induction l with
  | nil => intro u h; cases h
  | cons y r ih =>
    intro u h
    simp only [hec, List.mem_cons] at h
    rcases h with rfl | rfl | rfl | rfl | rfl | h
    · rfl
    · rfl
    · rfl
    · rfl
    · rfl
    · exact ih u h
theorem hec_get {l : List HE} {i : Nat} {e : HE} (h : l[i]? = some e) : (hec l)[i * 5]? = some (.slice e.A e.xs.length e.c) ∧ (hec l)[i * 5 + 1]? = some (.int .i64 (e.N : Int)) ∧ (hec l)[i * 5 + 2]? = some (.int .u8 (e.mark.toNat : Int)) ∧ (hec l)[i * 5 + 3]? = some (.string (strOf e.want)) ∧ (hec l)[i * 5 + 4]? = some (.bool e.kept) := by
  induction l generalizing i with
  | nil => simp at h
  | cons z r ih =>
    cases i with
    | zero =>
      simp at h
      subst h
      exact ⟨rfl, rfl, rfl, rfl, rfl⟩
    | succ i =>
      simp at h
      have := ih h
      rw [show (i + 1) * 5 = i * 5 + 1 + 1 + 1 + 1 + 1 by omega]
      simp only [hec, List.getElem?_cons_succ, show i * 5 + 1 + 1 + 1 + 1 + 1 + 1 = (i * 5 + 1) + 1 + 1 + 1 + 1 + 1 from rfl, show i * 5 + 1 + 1 + 1 + 1 + 1 + 2 = (i * 5 + 2) + 1 + 1 + 1 + 1 + 1 by omega, show i * 5 + 1 + 1 + 1 + 1 + 1 + 3 = (i * 5 + 3) + 1 + 1 + 1 + 1 + 1 by omega, show i * 5 + 1 + 1 + 1 + 1 + 1 + 4 = (i * 5 + 4) + 1 + 1 + 1 + 1 + 1 by omega]
      exact this
theorem hec_set {l : List HE} {i : Nat} {e' : HE} (h : i < l.length) :
    (((((hec l).set (i * 5) (.slice e'.A e'.xs.length e'.c)).set (i * 5 + 1) (.int .i64 (e'.N : Int))).set (i * 5 + 2) (.int .u8 (e'.mark.toNat : Int))).set (i * 5 + 3) (.string (strOf e'.want))).set (i * 5 + 4) (.bool e'.kept) = hec (l.set i e') := by
  induction l generalizing i with
  | nil => simp at h
  | cons z r ih =>
    cases i with
    | zero => rfl
    | succ i =>
      simp at h
      have := ih h
      rw [show (i + 1) * 5 = i * 5 + 1 + 1 + 1 + 1 + 1 by omega]
      simp only [hec, List.set_cons_succ, show i * 5 + 1 + 1 + 1 + 1 + 1 + 1 = (i * 5 + 1) + 1 + 1 + 1 + 1 + 1 from rfl, show i * 5 + 1 + 1 + 1 + 1 + 1 + 2 = (i * 5 + 2) + 1 + 1 + 1 + 1 + 1 by omega, show i * 5 + 1 + 1 + 1 + 1 + 1 + 3 = (i * 5 + 3) + 1 + 1 + 1 + 1 + 1 by omega, show i * 5 + 1 + 1 + 1 + 1 + 1 + 4 = (i * 5 + 4) + 1 + 1 + 1 + 1 + 1 by omega]
      rw [this]
/-- each list is a row of the call's own -/
def BookOwn (w : World) (B : Nat) (es : List HE) : Prop := ∀ (i : Nat) (e : HE), es[i]? = some e → w.ownsRow B 5 1 e.v e.xs.length (bys e.xs)
/-- no two share a block -/
def BookSep (es : List HE) : Prop := ∀ (i j : Nat) (e e' : HE), i ≠ j → es[i]? = some e → es[j]? = some e' → ∀ g, e.v.ownBlock = some g → e'.v.ownBlock ≠ some g
theorem BookOwn.below {w w' : World} {B : Nat} {es : List HE} (h : BookOwn w B es) (hb : Below w.heap.size w w') : BookOwn w' B es := fun i e hi => own_below (h i e hi) hb
theorem BookOwn.fr {S : Nat → Prop} {w w' : World} {B : Nat} {es : List HE} (h : BookOwn w B es) (hf : Fr S w w') (hS : ∀ (i : Nat) (e : HE), es[i]? = some e → ∀ g, e.v.ownBlock = some g → ¬ S g) : BookOwn w' B es := fun i e hi => own_fr (h i e hi) hf (hS i e hi)
theorem Book.upd {w w' : World} {B i : Nat} {es : List HE} {e e' : HE} (hO : BookOwn w B es) (hS : BookSep es) (hi : es[i]? = some e) (hF : Fr (fun k => some k = e.v.ownBlock) w w')
    (h' : w'.ownsRow B 5 1 e'.v e'.xs.length (bys e'.xs)) (hat : e'.v.ownBlock = e.v.ownBlock ∨ ∀ g, e'.v.ownBlock = some g → w.heap.size ≤ g) : BookOwn w' B (es.set i e') ∧ BookSep (es.set i e') := by
  have hlen : i < es.length := (List.getElem?_eq_some_iff.1 hi).1
  have sep : ∀ j f, j ≠ i → es[j]? = some f → ∀ g, f.v.ownBlock = some g → e'.v.ownBlock ≠ some g := fun j f hj hf g hg he => by
    rcases hat with h | h
    · rw [h] at he
      exact hS j i f e hj hf hi g hg he
    · have := h g he
      have := (own_lt (hO j f hf) hg).2
      omega
  constructor
  · intro j f hj
    rw [List.getElem?_set] at hj
    split at hj
    · rename_i hij
      subst hij
      cases hj
      exact h'
    · rename_i hij
      exact own_fr (hO j f hj) hF (fun g hg e1 => hS j i f e (fun e2 => hij e2.symm) hj hi g hg e1.symm)
  · intro a b f f' hab ha hb g hg hg'
    rw [List.getElem?_set] at ha hb
    split at ha
    · rename_i hia
      subst hia
      cases ha
      split at hb
      · rename_i hib; exact hab hib
      · exact sep b f' (fun e => hab e.symm) hb g hg' hg
    · rename_i hia
      split at hb
      · rename_i hib
        subst hib
        cases hb
        exact sep a f (fun e => hia e.symm) ha g hg hg'
      · exact hS a b f f' hab ha hb g hg hg'
/-- as it was left -/
def HE.ok (e : HE) : Prop := (e.kept = true → e.xs = e.want ∧ e.N = e.xs.length) ∧ (e.kept = false → e.xs = List.replicate (e.N + 70) e.mark)
/-- the list lies in w -/
def InH (w : World) (A : Option Addr) (n : Nat) (es : List HE) : Prop := Rd w 5 A n (hec es) ∧ (0 < n → ∀ ad, A = some ad → ad.block < w.heap.size ∧ ad.spot = none)
theorem InH.len {w : World} {A : Option Addr} {n : Nat} {es : List HE} (h : InH w A n es) : es.length = n := by have := h.1.1; rw [hec_length] at this; omega
theorem InH.of_own {w : World} {B : Nat} {A : Option Addr} {n c : Nat} {es : List HE} (h : w.ownsRow B 66 5 (.slice A n c) n (hec es)) : InH w A n es := by
  refine ⟨Rd.of_own h, fun h0 ad had => ⟨(own_lt h (own_addr h had)).2, ?_⟩⟩
  obtain ⟨g, cap, hv, _, _⟩ := h.form h0
  injection hv with hA
  rw [hA] at had
  cases had
  rfl
theorem InH.below {w w' : World} {A : Option Addr} {n : Nat} {es : List HE} (h : InH w A n es) (hb : Below w.heap.size w w') : InH w' A n es :=
  ⟨h.1.keep0 fun h0 ad had => hb.block _ (h.2 h0 ad had).1, fun h0 ad had => ⟨Nat.lt_of_lt_of_le (h.2 h0 ad had).1 hb.size, (h.2 h0 ad had).2⟩⟩
theorem InH.at {w : World} {A : Option Addr} {n : Nat} {es : List HE} (h : InH w A n es) {i : Nat} (hi : i < n) : ∃ b off e, A = some ⟨b, off, none⟩ ∧ es[i]? = some e ∧ b < w.heap.size ∧ w.cell? ⟨b, off + i * 5, none⟩ = some (.slice e.A e.xs.length e.c) ∧ w.cell? ⟨b, off + i * 5 + 1, none⟩ = some (.int .i64 (e.N : Int)) ∧ w.cell? ⟨b, off + i * 5 + 2, none⟩ = some (.int .u8 (e.mark.toNat : Int)) ∧ w.cell? ⟨b, off + i * 5 + 3, none⟩ = some (.string (strOf e.want)) ∧ w.cell? ⟨b, off + i * 5 + 4, none⟩ = some (.bool e.kept) := by
  obtain ⟨⟨b, off, sp⟩, rfl, hc⟩ := h.1.2 (by omega)
  have hl := h.len
  have hs := (h.2 (by omega) _ rfl)
  have e : sp = none := hs.2
  subst e
  have hy : es[i]? = some es[i] := List.getElem?_eq_getElem (by omega)
  obtain ⟨g0, g1, g2, g3, g4⟩ := hec_get hy
  have hadd : ∀ j, (⟨b, off, none⟩ : Addr).add j = ⟨b, off + j, none⟩ := fun j => by unfold Addr.add; split <;> simp_all
  have a0 := hc _ _ g0
  have a1 := hc _ _ g1
  have a2 := hc _ _ g2
  have a3 := hc _ _ g3
  have a4 := hc _ _ g4
  rw [hadd] at a0 a1 a2 a3 a4
  exact ⟨b, off, _, rfl, hy, hs.1, a0, a1, a2, a3, a4⟩
/-- the first loop of held: what is kept is as it was; the entries are laid anew -/
def H1 (w : World) (es : List HE) (k : Nat) (A : Option Addr) (c : Nat) (wr : World) : Prop := wr.ownsRow w.heap.size 66 5 (.slice A k c) k (hec (es.take k)) ∧ Below w.heap.size w wr
/-- the later loops: the entries' list, and what they hold now -/
structure H2 (w : World) (B n : Nat) (A : Option Addr) (c : Nat) (P : Nat → HE → Prop) (es : List HE) (wr : World) : Prop where
  row : wr.ownsRow w.heap.size 66 5 (.slice A n c) n (hec es)
  len : es.length = n
  own : BookOwn wr B es
  sep : BookSep es
  below : Below B w wr
  ok : ∀ (i : Nat) (e : HE), es[i]? = some e → P i e ∧ e.N ≤ 1073741824 ∧ e.xs.length ≤ e.N + 70
def PW (k i : Nat) (e : HE) : Prop := if i < k ∧ e.kept = true then e.xs = List.replicate e.N e.mark else e.ok
def PG (k i : Nat) (e : HE) : Prop := if i < k ∨ e.kept = false then e.xs = List.replicate (e.N + 70) e.mark else e.xs = List.replicate e.N e.mark
theorem Rd.of_blk' {w : World} {g n size : Nat} {t : TypeId} {cs : Array Value} {xs : List Value} (h : Blk w g t cs) (hx : cs.toList = xs) (hn : xs.length = n * size) : Rd w size (some ⟨g, 0, none⟩) n xs :=
  ⟨hn, fun _ => ⟨_, rfl, fun j u hu => by
    rw [show (⟨g, 0, none⟩ : Addr).add j = ⟨g, j, none⟩ from by unfold Addr.add; split <;> simp_all]
    rw [h.cell, ← Array.getElem?_toList, hx]; exact hu⟩⟩
theorem hec_same {l : List HE} {i : Nat} {e e' : HE} (h : l[i]? = some e) (h1 : e'.A = e.A) (h2 : e'.c = e.c) (h3 : e'.N = e.N) (h4 : e'.mark = e.mark) (h5 : e'.want = e.want) (h6 : e'.kept = e.kept) (h7 : e'.xs.length = e.xs.length) : hec (l.set i e') = hec l := by
  induction l generalizing i with
  | nil => simp at h
  | cons z r ih =>
    cases i with
    | zero =>
      simp at h
      subst h
      simp only [List.set_cons_zero, hec, h1, h2, h3, h4, h5, h6, h7]
    | succ i =>
      simp at h
      simp only [List.set_cons_succ, hec, ih h]
theorem bmk' {w w1 : World} (h : Below w.heap.size w w1) (o : Obj) : Below w.heap.size w (w1.alloc o) := h.alloc h.size _
theorem rep_len {a : Nat} {m : UInt8} {xs : List UInt8} (h : xs = List.replicate a m) : xs.length = a := by rw [h, List.length_replicate]
set_option maxHeartbeats 4000000 in
set_option maxRecDepth 100000 in
theorem held_any (L : Option Addr) (n c B : Nat) (es : List HE) (w : World) (hR : InH w L n es) (hO : BookOwn w B es) (hS : BookSep es) (hok : ∀ (i : Nat) (e : HE), es[i]? = some e → e.ok ∧ e.N ≤ 1073741824) (hB : B ≤ w.heap.size) (hn : n ≤ 1048600) :
    Calls Try.prog 22 #[.slice L n c] w fun e w' => e = .returned (.bool true) ∧ Below B w w' := by
  obtain ⟨i0, hi0, hz0, hz1, hz2⟩ := info_parts infoH
  have Hlen := Lib.hid hR.len
  have HR := Lib.hid hR
  have HO := Lib.hid hO
  have HS := Lib.hid hS
  have Hok := Lib.hid hok
  clear hR hO hS hok
  have H : Hid (H1 w es 0 none 0 w) := ⟨by rw [List.take_zero]; exact World.ownsRow_nil _ _ _ _, Below.refl _ _⟩
  go_enter Try.func22, Try.ntmps22
  go_wp2_with fail
  go_loopw [16, 3] (fun s16 s3 wr => ∃ (k : Nat) (A : Option Addr) (ca : Nat), s16 = .int .i64 (k : Int) ∧ k ≤ n ∧ s3 = .slice A k ca ∧ Hid (H1 w es k A ca wr)) (fun s16 _ _ => n - (intOf s16).toNat)
  case atStart => exact ⟨0, none, 0, rfl, Nat.zero_le _, rfl, H⟩
  case round =>
    clear H
    obtain ⟨k, A, ca, rfl, hk, rfl, H⟩ := hrel
    by_cases hlt : k < n
    · have hlt' : (k : Int) < (n : Int) := by omega
      obtain ⟨b, off, e, rfl, he, hb, h0, h1, h2, h3, h4⟩ := (HR.out.below H.out.2).at hlt
      have hown := own_below (HO.out k e he) H.out.2
      obtain ⟨hokk, heN⟩ := Hok.out k e he
      have Hst : Hid (es.take (k + 1) = es.take k ++ [e]) := by show _ = _; rw [List.take_add_one, he]; rfl
      obtain ⟨eA, ec, eN, em, ew, ek, ex⟩ := e
      simp only [HE.v] at h0 h1 h2 h3 h4 hown heN
      have hw0 : w.heap.size ≤ wr.heap.size := H.out.2.size
      obtain ⟨wx, hwx⟩ : ∃ wx, wr.alloc (.cells #[.slice eA ex.length ec, .int .i64 (eN : Int), .int .u8 (em.toNat : Int), .string (strOf ew), .bool ek] 66) = wx := ⟨_, rfl⟩
      have hcv : (convert 22 9 (.slice eA ex.length ec)).run Try.prog wx = .ok (.string (strOf ex)) wx := by rw [← hwx]; exact conv_rd (Rd.of_own (hown.alloc _))
      have hN := Blk.new wr 66 #[.slice eA ex.length ec, .int .i64 (eN : Int), .int .u8 (em.toNat : Int), .string (strOf ew), .bool ek]
      have Hbx : Hid (Below w.heap.size w wx) := by rw [← hwx]; exact bmk' H.out.2 _
      have Hrow : Hid (wx.ownsRow w.heap.size 66 5 (.slice A k ca) k (hec (es.take k))) := by rw [← hwx]; exact H.out.1.alloc _
      rw [hwx] at hN
      obtain ⟨N0, hN0⟩ : ∃ N0, wr.heap.size = N0 := ⟨_, rfl⟩
      rw [hN0] at hN
      have hsx : w.heap.size ≤ wx.heap.size := Hbx.out.size
      go_upto_region 5 with (fail)
      clear h0 h1 h2 h3 h4 hb
      obtain ⟨h0, h1, h2, h3, h4⟩ : wx.cell? ⟨N0, 0, none⟩ = some (.slice eA ex.length ec) ∧ wx.cell? ⟨N0, 1, none⟩ = some (.int .i64 (eN : Int)) ∧ wx.cell? ⟨N0, 2, none⟩ = some (.int .u8 (em.toNat : Int)) ∧ wx.cell? ⟨N0, 3, none⟩ = some (.string (strOf ew)) ∧ wx.cell? ⟨N0, 4, none⟩ = some (.bool ek) := hN.five
      have hnl := hN.lt
      clear hwx hN0 hN hown
      have hnil : ek = true → ex = ew := fun h => (hokk.1 h).1
      go_cut [29] (fun s29 wy => s29 = .bool false ∧ wx = wy)
      case first =>
        cases ek
        · go_wp2_with fail
          go_meet
          exact ⟨rfl, rfl⟩
        · have := hnil rfl
          subst this
          go_wp2_with fail
          go_meet
          exact ⟨rfl, rfl⟩
      case rest =>
        obtain ⟨rfl, rfl⟩ := hcut
        clear hcv hnil
        go_wp2_with (at_builtin; refine wpList_append_rd (w := wx.alloc (.cells #[.slice eA ex.length ec, .int .i64 (eN : Int), .int .u8 (em.toNat : Int), .string (strOf ew), .bool ek] 66)) rfl (.tmp 30) (.tmp 32) 49 rfl w.heap.size 66 i0 _ 5 64 Try.underlying49 hi0 hz0 hz1 hz2 rfl (by decide) (.slice A k ca) k (hec (es.take k)) rfl (Hrow.out.alloc _) (some ⟨wx.heap.size, 0, none⟩) 1 1 (hec [⟨eA, ec, eN, em, ew, ek, ex⟩]) rfl (Rd.of_blk' (Blk.new _ _ _) rfl rfl) (hec_one _) (by simp only [maxLen]; omega) (by omega) (by simp; omega) ?_; intro A2 c2 w2 hown2 hg2 hat2)
        go_roundw
        case rel =>
          refine ⟨k + 1, A2, c2, by go_num, by omega, rfl, ?_, ?_⟩
          · rw [Hst.out, hec_append]
            exact hown2
          · exact ((Hbx.out.alloc Hbx.out.size _).grown hg2 (by simp; omega) (fun g hg => (own_lt Hrow.out hg).1))
        case measure => simp [intOf]; omega
    · obtain rfl : k = n := by omega
      have H0 : Hid (H2 w B k A ca (PW 0) es wr) := by
        have h1 := H.out.1
        rw [List.take_of_length_le (by rw [Hlen.out]; exact Nat.le_refl _)] at h1
        refine ⟨h1, Hlen.out, HO.out.below H.out.2, HS.out, H.out.2.mono hB, fun i e he => ?_⟩
        obtain ⟨h2, h3⟩ := Hok.out i e he
        refine ⟨by unfold PW; rw [if_neg (by omega)]; exact h2, h3, ?_⟩
        cases hk : e.kept
        · have := rep_len (h2.2 hk); omega
        · have := (h2.1 hk).2; omega
      clear H HR HO HS Hok Hlen
      go_wp2_with fail
      obtain ⟨wo, rfl⟩ : ∃ wo : World, wo = wr := ⟨_, rfl⟩
      go_loopw [37] (fun s37 wr => ∃ (j : Nat) (es : List HE), s37 = .int .i64 (j : Int) ∧ j ≤ k ∧ Hid (H2 w B k A ca (PW j) es wr)) (fun s37 _ => k - (intOf s37).toNat)
      case atStart => exact ⟨0, es, rfl, Nat.zero_le _, H0⟩
      case round =>
        clear H0
        obtain ⟨j, es, rfl, hj, H⟩ := hrel
        by_cases hlt : j < k
        · have hlt' : (j : Int) < (k : Int) := by omega
          obtain ⟨b, off, e, rfl, he, hb, h0, h1, h2, h3, h4⟩ := (InH.of_own H.out.row).at hlt
          obtain ⟨hp, heN, hxN⟩ := H.out.ok j e he
          unfold PW at hp
          rw [if_neg (by omega)] at hp
          have hown := H.out.own j e he
          obtain ⟨eA, ec, eN, em, ew, ek, ex⟩ := e
          simp only [HE.v] at h0 h1 h2 h3 h4 hown heN hxN
          have hbx : Below wr.heap.size wr (wr.alloc (.cells #[.slice eA ex.length ec, .int .i64 (eN : Int), .int .u8 (em.toNat : Int), .string (strOf ew), .bool ek] 66)) := (Below.refl _ _).alloc (Nat.le_refl _) _
          have Hown := Lib.hid (own_below hown hbx)
          have Hlt : Hid (∀ g, (Value.slice eA ex.length ec).ownBlock = some g → g < wr.heap.size) := fun g hg => (own_lt hown hg).2
          clear hown
          cases ek
          · go_wp2_with fail
            go_roundw
            case rel =>
              refine ⟨j + 1, es, by go_num, by omega, own_below H.out.row hbx, H.out.len, H.out.own.below hbx, H.out.sep, H.out.below.trans (hbx.mono (Nat.le_trans hB (Nat.le_trans H.out.below.size (Nat.le_refl _)))), fun i f hf => ?_⟩
              obtain ⟨q1, q2⟩ := H.out.ok i f hf
              refine ⟨?_, q2⟩
              unfold PW at q1 ⊢
              by_cases hij : i = j
              · subst hij
                rw [he] at hf
                cases hf
                rw [if_neg (by simp)]
                exact hp
              · split
                · rename_i h; rw [if_pos ⟨by omega, h.2⟩] at q1; exact q1
                · rename_i h; rw [if_neg (fun h' => h ⟨by omega, h'.2⟩)] at q1; exact q1
            case measure => simp [intOf]; omega
          · obtain ⟨hxw, hNx⟩ := hp.1 rfl
            simp only [] at hxw hNx
            subst hNx
            have HNx := Lib.hid hxw
            clear hxw
            go_wp2_with fail
            refine (written_any eA ex.length ec ex.length B em ew true ex _ Hown.out (Nat.le_refl _) (by omega)).mono ?_
            rintro en w2 ⟨rfl, hO2, hF2⟩
            rw [List.drop_length, List.append_nil] at hO2
            have hlen2 : (List.replicate ex.length em).length = ex.length := List.length_replicate
            have hupd := Book.upd (e' := ⟨eA, ec, ex.length, em, ew, true, List.replicate ex.length em⟩) (H.out.own.below hbx) H.out.sep he hF2 (by simp only [HE.v, hlen2]; exact hO2) (.inl (by simp only [HE.v, hlen2]))
            have hrow : w2.ownsRow w.heap.size 66 5 (.slice (some ⟨b, off, none⟩) k ca) k (hec (es.set j ⟨eA, ec, ex.length, em, ew, true, List.replicate ex.length em⟩)) := by
              rw [hec_same (e' := ⟨eA, ec, ex.length, em, ew, true, List.replicate ex.length em⟩) he rfl rfl rfl rfl rfl rfl hlen2]
              exact own_fr (own_below H.out.row hbx) hF2 (fun g hg e => (own_bt (own_below H.out.row hbx) hg).ne (own_bt Hown.out e.symm) (by decide) rfl)
            have hbel : Below B w w2 := (H.out.below.trans (hbx.mono (Nat.le_trans hB H.out.below.size))).trans (hF2.below (Nat.le_trans hB (Nat.le_trans H.out.below.size hbx.size)) (fun g e => (own_lt Hown.out e.symm).1))
            have HN2 : Hid (H2 w B k (some ⟨b, off, none⟩) ca (PW (j + 1)) (es.set j ⟨eA, ec, ex.length, em, ew, true, List.replicate ex.length em⟩) w2) := by
              refine ⟨hrow, by rw [List.length_set]; exact H.out.len, hupd.1, hupd.2, hbel, fun i f hf => ?_⟩
              rw [List.getElem?_set] at hf
              split at hf
              · rename_i hij
                subst hij
                have hjl : j < es.length := by rw [H.out.len]; exact hlt
                simp only [hjl, if_true] at hf
                cases hf
                refine ⟨?_, by simp only []; omega, by simp only [hlen2]; omega⟩
                unfold PW
                rw [if_pos ⟨by omega, rfl⟩]
              · rename_i hij
                obtain ⟨q1, q2⟩ := H.out.ok i f hf
                refine ⟨?_, q2⟩
                unfold PW at q1 ⊢
                split
                · rename_i h; rw [if_pos ⟨by omega, h.2⟩] at q1; exact q1
                · rename_i h; rw [if_neg (fun h' => h ⟨by omega, h'.2⟩)] at q1; exact q1
            clear hO2 hF2 hupd hrow hbel h0 h1 h2 h3 h4 hb
            go_wp2_with fail
            go_roundw
            case rel => exact ⟨j + 1, _, by go_num, by omega, HN2⟩
            case measure => simp [intOf]; omega
        · obtain rfl : j = k := by omega
          have H3 : Hid (H2 w B j A ca (PG 0) es wr) := ⟨H.out.row, H.out.len, H.out.own, H.out.sep, H.out.below, fun i e he => by
            obtain ⟨q1, q2⟩ := H.out.ok i e he
            have hi : i < j := by have := (List.getElem?_eq_some_iff.1 he).1; rw [H.out.len] at this; exact this
            refine ⟨?_, q2⟩
            unfold PW at q1
            unfold PG
            cases hk : e.kept
            · rw [if_neg (by rw [hk]; simp)] at q1
              rw [if_pos (.inr rfl)]
              exact q1.2 hk
            · rw [if_pos ⟨hi, hk⟩] at q1
              rw [if_neg (by simp)]
              exact q1⟩
          clear H
          go_wp2_with fail
          obtain ⟨wo2, rfl⟩ : ∃ wo2 : World, wo2 = wr := ⟨_, rfl⟩
          go_loopw [48] (fun s48 wr => ∃ (q : Nat) (es : List HE), s48 = .int .i64 (q : Int) ∧ q ≤ j ∧ Hid (H2 w B j A ca (PG q) es wr)) (fun s48 _ => j - (intOf s48).toNat)
          case atStart => exact ⟨0, es, rfl, Nat.zero_le _, H3⟩
          case round =>
            clear H3
            obtain ⟨q, es, rfl, hq, H⟩ := hrel
            by_cases hlt : q < j
            · have hlt' : (q : Int) < (j : Int) := by omega
              obtain ⟨b, off, e, hA, he, hb, h0, h1, h2, h3, h4⟩ := (InH.of_own H.out.row).at hlt
              obtain ⟨gr, capr, hvr, _, _⟩ := H.out.row.form (by omega)
              injection hvr with hAr _ hcr
              subst hA
              injection hAr with hAr
              injection hAr with hbe hoe
              subst hbe
              subst hoe
              subst hcr
              simp only [Nat.zero_add] at h0 h1 h2 h3 h4
              obtain ⟨hp, heN, hxN⟩ := H.out.ok q e he
              unfold PG at hp
              have hown := H.out.own q e he
              obtain ⟨eA, ec, eN, em, ew, ek, ex⟩ := e
              simp only [HE.v] at h0 h1 h2 h3 h4 hown heN hxN hp
              have hbx : Below wr.heap.size wr (wr.alloc (.cells #[.slice eA ex.length ec, .int .i64 (eN : Int), .int .u8 (em.toNat : Int), .string (strOf ew), .bool ek] 66)) := (Below.refl _ _).alloc (Nat.le_refl _) _
              have Hown := Lib.hid (own_below hown hbx)
              clear hown
              have hwB : B ≤ wr.heap.size := Nat.le_trans hB H.out.below.size
              have hql : q < es.length := by rw [H.out.len]; exact hlt
              cases ek
              · rw [if_pos (.inr rfl)] at hp
                have HN2 : Hid (H2 w B j (some ⟨b, 0, none⟩) ca (PG (q + 1)) es (wr.alloc (.cells #[.slice eA ex.length ec, .int .i64 (eN : Int), .int .u8 (em.toNat : Int), .string (strOf ew), .bool false] 66))) := by
                  refine ⟨own_below H.out.row hbx, H.out.len, H.out.own.below hbx, H.out.sep, H.out.below.trans (hbx.mono hwB), fun i f hf => ?_⟩
                  obtain ⟨q1, q2⟩ := H.out.ok i f hf
                  refine ⟨?_, q2⟩
                  unfold PG at q1 ⊢
                  by_cases hij : i = q
                  · subst hij
                    rw [he] at hf
                    cases hf
                    rw [if_pos (.inr rfl)]
                    exact hp
                  · split
                    · rename_i h
                      rw [if_pos (by rcases h with h | h; exact .inl (by omega); exact .inr h)] at q1
                      exact q1
                    · rename_i h
                      rw [if_neg (by rintro (h' | h'); exact h (.inl (by omega)); exact h (.inr h'))] at q1
                      exact q1
                clear hp
                go_wp2_with fail
                go_roundw
                case rel => exact ⟨q + 1, es, by go_num, by omega, HN2⟩
                case measure => simp [intOf]; omega
              · rw [if_neg (by simp)] at hp
                have hxl1 : ex.length ≤ eN := by have := rep_len hp; omega
                have hxl2 : eN ≤ ex.length := by have := rep_len hp; omega
                have Hp := Lib.hid hp
                clear hp
                go_wp2_with fail
                refine (grown_any eA ex.length ec eN B em ew true ex _ Hown.out (by omega) (by simp; omega)).mono ?_
                rintro en w2 ⟨A2, c2, rfl, hO2, hF2, hat2⟩
                have hlen2 : (ex ++ List.replicate 70 em).length = ex.length + 70 := by rw [List.length_append, List.length_replicate]
                have hupd := Book.upd (e' := ⟨A2, c2, eN, em, ew, true, ex ++ List.replicate 70 em⟩) (H.out.own.below hbx) H.out.sep he hF2 (by simp only [HE.v, hlen2]; exact hO2) (by simp only [HE.v, hlen2]; exact hat2)
                have hrow0 := own_fr (own_below H.out.row hbx) hF2 (fun g hg e => (own_bt (own_below H.out.row hbx) hg).ne (own_bt Hown.out e.symm) (by decide) rfl)
                have hbel : Below B w w2 := (H.out.below.trans (hbx.mono hwB)).trans (hF2.below (Nat.le_trans hwB hbx.size) (fun g e => (own_lt Hown.out e.symm).1))
                have Hrow := Lib.hid hrow0
                have HUP := Lib.hid hupd
                have HBL := Lib.hid hbel
                have z0 := hrow0.cellAt (q * 5) (by omega)
                have z1 := hrow0.cellAt (q * 5 + 1) (by omega)
                have z2 := hrow0.cellAt (q * 5 + 2) (by omega)
                have z3 := hrow0.cellAt (q * 5 + 3) (by omega)
                have z4 := hrow0.cellAt (q * 5 + 4) (by omega)
                obtain ⟨e0, e1, e2, e3, e4⟩ := hec_get he
                rw [e0] at z0
                rw [e1] at z1
                rw [e2] at z2
                rw [e3] at z3
                rw [e4] at z4
                have f0 := hrow0.frozenAt (q * 5)
                have f1 := hrow0.frozenAt (q * 5 + 1)
                have f2 := hrow0.frozenAt (q * 5 + 2)
                have f3 := hrow0.frozenAt (q * 5 + 3)
                have f4 := hrow0.frozenAt (q * 5 + 4)
                have hsep : ∀ (i : Nat) (f : HE), (es.set q ⟨A2, c2, eN, em, ew, true, ex ++ List.replicate 70 em⟩)[i]? = some f → ∀ g, f.v.ownBlock = some g → g ≠ b := fun i f hf g hg e => by
                  subst e
                  exact (own_bt (hupd.1 i f hf) hg).ne (own_bt hrow0 rfl) (by decide) rfl
                have Hsep := Lib.hid hsep
                clear e0 e1 e2 e3 e4 hrow0 hupd hbel hsep hO2 hF2 hat2 h0 h1 h2 h3 h4 hb
                go_wp2_with fail
                go_roundw
                case rel =>
                  refine ⟨q + 1, es.set q ⟨A2, c2, eN, em, ew, true, ex ++ List.replicate 70 em⟩, by go_num, by omega, ?_⟩
                  have hst := own_set (own_set (own_set (own_set (own_set Hrow.out (q * 5) (.slice A2 (ex.length + 70) c2)) (q * 5 + 1) (.int .i64 (eN : Int))) (q * 5 + 2) (.int .u8 (em.toNat : Int))) (q * 5 + 3) (.string (strOf ew))) (q * 5 + 4) (.bool true)
                  have hh := hec_set (l := es) (i := q) (e' := ⟨A2, c2, eN, em, ew, true, ex ++ List.replicate 70 em⟩) hql
                  simp only [hlen2] at hh
                  rw [hh] at hst
                  have hf5 : Fr (fun k => k = b) w2 (((((w2.setCell ⟨b, q * 5, none⟩ (.slice A2 (ex.length + 70) c2)).setCell ⟨b, q * 5 + 1, none⟩ (.int .i64 (eN : Int))).setCell ⟨b, q * 5 + 2, none⟩ (.int .u8 (em.toNat : Int))).setCell ⟨b, q * 5 + 3, none⟩ (.string (strOf ew))).setCell ⟨b, q * 5 + 4, none⟩ (.bool true)) :=
                    (((((Fr.refl (fun k => k = b) w2).setCell (p := ⟨b, q * 5, none⟩) (.inl rfl) _).setCell (p := ⟨b, q * 5 + 1, none⟩) (.inl rfl) _).setCell (p := ⟨b, q * 5 + 2, none⟩) (.inl rfl) _).setCell (p := ⟨b, q * 5 + 3, none⟩) (.inl rfl) _).setCell (p := ⟨b, q * 5 + 4, none⟩) (.inl rfl) _
                  refine ⟨hst, by rw [List.length_set]; exact H.out.len, HUP.out.1.fr hf5 (fun i f hf g hg => Hsep.out i f hf g hg), HUP.out.2, HBL.out.trans (hf5.below (Nat.le_trans hB HBL.out.size) (fun k hk => by subst hk; exact Nat.le_trans hB (own_lt Hrow.out rfl).1)), fun i f hf => ?_⟩
                  rw [List.getElem?_set] at hf
                  split at hf
                  · rename_i hij
                    subst hij
                    try simp only [hql, if_true] at hf
                    cases hf
                    refine ⟨?_, by first | omega | (simp only []; omega), by simp only [hlen2]; omega⟩
                    unfold PG
                    rw [if_pos (.inl (by omega))]
                    show ex ++ List.replicate 70 em = List.replicate (eN + 70) em
                    rw [Hp.out, List.replicate_append_replicate]
                  · rename_i hij
                    obtain ⟨q1, q2⟩ := H.out.ok i f hf
                    refine ⟨?_, q2⟩
                    unfold PG at q1 ⊢
                    split
                    · rename_i h
                      rw [if_pos (by rcases h with h | h; exact .inl (by omega); exact .inr h)] at q1
                      exact q1
                    · rename_i h
                      rw [if_neg (by rintro (h' | h'); exact h (.inl (by omega)); exact h (.inr h'))] at q1
                      exact q1
                case measure => simp [intOf]; omega
            · obtain rfl : q = j := by omega
              have Hdone : Hid (∀ (i : Nat) (e : HE), es[i]? = some e → e.xs = List.replicate (e.N + 70) e.mark ∧ e.N ≤ 1073741824) := fun i e he => by
                obtain ⟨q1, q2, _⟩ := H.out.ok i e he
                have hi : i < q := by have := (List.getElem?_eq_some_iff.1 he).1; rw [H.out.len] at this; exact this
                unfold PG at q1
                rw [if_pos (.inl hi)] at q1
                exact ⟨q1, q2⟩
              have HIn := Lib.hid (InH.of_own H.out.row)
              have HOw := Lib.hid H.out.own
              have HBl := Lib.hid H.out.below
              clear H
              go_wp2_with fail
              obtain ⟨wo3, rfl⟩ : ∃ wo3 : World, wo3 = wr := ⟨_, rfl⟩
              go_loopw [63] (fun s63 wr => ∃ (p : Nat), s63 = .int .i64 (p : Int) ∧ p ≤ q ∧ Hid (Below wo3.heap.size wo3 wr)) (fun s63 _ => q - (intOf s63).toNat)
              case atStart => exact ⟨0, rfl, Nat.zero_le _, Below.refl _ _⟩
              case round =>
                obtain ⟨p, rfl, hp, Hb⟩ := hrel
                by_cases hlt : p < q
                · have hlt' : (p : Int) < (q : Int) := by omega
                  obtain ⟨b, off, e, rfl, he, hb, h0, h1, h2, h3, h4⟩ := (HIn.out.below Hb.out).at hlt
                  obtain ⟨hx, heN⟩ := Hdone.out p e he
                  have hown := (HOw.out.below Hb.out) p e he
                  obtain ⟨eA, ec, eN, em, ew, ek, ex⟩ := e
                  simp only [HE.v] at h0 h1 h2 h3 h4 hown heN hx
                  subst hx
                  rw [List.length_replicate] at h0 hown
                  obtain ⟨M, hM⟩ : ∃ M, eN + 70 = M := ⟨_, rfl⟩
                  rw [hM] at h0 hown
                  have hMi : (eN : Int) + 70 = (M : Int) := by omega
                  have hM1 : 1 ≤ M := by omega
                  have hM2 : M ≤ 2147483648 := by omega
                  clear hM
                  have Hown := Lib.hid hown
                  obtain ⟨g, cap, hv, _, _⟩ := hown.form (by omega)
                  injection hv with hA _ hcap
                  subst hA
                  subst hcap
                  clear hown he
                  have hwr : wr.heap.size = wr.heap.size := rfl
                  have hN := Blk.new wr 66 #[.slice (some ⟨g, 0, none⟩) M ec, .int .i64 (eN : Int), .int .u8 (em.toNat : Int), .string (strOf ew), .bool ek]
                  obtain ⟨wx, hwx⟩ : ∃ wx, wr.alloc (.cells #[.slice (some ⟨g, 0, none⟩) M ec, .int .i64 (eN : Int), .int .u8 (em.toNat : Int), .string (strOf ew), .bool ek] 66) = wx := ⟨_, rfl⟩
                  have Hbx : Hid (Below wo3.heap.size wo3 wx) := by rw [← hwx]; exact bmk' Hb.out _
                  have Hox : Hid (wx.ownsRow B 5 1 (.slice (some ⟨g, 0, none⟩) M ec) M (bys (List.replicate M em))) := by rw [← hwx]; exact Hown.out.alloc _
                  rw [hwx] at hN
                  obtain ⟨N0, hN0⟩ : ∃ N0, wr.heap.size = N0 := ⟨_, rfl⟩
                  rw [hN0] at hN
                  go_upto_region 24 with (fail)
                  clear h0 h1 h2 h3 h4 hb hwr hwx hN0 Hown
                  obtain ⟨h0, h1, h2, h3, h4⟩ : wx.cell? ⟨N0, 0, none⟩ = some (.slice (some ⟨g, 0, none⟩) M ec) ∧ wx.cell? ⟨N0, 1, none⟩ = some (.int .i64 (eN : Int)) ∧ wx.cell? ⟨N0, 2, none⟩ = some (.int .u8 (em.toNat : Int)) ∧ wx.cell? ⟨N0, 3, none⟩ = some (.string (strOf ew)) ∧ wx.cell? ⟨N0, 4, none⟩ = some (.bool ek) := hN.five
                  go_wp2_with fail
                  obtain ⟨wo4, rfl⟩ : ∃ wo4 : World, wo4 = wx := ⟨_, rfl⟩
                  have hnl := hN.lt
                  have HNb := Lib.hid hN
                  clear hN
                  go_loopw [77] (fun s77 wr => ∃ (t : Nat), s77 = .int .i64 (t : Int) ∧ t ≤ M ∧ Hid (Below wo4.heap.size wo4 wr)) (fun s77 _ => M - (intOf s77).toNat)
                  case atStart => exact ⟨0, rfl, Nat.zero_le _, Below.refl _ _⟩
                  case round =>
                    clear h0 h1 h2 h3 h4
                    obtain ⟨t, rfl, ht, Hc⟩ := hrel
                    by_cases htl : t < M
                    · have htl' : (t : Int) < (M : Int) := by omega
                      have e0 := (own_below Hox.out Hc.out).cellAt t (by omega)
                      have e1 : (bys (List.replicate M em))[t]? = some (.int .u8 (em.toNat : Int)) := bys_get (by rw [List.getElem?_replicate, if_pos htl])
                      rw [e1] at e0
                      obtain ⟨h0, h1, h2, h3, h4⟩ := (HNb.out.below Hc.out).five
                      clear e1
                      go_wp2_with fail
                      go_roundw
                      case rel => exact ⟨t + 1, by go_num, by omega, Hc⟩
                      case measure => simp [intOf]; omega
                    · obtain rfl : t = M := by omega
                      go_wp2_with fail
                      go_roundw
                      case rel => exact ⟨p + 1, by go_num, by omega, Hbx.out.trans (Hc.out.mono Hbx.out.size)⟩
                      case measure => simp [intOf]; omega
                · obtain rfl : p = q := by omega
                  go_wp2_with fail
                  go_ret
                  exact ⟨rfl, HBl.out.trans (Hb.out.mono (Nat.le_trans hB HBl.out.size))⟩
end Go.Proofs.Ytcfaocbdhfmhbaa
