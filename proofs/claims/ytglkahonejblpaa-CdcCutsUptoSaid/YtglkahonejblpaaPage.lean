/-
  Walks of the law's room, held, keep and kept; a book of pages in memory. Conditions: the lists are rows of the call's own, the bytes lie in memory.
-/
import Derived.Test.YtglkahonejblpaaSizesM
import Derived.Deep.CutBlock
import Derived.Outline
namespace Go.Proofs.Ytglkahonejblpaa
open Go.RowKit

theorem infoP : (Try.prog.info? 73).map (fun i => (i.zero, i.size, i.bytes)) = some (some (.agg #[.slice none 0 0, .slice none 0 0, .int .u8 0]), 3, 56) := by kernel_rfl
/-- append onto a row of the call's own: what the old value held, it holds -/
theorem run_append_keep {P : Program} {w : World} (B : Nat) (t ty e : TypeId) (i : TypeInfo) (z : Value) (size bytes : Nat) (ht : P.underlying t = some (.slice e)) (hi : P.info? e = some i) (hz : i.zero = some z)
    (hsize : i.size = size) (hby : i.bytes = bytes) (hzs : z.cells.size = size) (hsz : 0 < size)
    (v : Value) (n : Nat) (xs : List Value) (hown : w.ownsRow B e size v n xs)
    (ad : Addr) (m c : Nat) (news : List Value) (hr : Rd w size (some ad) m news) (hm : 0 < m) (h1 : ∀ u ∈ news, u.oneCell' = true)
    (h63 : n + m ≤ maxLen) (hbytes : (n + m) * bytes ≤ 140737488355328) (hbase : B ≤ w.heap.size) :
    ∃ a' c' w', (Builtin.append_ #[t, t] ty #[v, .slice (some ad) m c]).run P w = .ok (.slice a' (n + m) c') w' ∧ w'.ownsRow B e size (.slice a' (n + m) c') (n + m) (xs ++ news) ∧ w.grownBy w' v.ownBlock ∧
      ((Value.slice a' (n + m) c').ownBlock = v.ownBlock ∨ (Value.slice a' (n + m) c').ownBlock = some w.heap.size) ∧ w'.ownsRow B e size v n xs := by
  obtain ⟨a', c', w', hrun, h2, h3, h4⟩ := run_append_rd (P := P) B t ty e i z size bytes ht hi hz hsize hby hzs hsz v n xs hown (some ad) m c news hr h1 h63 hbytes hbase
  refine ⟨a', c', w', hrun, h2, h3, h4, ?_⟩
  have hc : ∀ j u, news[j]? = some u → w.cell? (ad.add j) = some u := by
    obtain ⟨ad', e1, h⟩ := hr.2 hm
    cases e1
    exact h
  subst hsize
  rcases hown.2 with ⟨rfl, rfl⟩ | ⟨g, cap, cur, rfl, hbg, hg, hnc, hcm, hcs, htake⟩
  · have : xs = [] := List.eq_nil_of_length_eq_zero (by simpa using hown.1)
    subst this
    exact World.ownsRow_nil _ _ _ _
  · by_cases hroom : n + m ≤ cap
    · have h5 := run_append_room (P := P) w t ty e i ht hi g n cap cur hg ad m c news hr.1 hc h1 hroom (by rw [hr.1, hcs, ← Nat.add_mul]; exact Nat.mul_le_mul_right _ hroom)
      rw [hrun] at h5
      injection h5 with h5 _
      injection h5 with h5 _ h6
      subst h5
      subst h6
      have h7 := own_take h2 (Nat.le_add_right n m)
      rw [List.take_append_of_le_length (by rw [hown.1]; exact Nat.le_refl _), List.take_of_length_le (by rw [hown.1]; exact Nat.le_refl _)] at h7
      exact h7
    · have holds : ∀ j u, xs[j]? = some u → w.cell? ((⟨g, 0, none⟩ : Addr).add j) = some u := hown.cells (g := g) rfl
      simp only [maxLen] at h63
      have h5 := run_append_grow (P := P) w t ty e i z ht hi hz ⟨g, 0, none⟩ n cap xs hown.1 holds ad m c news hr.1 hc (by omega) (by omega) (growslice_fits (by omega) (by rw [hby]; exact hbytes))
      rw [hrun] at h5
      injection h5 with _ h6
      subst h6
      exact own_same hown fun k hk => Below.heap_alloc w.drew _ k (hown.lt k hk).2
theorem wpList_append_keep {P : Program} {w : World} {ops : Array Oper} {rest : List Oper} {o : Oper} {a : Act} {Q : Exit → Act → World → Prop} (hgd : o.guard = none) (s x : Operand) (t : TypeId)
    (ho : o.op = .call { callee := .builtin .append, args := #[s, x], argTypes := #[t, t] })
    (B : Nat) (e : TypeId) (i : TypeInfo) (z : Value) (size bytes : Nat) (ht : P.underlying t = some (.slice e)) (hi : P.info? e = some i) (hz : i.zero = some z)
    (hsize : i.size = size) (hby : i.bytes = bytes) (hzs : z.cells.size = size) (hsz : 0 < size)
    (v : Value) (n : Nat) (xs : List Value) (hs : a.eval s = v) (hown : w.ownsRow B e size v n xs)
    (ad : Addr) (m c : Nat) (news : List Value) (hx : a.eval x = .slice (some ad) m c) (hr : Rd w size (some ad) m news) (hm : 0 < m) (h1 : ∀ u ∈ news, u.oneCell' = true)
    (h63 : n + m ≤ maxLen) (hbytes : (n + m) * bytes ≤ 140737488355328) (hbase : B ≤ w.heap.size)
    (h : ∀ a' c' w', w'.ownsRow B e size (.slice a' (n + m) c') (n + m) (xs ++ news) → w.grownBy w' v.ownBlock → ((Value.slice a' (n + m) c').ownBlock = v.ownBlock ∨ (Value.slice a' (n + m) c').ownBlock = some w.heap.size) → w'.ownsRow B e size v n xs → wpList P ops Q rest (a.put o.dst (.slice a' (n + m) c')) w') : wpList P ops Q (o :: rest) a w := by
  refine wpList_plain hgd fun K hK => ?_
  obtain ⟨a', c', w', hrun, h2, h3, h4, h5⟩ := run_append_keep (P := P) (w := w) B t o.type e i z size bytes ht hi hz hsize hby hzs hsz v n xs hown ad m c news hr hm h1 h63 hbytes hbase
  unfold Oper.wp execOp
  simp only [ho, resolve, invoke, builtin, Sem.run_bind, Sem.run_pure, Result.andThen_ok, List.map_toArray, List.map_cons, List.map_nil, hs, hx, hrun]
  exact hK _ _ (h a' c' w' h2 h3 h4 h5)

/-! ### pages -/
structure Pg where
  A : Option Addr
  c : Nat
  n : Nat
  O : Option Addr
  oc : Nat
  mark : UInt8
def pgv : List Pg → List Value
  | [] => []
  | p :: r => .slice p.A p.n p.c :: .slice p.O (p.n + 1) p.oc :: .int .u8 (p.mark.toNat : Int) :: pgv r
theorem pgv_length (l : List Pg) : (pgv l).length = l.length * 3 := by
  induction l with
  | nil => rfl
  | cons y r ih => simp only [pgv, List.length_cons, ih]; omega
theorem pgv_append (l r : List Pg) : pgv (l ++ r) = pgv l ++ pgv r := by
  induction l with
  | nil => rfl
  | cons y l ih => simp only [pgv, List.cons_append, ih]
theorem pgv_one (l : List Pg) : ∀ u ∈ pgv l, u.oneCell' = true := by
  induction l with
  | nil => intro u h; cases h
  | cons y r ih =>
    intro u h
    simp only [pgv, List.mem_cons] at h
    rcases h with rfl | rfl | rfl | h
    · rfl
    · rfl
    · rfl
    · exact ih u h
theorem pgv_get {l : List Pg} {i : Nat} {p : Pg} (h : l[i]? = some p) : (pgv l)[i * 3]? = some (.slice p.A p.n p.c) ∧ (pgv l)[i * 3 + 1]? = some (.slice p.O (p.n + 1) p.oc) ∧ (pgv l)[i * 3 + 2]? = some (.int .u8 (p.mark.toNat : Int)) := by
  induction l generalizing i with
  | nil => simp at h
  | cons z r ih =>
    cases i with
    | zero =>
      simp at h
      subst h
      exact ⟨rfl, rfl, rfl⟩
    | succ i =>
      simp at h
      have := ih h
      rw [show (i + 1) * 3 = i * 3 + 1 + 1 + 1 by omega]
      simp only [pgv, List.getElem?_cons_succ, show i * 3 + 1 + 1 + 1 + 1 = (i * 3 + 1) + 1 + 1 + 1 from rfl, show i * 3 + 1 + 1 + 1 + 2 = (i * 3 + 2) + 1 + 1 + 1 by omega]
      exact this
/-- the page's lists lie in w -/
structure PgIn (w : World) (p : Pg) : Prop where
  b : In w p.A p.n (List.replicate p.n p.mark)
  on : In w p.O (p.n + 1) (List.replicate p.n p.mark ++ [p.mark + 1])
  bc : p.n ≤ p.c
  oc : p.n + 1 ≤ p.oc
def PgAp (F : Nat → Prop) (p : Pg) : Prop := (0 < p.n → ∀ ad, p.A = some ad → ¬ F ad.block) ∧ ∀ ad, p.O = some ad → ¬ F ad.block
theorem PgIn.fr {S : Nat → Prop} {w w' : World} {p : Pg} (h : PgIn w p) (hF : Fr S w w') (ha : PgAp S p) : PgIn w' p :=
  ⟨h.b.fr hF ha.1, h.on.fr hF fun _ => ha.2, h.bc, h.oc⟩
theorem PgIn.below {w w' : World} {p : Pg} (h : PgIn w p) (hb : Below w.heap.size w w') : PgIn w' p := ⟨h.b.below hb, h.on.below hb, h.bc, h.oc⟩

/-! ### room and held -/
def RoomPost (n : Nat) (l : List UInt8) (w : World) (e : Ending) (w' : World) : Prop :=
  ∃ (O : Option Addr) (oc : Nat), e = .returned (.slice O n oc) ∧ n + 1 ≤ oc ∧ w'.ownsRow w.heap.size 5 1 (.slice O (n + 1) oc) (n + 1) (bys (l ++ [77])) ∧ Below w.heap.size w w'
theorem room_any (A : Option Addr) (n c : Nat) (l : List UInt8) (w : World) (h : In w A n l) (hn : n ≤ 17179869184) : Calls Try.prog 13 #[.slice A n c] w (RoomPost n l w) := by
  obtain ⟨i0, hi0, hz0, hz1, hz2⟩ := info_parts infou8
  have H := Lib.hid h
  clear h
  go_enter Try.func13, Try.ntmps13
  go_upto_region 3 with (first | (at_builtin; refine wpList_fresh rfl (.tmp 4) (.tmp 5) rfl w.heap.size rfl rfl A n c l rfl H.out ?_; intro a1 c1 w1 hF; have H1 := Lib.hid hF; clear hF) | (at_builtin; refine wpList_append_rd (w := w1.alloc (.cells #[.int .u8 77] 5)) rfl (.tmp 7) (.tmp 8) 32 rfl w.heap.size 5 i0 _ 1 1 Try.underlying32 hi0 hz0 hz1 hz2 rfl (by decide) (.slice a1 n c1) n (bys l) rfl (H1.out.1.alloc _) (some ⟨w1.heap.size, 0, none⟩) 1 1 (bys [77]) rfl ⟨rfl, fun _ => ⟨_, rfl, World.news_of_block (heap_alloc_new w1 _)⟩⟩ (bys_one _) (by simp only [maxLen]; omega) (by omega) (by have := H1.out.2.size; simp; omega) ?_; intro O oc w2 hown2 hg2 hat2))
  rw [← bys_append] at hown2
  have hoc := own_le hown2
  have hnoc : n ≤ oc ∧ (n : Int) ≤ (oc : Int) := by omega
  have hb : Below w.heap.size w w2 := (bmk_ H1.out.2 _).grown hg2 (by have := H1.out.2.size; simp; omega) (fun g hg => (own_lt H1.out.1 hg).1)
  go_wp2_with fail
  go_ret
  exact ⟨O, oc, rfl, hoc, hown2, hb⟩
set_option maxHeartbeats 2000000 in
theorem held_any (O A : Option Addr) (n oc c : Nat) (l : List UInt8) (w : World) (hO : In w O (n + 1) (l ++ [77])) (hA : In w A n l) (hoc : n + 1 ≤ oc) :
    Calls Try.prog 16 #[.slice O n oc, .slice A n c] w fun e w' => e = .returned (.bool true) ∧ Below w.heap.size w w' := by
  have hln := hA.len
  have hcv2 : ∀ a, (convert 32 9 (.slice A n c)).run Try.prog (w.drewN a) = .ok (.string (strOf l)) (w.drewN a) := fun a => conv_rd (hA.1.keep (fun _ _ => rfl))
  have hcv1 : ∀ a, (convert 32 9 (.slice O n oc)).run Try.prog (w.drewN a) = .ok (.string (strOf l)) (w.drewN a) := fun a => conv_rd (by
    have := hO.1.take (k := n) (by omega)
    rw [Nat.mul_one, bys_take, List.take_append_of_le_length (by omega), List.take_of_length_le (by omega)] at this
    exact this.keep (fun _ _ => rfl))
  obtain ⟨b, off, rfl, hc⟩ := hO.1.cells_at (by omega)
  have h1 := hc n 77 (by rw [← hln]; exact snoc_at l 77)
  have hn47 := hO.2.2
  have hnoc : n ≤ oc ∧ (n : Int) + 1 ≤ (oc : Int) ∧ n < n + 1 ∧ (n : Int) < (n : Int) + 1 ∧ n ≤ n + 1 ∧ (n : Int) ≤ (n : Int) + 1 := by omega
  have hd : decide (n < n + 1) = true := decide_eq_true (by omega)
  clear hc hO hA hln
  go_enter Try.func16, Try.ntmps16
  go_wp2_with fail
  go_quiet (fail)
  go_wp2_with fail
  go_ret
  exact ⟨rfl, below_drewN (Below.refl _ _) _⟩
/-! ### keep -/
def mkOf (k : Nat) : UInt8 := UInt8.ofNat (2 * k)
theorem mkOf_int (k : Nat) : ((k : Int) * 2) % 256 = ((mkOf k).toNat : Int) := by
  unfold mkOf
  rw [UInt8.toNat_ofNat']
  omega
theorem bys_set {m : UInt8} {xs : List UInt8} {i : Nat} (h : i < xs.length) : (bys (List.replicate i m ++ xs.drop i)).set i (.int .u8 (m.toNat : Int)) = bys (List.replicate (i + 1) m ++ xs.drop (i + 1)) := by
  have h1 : (bys (List.replicate i m)).length = i := by rw [bys_length, List.length_replicate]
  rw [bys_append, bys_append, List.set_append_right _ _ (by omega), h1, Nat.sub_self, List.drop_eq_getElem_cons h, List.replicate_succ', bys_append, List.append_assoc]
  rfl
def KeepPost (B D : Nat) (L : Option Addr) (c : Nat) (pgs : List Pg) (A : Option Addr) (n bc : Nat) (w : World) (e : Ending) (w' : World) : Prop :=
  ∃ (O : Option Addr) (oc : Nat) (L' : Option Addr) (c' : Nat), e = .returned (.slice L' (pgs.length + 1) c') ∧ w'.ownsRow B 73 3 (.slice L' (pgs.length + 1) c') (pgs.length + 1) (pgv (pgs ++ [⟨A, bc, n, O, oc, mkOf pgs.length⟩])) ∧
    PgIn w' ⟨A, bc, n, O, oc, mkOf pgs.length⟩ ∧ Fr (fun k => some k = (Value.slice L pgs.length c).ownBlock ∨ some k = (Value.slice A n bc).ownBlock) w w' ∧
    (∀ g, (Value.slice L' (pgs.length + 1) c').ownBlock = some g → some g = (Value.slice L pgs.length c).ownBlock ∨ w.heap.size ≤ g) ∧
    (∀ g, (Value.slice O (n + 1) oc).ownBlock = some g → some g = (Value.slice A n bc).ownBlock ∨ w.heap.size ≤ g) ∧
    (∀ g, (Value.slice A n bc).ownBlock = some g ∨ (Value.slice O (n + 1) oc).ownBlock = some g → (Value.slice L' (pgs.length + 1) c').ownBlock ≠ some g)
theorem own_apart {w w' : World} {B D : Nat} {e f : TypeId} {size n size' n' : Nat} {v v' : Value} {xs ys : List Value} (h : w.ownsRow B e size v n xs) (h' : w.ownsRow D f size' v' n' ys) (hne : e ≠ f) (hg : w.grownBy w' v'.ownBlock) : w'.ownsRow B e size v n xs :=
  own_same h fun k hk => hg.block k (h.lt k hk).2 fun e1 => (own_bt h hk).ne (own_bt h' e1.symm) hne rfl
structure KeepRel (B D : Nat) (L : Option Addr) (c : Nat) (pgs : List Pg) (A : Option Addr) (n bc : Nat) (l : List UInt8) (w : World) (i : Nat) (wr : World) : Prop where
  row : wr.ownsRow B 73 3 (.slice L pgs.length c) pgs.length (pgv pgs)
  own : wr.ownsRow D 5 1 (.slice A n bc) n (bys (List.replicate i (mkOf pgs.length) ++ l.drop i))
  fr : Fr (fun k => some k = (Value.slice A n bc).ownBlock) w wr
theorem keep_any (B D : Nat) (L : Option Addr) (c : Nat) (pgs : List Pg) (A : Option Addr) (n bc : Nat) (l : List UInt8) (w : World) (hrow : w.ownsRow B 73 3 (.slice L pgs.length c) pgs.length (pgv pgs))
    (hA : w.ownsRow D 5 1 (.slice A n bc) n (bys l)) (hB : B ≤ w.heap.size) (hD : D ≤ w.heap.size) (hlen : pgs.length ≤ 68719476736) (hn : n ≤ 68719476736) :
    Calls Try.prog 12 #[.slice L pgs.length c, .slice A n bc] w (KeepPost B D L c pgs A n bc w) := by
  obtain ⟨i0, hi0, hz0, hz1, hz2⟩ := info_parts infou8
  obtain ⟨j0, hj0, jz0, jz1, jz2⟩ := info_parts infoP
  have Hxn : Hid (l.length = n) := by have := hA.1; rw [bys_length] at this; show _ = _; omega
  have hm := mkOf_int pgs.length
  have H0 : Hid (KeepRel B D L c pgs A n bc l w 0 w) := ⟨hrow, by simpa using hA, Fr.refl _ _⟩
  unfold KeepPost
  obtain ⟨mk, hmk⟩ : ∃ mk, mkOf pgs.length = mk := ⟨_, rfl⟩
  have Hmk := Lib.hid hmk
  rw [hmk] at hm
  simp only [hmk]
  obtain ⟨q, hq⟩ : ∃ q, pgs.length = q := ⟨_, rfl⟩
  have Hq := Lib.hid hq
  rw [hq] at hm hlen
  rw [hq]
  have hm2 : (2 : Int) * (q : Int) % 256 = (mk.toNat : Int) := by rw [Int.mul_comm]; exact hm
  clear hmk hrow hA hq hm
  have Hm2 := Lib.hid hm2
  clear hm2
  go_enter Try.func12, Try.ntmps12
  go_wp2_with fail
  rw [Hm2.out]
  go_loopw [6] (fun s6 wr => ∃ i : Nat, s6 = .int .i64 (i : Int) ∧ i ≤ n ∧ Hid (KeepRel B D L c pgs A n bc l w i wr)) (fun s6 _ => n - (intOf s6).toNat)
  case atStart => exact ⟨0, rfl, Nat.zero_le _, H0⟩
  case round =>
    clear H0 Hm2
    obtain ⟨i, rfl, hi, H⟩ := hrel
    by_cases hlt : i < n
    · have hlt' : (i : Int) < (n : Int) := by omega
      obtain ⟨g, cap, hv, _, _⟩ := H.out.own.form (by omega)
      injection hv with hA _ hcap
      subst hA
      subst hcap
      have e0 := H.out.own.cellAt i (by omega)
      have e1 : ∃ u, (bys (List.replicate i (mkOf pgs.length) ++ l.drop i))[i]? = some u := ⟨_, List.getElem?_eq_getElem (by rw [bys_length, List.length_append, List.length_replicate, List.length_drop, Hxn.out]; omega)⟩
      obtain ⟨u, hu⟩ := e1
      rw [hu] at e0
      have e2 := H.out.own.frozenAt i
      clear hu
      go_wp2_with fail
      go_roundw
      case rel =>
        refine ⟨i + 1, by go_num, by omega, ?_, ?_, ?_⟩
        · exact own_far H.out.row (p := ⟨g, i, none⟩) (fun e => by
            have := (own_bt H.out.own (g := g) rfl).ne (own_bt H.out.row e.symm) (by decide)
            exact this rfl) _
        · have := own_set H.out.own i (.int .u8 (mk.toNat : Int))
          rw [← Hmk.out, bys_set (by rw [Hxn.out]; exact hlt), Hmk.out] at this
          rw [Hmk.out]
          exact this
        · exact H.out.fr.setCell (p := ⟨g, i, none⟩) (.inl rfl) _
      case measure => simp [intOf]; omega
    · obtain rfl : i = n := by omega
      have hlt' : decide ((i : Int) < (i : Int)) = false := decide_eq_false (by omega)
      have HO1 : Hid (wr.ownsRow D 5 1 (.slice A i bc) i (bys (List.replicate i mk))) := by
        have := H.out.own
        rw [List.drop_of_length_le (by rw [Hxn.out]; exact Nat.le_refl _), List.append_nil, Hmk.out] at this
        exact this
      have Hsz := Lib.hid H.out.fr.size
      have HR1 : Hid (wr.ownsRow B 73 3 (.slice L q c) q (pgv pgs)) := by rw [← Hq.out]; exact H.out.row
      obtain ⟨m1, hm1⟩ : ∃ m1, ((mk.toNat : Int) + 1) % 256 = m1 := ⟨_, rfl⟩
      have Hm1 : Hid (([Value.int .u8 m1] : List Value) = bys [mk + 1]) := by
        show [Value.int .u8 m1] = [Value.int .u8 ((mk + 1).toNat : Int)]
        rw [← hm1, UInt8.toNat_add]
        congr 2
      go_wp2_with (first | (at_builtin; refine wpList_append_keep (w := wr.alloc (.cells #[.int .u8 m1] 5)) rfl (.tmp 23) (.tmp 26) 32 rfl D 5 i0 _ 1 1 Try.underlying32 hi0 hz0 hz1 hz2 rfl (by decide) (.slice A i bc) i (bys (List.replicate i mk)) rfl (HO1.out.alloc _) ⟨wr.heap.size, 0, none⟩ 1 1 [.int .u8 m1] rfl ⟨rfl, fun _ => ⟨_, rfl, World.news_of_block (heap_alloc_new wr _)⟩⟩ (by decide) (by rw [Hm1.out]; exact bys_one _) (by simp only [maxLen]; omega) (by omega) (by have := Hsz.out; simp; omega) ?_; intro a1 c1 w1 hown1 hg1 hat1 hk1; have Hown1 := Lib.hid hown1; have Hg1 := Lib.hid hg1; have Hat1 := Lib.hid hat1; have Hk1 := Lib.hid hk1; have HR2 := Lib.hid (own_apart (HR1.out.alloc (.cells #[.int .u8 m1] 5)) (HO1.out.alloc (.cells #[.int .u8 m1] 5)) (by decide) hg1); clear hown1 hg1 hat1 hk1) | (at_builtin; refine wpList_append_rd (w := w1.alloc (.cells #[.slice A i bc, .slice a1 (i + 1) c1, .int .u8 (mk.toNat : Int)] 73)) rfl (.tmp 21) (.tmp 30) 35 rfl B 73 j0 _ 3 56 Try.underlying35 hj0 jz0 jz1 jz2 rfl (by decide) (.slice L q c) q (pgv pgs) rfl (HR2.out.alloc _) (some ⟨w1.heap.size, 0, none⟩) 1 1 (pgv [⟨A, bc, i, a1, c1, mk⟩]) rfl ⟨rfl, fun _ => ⟨_, rfl, World.news_of_block (heap_alloc_new w1 _)⟩⟩ (pgv_one _) (by simp only [maxLen]; omega) (by omega) (by have := Hsz.out; have := Hg1.out.size; simp at this ⊢; omega) ?_; intro a2 c2 w2 hown2 hg2 hat2; have Hown2 := Lib.hid hown2; have Hg2 := Lib.hid hg2; have Hat2 := Lib.hid hat2; clear hown2 hg2 hat2))
      have HO3 := Lib.hid (own_apart (Hown1.out.alloc (.cells #[.slice A i bc, .slice a1 (i + 1) c1, .int .u8 (mk.toNat : Int)] 73)) (HR2.out.alloc _) (by decide) Hg2.out)
      have Hk3 := Lib.hid (own_apart (Hk1.out.alloc (.cells #[.slice A i bc, .slice a1 (i + 1) c1, .int .u8 (mk.toNat : Int)] 73)) (HR2.out.alloc _) (by decide) Hg2.out)
      have Hfr : Hid (Fr (fun k => some k = (Value.slice L q c).ownBlock ∨ some k = (Value.slice A i bc).ownBlock) w w2) :=
        ((((H.out.fr.mono (fun k _ e => .inr e)).alloc _).grown Hg1.out (fun g hg => .inl (.inr hg.symm))).alloc _).grown Hg2.out (fun g hg => .inl (.inl hg.symm))
      have Hp1 : Hid (∀ g, (Value.slice a2 (q + 1) c2).ownBlock = some g → some g = (Value.slice L q c).ownBlock ∨ w.heap.size ≤ g) := fun g hg => by
        rcases Hat2.out with h | h
        · exact .inl (by rw [← h]; exact hg.symm)
        · right
          have h3 := hg.symm.trans h
          injection h3 with h3
          have := Hsz.out
          have := Hg1.out.size
          simp at h3 this
          omega
      have Hp2 : Hid (∀ g, (Value.slice a1 (i + 1) c1).ownBlock = some g → some g = (Value.slice A i bc).ownBlock ∨ w.heap.size ≤ g) := fun g hg => by
        rcases Hat1.out with h | h
        · exact .inl (by rw [← h]; exact hg.symm)
        · right
          have h3 := hg.symm.trans h
          injection h3 with h3
          have := Hsz.out
          simp at h3
          omega
      have Hpg : Hid (PgIn w2 ⟨A, bc, i, a1, c1, mk⟩) := by
        refine ⟨In.of_own (n := i) Hk3.out (by omega), In.of_own (n := i + 1) (l := List.replicate i mk ++ [mk + 1]) (by rw [bys_append, ← Hm1.out]; exact HO3.out) (by omega), own_le Hk3.out, own_le HO3.out⟩
      have Hap : Hid (∀ g, (Value.slice A i bc).ownBlock = some g ∨ (Value.slice a1 (i + 1) c1).ownBlock = some g → (Value.slice a2 (q + 1) c2).ownBlock ≠ some g) := fun g hg hg' => by
        rcases hg with hg | hg
        · exact (own_bt Hk3.out hg).ne (own_bt Hown2.out hg') (by decide) rfl
        · exact (own_bt HO3.out hg).ne (own_bt Hown2.out hg') (by decide) rfl
      clear Hown1 Hg1 Hat1 Hk1 Hg2 Hat2 HR2 HO1 HR1 H hm1
      go_ret
      refine ⟨a1, c1, a2, c2, rfl, ?_, Hpg.out, Hfr.out, Hp1.out, Hp2.out, Hap.out⟩
      rw [pgv_append]
      exact Hown2.out
/-! ### kept -/
theorem pg_at {w : World} {L : Option Addr} {pgs : List Pg} (h : Rd w 3 L pgs.length (pgv pgs)) {i : Nat} {p : Pg} (hp : pgs[i]? = some p) : ∃ b off, L = some ⟨b, off, none⟩ ∧ w.cell? ⟨b, off + i * 3, none⟩ = some (.slice p.A p.n p.c) ∧ w.cell? ⟨b, off + i * 3 + 1, none⟩ = some (.slice p.O (p.n + 1) p.oc) ∧ w.cell? ⟨b, off + i * 3 + 2, none⟩ = some (.int .u8 (p.mark.toNat : Int)) := by
  have hi := (List.getElem?_eq_some_iff.1 hp).1
  obtain ⟨⟨b, off, sp⟩, rfl, hc⟩ := h.2 (by omega)
  obtain ⟨g0, g1, g2⟩ := pgv_get hp
  have a0 := hc _ _ g0
  have hsp : sp = none := by
    obtain ⟨z0, _, _⟩ := pgv_get (List.getElem?_eq_getElem (show 0 < pgs.length by omega))
    have c0 := hc _ _ z0
    simpa [Addr.add] using World.cell?_spot c0
  subst hsp
  have hadd : ∀ j, (⟨b, off, none⟩ : Addr).add j = ⟨b, off + j, none⟩ := fun j => by unfold Addr.add; split <;> simp_all
  have a1 := hc _ _ g1
  have a2 := hc _ _ g2
  rw [hadd] at a0 a1 a2
  exact ⟨b, off, rfl, a0, a1, a2⟩
set_option maxHeartbeats 4000000 in
set_option maxRecDepth 100000 in
theorem kept_any (L : Option Addr) (c : Nat) (pgs : List Pg) (w : World) (hR : Rd w 3 L pgs.length (pgv pgs)) (hlt : ∀ ad, L = some ad → ad.block < w.heap.size) (hP : ∀ p, p ∈ pgs → PgIn w p) (hc : pgs.length ≤ c) (hn : pgs.length ≤ 68719476736) :
    Calls Try.prog 17 #[.slice L pgs.length c] w fun e w' => e = .returned (.bool true) ∧ Below w.heap.size w w' := by
  have HR := Lib.hid hR
  have HP := Lib.hid hP
  have Hlt := Lib.hid hlt
  have Hmem : Hid (∀ i p, pgs[i]? = some p → p ∈ pgs) := fun i p h => List.mem_of_getElem? h
  obtain ⟨q, hq⟩ : ∃ q, pgs.length = q := ⟨_, rfl⟩
  have Hq := Lib.hid hq
  rw [hq] at hn hc HR ⊢
  clear hR hP hlt hq
  go_enter Try.func17, Try.ntmps17
  go_wp2_with fail
  go_loopw [3] (fun s3 wr => ∃ i : Nat, s3 = .int .i64 (i : Int) ∧ i ≤ q ∧ Hid (Below w.heap.size w wr)) (fun s3 _ => q - (intOf s3).toNat)
  case atStart => exact ⟨0, rfl, Nat.zero_le _, Below.refl _ _⟩
  case round =>
    obtain ⟨i, rfl, hi, Hb⟩ := hrel
    by_cases hlt : i < q
    · have hlt' : (i : Int) < (q : Int) := by omega
      obtain ⟨p, hp⟩ : ∃ p, pgs[i]? = some p := ⟨_, List.getElem?_eq_getElem (by rw [Hq.out]; exact hlt)⟩
      have hpi := (HP.out p (Hmem.out i p hp))
      have hrd : Rd wr 3 L pgs.length (pgv pgs) := by rw [Hq.out]; exact HR.out.keep fun ad had => Hb.out.block _ (Hlt.out ad had)
      obtain ⟨b, off, rfl, a0, a1, a2⟩ := pg_at hrd hp
      obtain ⟨pA, pc, pn, pO, poc, pm⟩ := p
      have HPI := Lib.hid (hpi.below Hb.out)
      have hpc : pn ≤ pc ∧ pn + 1 ≤ poc ∧ pn ≤ 140737488351232 := ⟨hpi.bc, hpi.oc, hpi.b.2.2⟩
      have hbs : b < wr.heap.size := by have := Hlt.out _ rfl; have := Hb.out.size; simp at *; omega
      simp only [] at a0 a1 a2
      clear hp hpi hrd
      go_upto_block 2 with (fail)
      have hN := Blk.new wr 73 #[.slice pA pn pc, .slice pO (pn + 1) poc, .int .u8 (pm.toNat : Int)]
      obtain ⟨wx, hwx⟩ : ∃ wx, wr.alloc (.cells #[.slice pA pn pc, .slice pO (pn + 1) poc, .int .u8 (pm.toNat : Int)] 73) = wx := ⟨_, rfl⟩
      have Hwx : Hid (Below wr.heap.size wr wx) := by rw [← hwx]; exact bmk_ (Below.refl _ _) _
      rw [hwx] at hN
      obtain ⟨N, hNe⟩ : ∃ N, wr.heap.size = N := ⟨_, rfl⟩
      rw [hNe] at hN
      have HN := Lib.hid hN
      have HPX := Lib.hid (HPI.out.below Hwx.out)
      rw [hwx, hNe]
      clear hwx hNe hN HPI a0 a1 a2
      go_cut [3] (fun s3 wy => s3 = .int .i64 (i : Int) ∧ Hid (Below wx.heap.size wx wy))
      case first => as_aux_lemma =>
        go_wp2_with fail
        go_loopw [5] (fun s5 wr => ∃ j : Nat, s5 = .int .i64 (j : Int) ∧ j ≤ pn ∧ Hid (Below wx.heap.size wx wr)) (fun s5 _ => pn - (intOf s5).toNat)
        case atStart => exact ⟨0, rfl, Nat.zero_le _, Below.refl _ _⟩
        case round => as_aux_lemma =>
          obtain ⟨j, rfl, hj, Hbj⟩ := hrel
          have hN2 := HN.out.below Hbj.out
          have hPg := HPX.out.below Hbj.out
          have hNl := hN2.lt
          obtain ⟨x0, x1, x2⟩ := hN2.three
          clear hN2
          by_cases hjl : j < pn
          · have hjl' : (j : Int) < (pn : Int) := by omega
            obtain ⟨b1, o1, rfl, hb1⟩ := hPg.b.1.cells_at (show 0 < pn by omega)
            obtain ⟨b2, o2, rfl, hb2⟩ := hPg.on.1.cells_at (show 0 < pn + 1 by omega)
            have y1 := hb1 j pm (by rw [List.getElem?_replicate, if_pos hjl])
            have y2 := hb2 j pm (by rw [List.getElem?_append_left (by simpa using hjl), List.getElem?_replicate, if_pos hjl])
            have hjj : j < pn + 1 ∧ (j : Int) < (pn : Int) + 1 := by omega
            clear hb1 hb2 hPg
            go_wp2_with fail
            go_quiet (fail)
            go_wp2_with fail
            go_roundw
            case rel => exact ⟨j + 1, by go_num, by omega, below_drewN Hbj.out _⟩
            case measure => simp [intOf]; omega
          · have hjl' : decide ((j : Int) < (pn : Int)) = false := decide_eq_false (by omega)
            clear hPg
            go_wp2_with fail
            go_meet
            exact ⟨rfl, Hbj⟩
      case rest => as_aux_lemma =>
        obtain ⟨rfl, Hb2⟩ := hcut
        obtain ⟨w2, rfl⟩ : ∃ w2 : World, w2 = wc := ⟨_, rfl⟩
        have hN2 := HN.out.below Hb2.out
        have hPg := HPX.out.below Hb2.out
        have hNl := hN2.lt
        obtain ⟨x0, x1, x2⟩ := hN2.three
        obtain ⟨b2, o2, rfl, hb2⟩ := hPg.on.1.cells_at (show 0 < pn + 1 by omega)
        have y2 := hb2 pn (pm + 1) (by rw [List.getElem?_append_right (by simp)]; simp)
        have hpm : ((pm + 1).toNat : Int) = ((pm.toNat : Int) + 1) % 256 := by rw [UInt8.toNat_add, show (1 : UInt8).toNat = 1 from rfl]; omega
        rw [hpm] at y2
        have hpp : pn < pn + 1 ∧ (pn : Int) < (pn : Int) + 1 := by omega
        have Hbw : Hid (Below w.heap.size w w2) := bup (bup Hb.out Hwx.out) Hb2.out
        clear hb2 hPg hN2 hpm
        go_wp2_with fail
        go_quiet (fail)
        go_wp2_with fail
        go_roundw
        case rel => exact ⟨i + 1, by go_num, by omega, below_drewN Hbw.out _⟩
        case measure => simp [intOf]; omega
    · have hlt' : decide ((i : Int) < (q : Int)) = false := decide_eq_false (by omega)
      go_wp2_with fail
      go_ret
      exact ⟨rfl, Hb.out⟩
end Go.Proofs.Ytglkahonejblpaa
