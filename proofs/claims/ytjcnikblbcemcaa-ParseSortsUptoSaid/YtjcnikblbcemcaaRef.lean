/-
  Walks of the document's heap: push lays a pair at the row's end; pop searches the least pair and makes a new row without it. Conditions: the struct's block and row as RHeap says, fewer than 2^42 pairs.
-/
import Derived.Test.YtjcnikblbcemcaaPush
import Derived.Test.YtjcnikblbcemcaaMore
namespace Go.Proofs.Ytjcnikblbcemcaa
open Go.RowKit
theorem own_cap {w : World} {B : Nat} {e : TypeId} {size n g cap : Nat} {xs : List Value} (h : w.ownsRow B e size (.slice (some ⟨g, 0, none⟩) n cap) n xs) : n ≤ cap := by
  rcases h.2 with ⟨hv, _⟩ | ⟨g', cap', cur, hv, _, _, hn, _⟩
  · cases hv
  · injection hv with _ _ h3; omega
theorem own_fresh {v : Value} {H S : Nat} (h : v.ownBlock = (Value.slice none 0 0).ownBlock ∨ v.ownBlock = some S) (hH : H < S) : some H ≠ v.ownBlock := by
  rcases h with h | h <;> rw [h]
  · simp [Value.ownBlock]
  · intro e; cases e; omega
theorem own_slice {w : World} {B : Nat} {e : TypeId} {size n : Nat} {v : Value} {xs : List Value} (h : w.ownsRow B e size v n xs) : ∃ a c, v = .slice a n c := by
  rcases h.2 with ⟨rfl, rfl⟩ | ⟨g, cap, cur, rfl, _⟩
  · exact ⟨_, _, rfl⟩
  · exact ⟨_, _, rfl⟩
theorem info51 : (Try.prog.info? 51).map (fun i => (i.zero, i.size, i.bytes)) = some (some (.agg #[.int .i64 0, .int .i64 0]), 2, 16) := by kernel_rfl
/-- the document's heap behind a pointer: its struct at block b, its row at r, the pairs l -/
def RHeap (w : World) (B b : Nat) (r : Option Nat) (l : List P2) : Prop :=
  ∃ v, Blk w b 33 #[v] ∧ w.ownsRow B 51 2 v l.length (flat l) ∧ v.ownBlock = r ∧ B ≤ b
theorem RHeap.keep {w w' : World} {B b : Nat} {r : Option Nat} {l : List P2} (h : RHeap w B b r l) (hb : w'.heap[b]? = w.heap[b]?) (hr : ∀ g, r = some g → w'.heap[g]? = w.heap[g]?) : RHeap w' B b r l := by
  obtain ⟨v, h1, h2, h3, h4⟩ := h
  exact ⟨v, h1.same hb, own_same h2 (fun g hg => hr g (h3 ▸ hg)), h3, h4⟩
theorem RHeap.lt {w : World} {B b : Nat} {r : Option Nat} {l : List P2} (h : RHeap w B b r l) : b < w.heap.size ∧ ∀ g, r = some g → B ≤ g ∧ g < w.heap.size := by
  obtain ⟨v, h1, h2, h3, h4⟩ := h
  exact ⟨h1.lt, fun g hg => own_lt h2 (h3.trans hg)⟩
theorem RHeap.len {w : World} {B b : Nat} {r : Option Nat} {l : List P2} (h : RHeap w B b r l) : ∃ a c, w.cell? ⟨b, 0, none⟩ = some (.slice a l.length c) := by
  obtain ⟨v, h1, h2, _⟩ := h
  obtain ⟨a, c, rfl⟩ := own_slice h2
  exact ⟨a, c, h1.one⟩

def RPushP (B b : Nat) (r : Option Nat) (l : List P2) (p : P2) (w : World) (e : Ending) (w' : World) : Prop :=
  e = .returned (.tuple #[]) ∧ ∃ r', RHeap w' B b r' (l ++ [p]) ∧ Fr (fun k => k = b ∨ some k = r) w w' ∧ (∀ g, r' = some g → r = some g ∨ w.heap.size ≤ g)
set_option maxHeartbeats 400000 in
theorem RPush_any (B b : Nat) (r : Option Nat) (l : List P2) (x y : Int) (w : World) (h : RHeap w B b r l) (hn : l.length < 4398046511104) :
    Calls Try.prog 9 #[.pointer (some ⟨b, 0, none⟩), .int .i64 x, .int .i64 y] w (RPushP B b r l (x, y) w) := by
  obtain ⟨v, hb, hown, rfl, hBb⟩ := h
  have c0 := hb.one
  have blt := hb.lt
  have hne := own_ne hown hb (by decide)
  obtain ⟨i0, hi0, hz0, hz1, hz2⟩ := info_parts info51
  go_enter Try.func9, Try.ntmps9
  go_wp2_with (at_builtin; refine wpList_append_lies (w := w.alloc (.cells #[.int .i64 x, .int .i64 y] 51)) rfl (.tmp 10) (.tmp 14) 31 rfl B 51 i0 _ 2 16 Try.underlying31 hi0 hz0 hz1 hz2 rfl (by decide) v l.length (flat l) (by simp [Act.eval]) (hown.alloc _) ⟨w.heap.size, 0, none⟩ 1 1 (flat [(x, y)]) (by simp [Act.eval]) rfl (World.news_of_block (heap_alloc_new w _)) (flat_one _) (by decide) (by simp only [maxLen]; omega) (by omega) (by simp; omega) (w.heap.size + 1) (by simp) ?_; intro g cap w1 hown1 hg1 hat1 hlt1; have hb1 : Blk w1 b 33 #[v] := (hb.alloc _).same (hg1.block b (by simp; omega) hne); have d0 := hb1.one; have f0 := hb1.frozen 0)
  go_end0
  refine ⟨rfl, some g, ⟨_, hb1.set_ 0 _, ?_, rfl, hBb⟩, ?_, ?_⟩
  · rw [flat_append, List.length_append]
    exact own_far hown1 (own_ne hown1 hb1 (by decide)) _
  · refine Fr.setCell ?_ (.inl (.inl rfl)) _
    exact ((Fr.refl _ w).alloc _).grown hg1 fun k hk => .inl (.inr hk.symm)
  · intro k hk
    cases hk
    exact hat1.imp id (by omega)

theorem rpop_none (b c : Nat) (a : Option Addr) (w : World) (h0 : w.cell? ⟨b, 0, none⟩ = some (.slice a 0 c)) :
    Calls Try.prog 10 #[.pointer (some ⟨b, 0, none⟩)] w fun e w' => e = .returned (.tuple #[.int .i64 0, .int .i64 0, .bool false]) ∧ w = w' := by
  go_enter Try.func10, Try.ntmps10
  go_wp2_with fail
  go_ret3
  exact ⟨rfl, rfl⟩

theorem scan_no {l : List P2} {a i : Nat} {p q : P2} (h : ∀ j, j < i → Le (at_ l a) (at_ l j)) (hp : at_ l i = p) (hq : at_ l a = q) (ht : ltB p q = false) : ∀ j, j < i + 1 → Le (at_ l a) (at_ l j) := by
  intro j hj
  by_cases e : j = i
  · subst e; subst hp; subst hq; exact decide_eq_false_iff_not.1 ht
  · exact h j (by omega)
theorem scan_yes {l : List P2} {a i : Nat} {p q : P2} (h : ∀ j, j < i → Le (at_ l a) (at_ l j)) (hp : at_ l i = p) (hq : at_ l a = q) (ht : ltB p q = true) : ∀ j, j < i + 1 → Le (at_ l i) (at_ l j) := by
  intro j hj
  have hlt : Lt (at_ l i) (at_ l a) := by subst hp; subst hq; exact decide_eq_true_iff.1 ht
  by_cases e : j = i
  · subst e; exact Le.refl _
  · exact hlt.le.trans (h j (by omega))
def RPopP (B b g cap n : Nat) (l : List P2) (w : World) (e : Ending) (w' : World) : Prop :=
  ∃ (k : Nat) (r' : Option Nat), k < n ∧ e = .returned (.tuple #[.int .i64 (at_ l k).1, .int .i64 (at_ l k).2, .bool true]) ∧ (∀ j, j < n → Le (at_ l k) (at_ l j)) ∧
    RHeap w' B b r' (l.take k ++ l.drop (k + 1)) ∧ Fr (fun k => k = b) w w' ∧ (∀ g, r' = some g → w.heap.size ≤ g)
set_option maxHeartbeats 2000000 in
set_option maxRecDepth 100000 in
theorem rpop_some (B b g cap n : Nat) (l : List P2) (w : World) (hl : l.length = n) (h0 : 0 < n) (hb : Blk w b 33 #[.slice (some ⟨g, 0, none⟩) n cap]) (hown : w.ownsRow B 51 2 (.slice (some ⟨g, 0, none⟩) n cap) n (flat l)) (hBb : B ≤ b) (hn : n < 4398046511104) :
    Calls Try.prog 10 #[.pointer (some ⟨b, 0, none⟩)] w (RPopP B b g cap n l w) := by
  have c0 := hb.one
  have blt := hb.lt
  have hgb : b ≠ g := fun e => own_ne hown hb (by decide) (by rw [e]; rfl)
  have glt : g < w.heap.size := (own_lt hown rfl).2
  have k0 : ((n : Int) == 0) = false := beq_eq_false_iff_ne.2 (by omega)
  obtain ⟨i0, hi0, hz0, hz1, hz2⟩ := info_parts info51
  go_enter Try.func10, Try.ntmps10
  go_wp2_with fail
  go_loopw [5, 6] (fun s5 s6 wr => ∃ a i nq : Nat, s5 = .int .i64 a ∧ s6 = .int .i64 i ∧ a < n ∧ i ≤ n ∧ wr = w.drewN nq ∧ Hid (∀ j, j < i → Le (at_ l a) (at_ l j))) (fun _ s6 _ => n - (intOf s6).toNat)
  case atStart => exact ⟨0, 0, 0, rfl, rfl, h0, Nat.zero_le _, rfl, fun j h => absurd h (by omega)⟩
  case round =>
    obtain ⟨a, i, nq, rfl, rfl, ha, hi, rfl, hmin⟩ := hrel
    by_cases hin : i < n
    · have hin' : (i : Int) < (n : Int) := by omega
      have han' : (a : Int) < (n : Int) := by omega
      have e0 := hown.cellAt (i * 2) (by omega)
      rw [flat_fst _ i _ (at_lt (by omega))] at e0
      have e1 := hown.cellAt (i * 2 + 1) (by omega)
      rw [flat_snd _ i _ (at_lt (by omega))] at e1
      have e2 := hown.cellAt (a * 2) (by omega)
      rw [flat_fst _ a _ (at_lt (by omega))] at e2
      have e3 := hown.cellAt (a * 2 + 1) (by omega)
      rw [flat_snd _ a _ (at_lt (by omega))] at e3
      obtain ⟨p, hp⟩ : ∃ p, at_ l i = p := ⟨_, rfl⟩
      obtain ⟨q, hq⟩ : ∃ q, at_ l a = q := ⟨_, rfl⟩
      rw [hp] at e0 e1
      rw [hq] at e2 e3
      have Hp := Lib.hid hp
      have Hq := Lib.hid hq
      clear hp hq
      go_upto_region 7 with (fail)
      go_cut [78] (fun s78 wx => ∃ (t : Bool) (nq : Nat), s78 = .bool t ∧ Hid (ltB p q = t) ∧ wx = w.drewN nq)
      case first =>
        by_cases h1 : p.1 < q.1
        · have h1' : decide (p.1 < q.1) = true := decide_eq_true h1
          go_quiet (fail)
          go_wp2_with fail
          go_meet
          exact ⟨true, _, rfl, decide_eq_true (.inl h1), World.drewN_drewN _ _ _⟩
        · have h1' : decide (p.1 < q.1) = false := decide_eq_false h1
          by_cases h2 : p.1 = q.1
          · have h2' : (p.1 == q.1) = true := beq_iff_eq.2 h2
            go_quiet (fail)
            go_wp2_with fail
            go_meet
            exact ⟨_, _, rfl, (decide_eq_decide.2 ⟨fun h => h.elim (fun h => absurd h (by omega)) (fun h => h.2), fun h => .inr ⟨h2, h⟩⟩ : ltB p q = _), rfl⟩
          · have h2' : (p.1 == q.1) = false := beq_eq_false_iff_ne.2 h2
            go_quiet (fail)
            go_wp2_with fail
            go_meet
            exact ⟨false, _, rfl, decide_eq_false (fun h => h.elim (fun h => by omega) (fun h => h2 h.1)), rfl⟩
      case rest =>
        obtain ⟨t, nq2, rfl, ht, rfl⟩ := hcut
        clear e0 e1 e2 e3
        cases t
        · go_wp2_with fail
          go_roundw
          case rel => 
            exact ⟨a, i + 1, nq2, rfl, by go_num, ha, by omega, rfl, scan_no hmin Hp.out Hq.out ht.out⟩
          case measure => simp [intOf]; omega
        · go_wp2_with fail
          go_roundw
          case rel => 
            exact ⟨i, i + 1, nq2, rfl, by go_num, hin, by omega, rfl, scan_yes hmin Hp.out Hq.out ht.out⟩
          case measure => simp [intOf]; omega
    · have : n = i := by omega
      subst this
      have han' : (a : Int) < (n : Int) := by omega
      have hcap := own_cap hown
      have e2 := hown.cellAt (a * 2) (by omega)
      rw [flat_fst _ a _ (at_lt (by omega))] at e2
      have e3 := hown.cellAt (a * 2 + 1) (by omega)
      rw [flat_snd _ a _ (at_lt (by omega))] at e3
      obtain ⟨wq, hwq⟩ : ∃ wq, w.drewN nq = wq := ⟨_, rfl⟩
      rw [hwq]
      have hbq : Blk wq b 33 #[.slice (some ⟨g, 0, none⟩) n cap] := hwq ▸ hb.drewN nq
      have hownq : wq.ownsRow B 51 2 (.slice (some ⟨g, 0, none⟩) n cap) n (flat l) := hwq ▸ hown
      have e2 : wq.cell? ⟨g, a * 2, none⟩ = some (.int .i64 (at_ l a).1) := hwq ▸ e2
      have e3 : wq.cell? ⟨g, a * 2 + 1, none⟩ = some (.int .i64 (at_ l a).2) := hwq ▸ e3
      have Hfr : Hid (Fr (fun k => k = b) w wq) := hwq ▸ (Fr.refl _ w).drewN nq
      have c0 := hbq.one
      have blt := hbq.lt
      have glt : g < wq.heap.size := (own_lt hownq rfl).2
      clear hwq hb hown
      go_upto_region 11 with (fail)
      have hpA : Blk (wq.alloc (.cells #[.int .i64 (at_ l a).1, .int .i64 (at_ l a).2] 51)) wq.heap.size 51 #[.int .i64 (at_ l a).1, .int .i64 (at_ l a).2] := Blk.new _ _ _
      have hbA := hbq.alloc (.cells #[.int .i64 (at_ l a).1, .int .i64 (at_ l a).2] 51)
      have hownA := hownq.alloc (.cells #[.int .i64 (at_ l a).1, .int .i64 (at_ l a).2] 51)
      have HfrA : Hid (Fr (fun k => k = b) w (wq.alloc (.cells #[.int .i64 (at_ l a).1, .int .i64 (at_ l a).2] 51))) := Hfr.out.alloc _
      obtain ⟨wa, hwa⟩ : ∃ wa, wq.alloc (.cells #[.int .i64 (at_ l a).1, .int .i64 (at_ l a).2] 51) = wa := ⟨_, rfl⟩
      rw [hwa] at hpA hbA hownA HfrA ⊢
      obtain ⟨H, hH⟩ : ∃ H, wq.heap.size = H := ⟨_, rfl⟩
      rw [hH] at hpA ⊢
      clear hwa hH hbq hownq e2 e3 c0 blt glt
      have c0 := hbA.one
      have blt := hbA.lt
      have glt : g < wa.heap.size := (own_lt hownA rfl).2
      have hr1 := (Rd.of_own hownA).take (k := a) (by omega)
      rw [flat_take] at hr1
      go_wp2_with (first | (at_builtin; refine wpList_append_rd rfl (.tmp 87) (.tmp 93) 31 rfl B 51 i0 _ 2 16 Try.underlying31 hi0 hz0 hz1 hz2 rfl (by decide) (.slice none 0 0) 0 [] rfl (World.ownsRow_nil _ _ _ _) _ _ _ (flat (l.take a)) rfl hr1 (flat_one _) (by simp only [maxLen]; omega) (by omega) (by omega) ?_; intro a1 c1 w1 hown1 hg1 hat1; simp only [Nat.zero_add, List.nil_append] at hown1 hat1; have hb1 : Blk w1 b 33 _ := hbA.same (hg1.block b blt (by simp [Value.ownBlock])); have hownA1 := own_same hownA (fun k hk => hg1.block k (hownA.lt k hk).2 (by simp [Value.ownBlock])); have d0 := hb1.one; have hcut := (Rd.of_own hownA1).cut (k := a + 1) (cap := cap) (by omega) hcap; rw [flat_drop] at hcut; have blt1 := hb1.lt) | (at_builtin; refine wpList_append_rd rfl (.tmp 95) (.tmp 102) 31 rfl B 51 i0 _ 2 16 Try.underlying31 hi0 hz0 hz1 hz2 rfl (by decide) (.slice a1 a c1) a (flat (l.take a)) rfl hown1 _ _ _ (flat (l.drop (a + 1))) rfl (by first | exact hcut | (simpa [Addr.add] using hcut) | (trace_state; fail)) (flat_one _) (by simp only [maxLen]; omega) (by omega) (by omega) ?_; intro a2 c2 w2 hown2 hg2 hat2; have hb2 : Blk w2 b 33 _ := hb1.same (hg2.block b blt1 (own_ne hown1 hb1 (by decide))); have r0 := hb2.one; have rf := hb2.frozen 0; have hp2 : Blk w2 H 51 _ := (hpA.same (hg1.block H hpA.lt (by simp [Value.ownBlock]))).same (hg2.block H (Nat.lt_of_lt_of_le hpA.lt hg1.size) (own_fresh hat1 hpA.lt)); obtain ⟨t0, t1⟩ := hp2.two))
      all_goals
        have hHb : b ≠ H := fun e => by
          have h1 := hb2; have h2 := hp2; unfold Blk at h1 h2; rw [e, h2] at h1; injection h1 with h1; injection h1 with _ h1; exact absurd h1 (by decide)
        go_quiet (fail)
        go_wp2_with fail
        go_ret3
        have hlen : (l.take a ++ l.drop (a + 1)).length = a + (n - (a + 1)) := by simp [hl]; omega
        refine ⟨a, _, ha, rfl, hmin, ⟨_, (hb2.set_ 0 _).drewN _, ?_, rfl, hBb⟩, ?_, ?_⟩
        · rw [flat_append, hlen]
          exact own_far hown2 (own_ne hown2 hb2 (by decide)) _
        · refine Fr.drewN (Fr.setCell ((HfrA.out.grown hg1 (by simp [Value.ownBlock])).grown hg2 ?_) (.inl rfl) _) _
          intro k hk
          refine .inr ?_
          have := HfrA.out.size
          rcases hat1 with h | h <;> rw [h] at hk
          · simp [Value.ownBlock] at hk
          · cases hk; exact this
        · intro k hk
          have h1 := HfrA.out.size
          have h2 := hg1.size
          rcases hat2 with h | h <;> rw [h] at hk
          · rcases hat1 with h | h <;> rw [h] at hk
            · simp [Value.ownBlock] at hk
            · cases hk; exact h1
          · cases hk; omega

def Taken (l : List P2) (x y : Int) (t : Bool) (l' : List P2) : Prop := (l = [] ∧ l' = [] ∧ x = 0 ∧ y = 0 ∧ t = false) ∨ (t = true ∧ Least (x, y) l ∧ ((x, y) :: l').Perm l)
theorem Taken.agree {l l' r r' : List P2} {x y u v : Int} {t s : Bool} (h : Taken l x y t l') (k : Taken r u v s r') (hp : l.Perm r) : x = u ∧ y = v ∧ t = s ∧ l'.Perm r' := by
  rcases h with ⟨rfl, rfl, rfl, rfl, rfl⟩ | ⟨rfl, hl, hq⟩
  · have : r = [] := hp.symm.eq_nil
    subst this
    rcases k with ⟨_, rfl, rfl, rfl, rfl⟩ | ⟨_, hk, _⟩
    · exact ⟨rfl, rfl, rfl, List.Perm.refl _⟩
    · exact absurd hk.1 (by simp)
  · rcases k with ⟨rfl, _⟩ | ⟨rfl, hk, hr⟩
    · have : l = [] := hp.eq_nil
      subst this
      exact absurd hl.1 (by simp)
    · have e := hl.eq_of_perm hk hp
      cases e
      exact ⟨rfl, rfl, rfl, List.Perm.cons_inv (hq.trans (hp.trans hr.symm))⟩
theorem Taken.length {l l' : List P2} {x y : Int} {t : Bool} (h : Taken l x y t l') : l'.length = l.length - 1 := by
  rcases h with ⟨rfl, rfl, _⟩ | ⟨_, _, hq⟩
  · rfl
  · have := hq.length_eq; simp at this; omega

def RPopPost (B b : Nat) (r : Option Nat) (l : List P2) (w : World) (e : Ending) (w' : World) : Prop :=
  ∃ (x y : Int) (t : Bool) (r' : Option Nat) (l' : List P2), e = .returned (.tuple #[.int .i64 x, .int .i64 y, .bool t]) ∧ RHeap w' B b r' l' ∧ Fr (fun k => k = b ∨ some k = r) w w' ∧ (∀ g, r' = some g → r = some g ∨ w.heap.size ≤ g) ∧ Taken l x y t l'
theorem take_drop_perm {l : List P2} {k : Nat} (hk : k < l.length) : (at_ l k :: (l.take k ++ l.drop (k + 1))).Perm l := by
  have h := List.take_append_drop k l
  have e : l.drop k = at_ l k :: l.drop (k + 1) := by
    rw [List.drop_eq_getElem_cons hk]
    have := at_lt hk
    rw [List.getElem?_eq_getElem hk] at this
    rw [Option.some.inj this]
  have h2 : l = l.take k ++ at_ l k :: l.drop (k + 1) := by rw [← e]; exact h.symm
  have h3 : (at_ l k :: (l.take k ++ l.drop (k + 1))).Perm (l.take k ++ at_ l k :: l.drop (k + 1)) := List.perm_middle.symm
  rw [← h2] at h3
  exact h3
theorem RPop_any (B b : Nat) (r : Option Nat) (l : List P2) (w : World) (h : RHeap w B b r l) (hn : l.length < 4398046511104) :
    Calls Try.prog 10 #[.pointer (some ⟨b, 0, none⟩)] w (RPopPost B b r l w) := by
  obtain ⟨v, hb, hown, hr, hBb⟩ := h
  by_cases h0 : l.length = 0
  · obtain ⟨a, c, rfl⟩ := own_slice hown
    have hl : l = [] := List.eq_nil_of_length_eq_zero h0
    rw [h0] at hb
    refine (rpop_none b c a w hb.one).mono ?_
    rintro e w' ⟨rfl, rfl⟩
    exact ⟨0, 0, false, r, l, rfl, ⟨_, hb, by rw [h0] at hown; rw [h0]; exact hown, by rw [← hr, h0], hBb⟩, Fr.refl _ _, fun g hg => .inl hg, .inl ⟨hl, hl, rfl, rfl, rfl⟩⟩
  · obtain ⟨g, cap, rfl, _, _⟩ := hown.form (by omega)
    refine (rpop_some B b g cap l.length l w rfl (by omega) hb hown hBb hn).mono ?_
    rintro e w' ⟨k, r', hk, rfl, hmin, hh, hfr, hfresh⟩
    refine ⟨_, _, true, r', _, rfl, hh, hfr.mono fun i _ hi => .inl hi, fun g hg => .inr (hfresh g hg), .inr ⟨rfl, ⟨at_mem hk, fun x hx => ?_⟩, take_drop_perm hk⟩⟩
    obtain ⟨j, hj, rfl⟩ := List.mem_iff_getElem.1 hx
    have := hmin j hj
    rwa [at_of (List.getElem?_eq_getElem hj)] at this
end Go.Proofs.Ytjcnikblbcemcaa
