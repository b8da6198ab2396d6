/-
  Walks: pop of the binary heap: false of an empty one; else the first pair, which is the least, and what is left is a heap of the other pairs. Conditions: the heap's block and row as HP says, the heap's order, fewer than 2^42 pairs.
-/
import Derived.Test.YtjcnikblbcemcaaPush
namespace Go.Proofs.Ytjcnikblbcemcaa
open Go.RowKit

theorem own_take {w : World} {B : Nat} {e : TypeId} {size n m g cap : Nat} {xs : List Value} (h : w.ownsRow B e size (.slice (some ⟨g, 0, none⟩) n cap) n xs) (hm : m ≤ n) :
    w.ownsRow B e size (.slice (some ⟨g, 0, none⟩) m cap) m (xs.take (m * size)) := by
  have hms : m * size ≤ n * size := Nat.mul_le_mul_right _ hm
  refine ⟨by rw [List.length_take, h.1]; omega, ?_⟩
  rcases h.2 with ⟨hv, _⟩ | ⟨g', cap', cur, hv, hb, hg, hn, hc, hs, hx⟩
  · cases hv
  · injection hv with h1 h2 h3
    injection h1 with h1
    injection h1 with h1
    subst h1; subst h3
    refine .inr ⟨g, cap, cur, rfl, hb, hg, by omega, hc, hs, ?_⟩
    rw [← hx, List.take_take, Nat.min_eq_left hms]

theorem Blk.new_at {w : World} {N : Nat} {t : TypeId} {cs : Array Value} (hN : N = w.heap.size) : Blk (w.alloc (.cells cs t)) N t cs := hN ▸ Blk.new w t cs
theorem own_cap {w : World} {B : Nat} {e : TypeId} {size n g cap : Nat} {xs : List Value} (h : w.ownsRow B e size (.slice (some ⟨g, 0, none⟩) n cap) n xs) : n ≤ cap := by
  rcases h.2 with ⟨hv, _⟩ | ⟨g', cap', cur, hv, _, _, hn, _⟩
  · cases hv
  · injection hv with _ _ h3; omega
theorem below_drewN {B : Nat} {a w : World} (h : Below B a w) (n : Nat) : Below B a (w.drewN n) := ⟨h.os, h.tape, h.output, h.size, h.block⟩
theorem pop_none (b c : Nat) (a : Option Addr) (w : World) (h0 : w.cell? ⟨b, 0, none⟩ = some (.slice a 0 c)) (hlt : b < w.heap.size) :
    Calls Try.prog 13 #[.pointer (some ⟨b, 0, none⟩)] w fun e w' => e = .returned (.tuple #[.agg #[.int .i64 0, .int .i64 0], .bool false]) ∧ Below w.heap.size w w' := by
  go_enter Try.func13, Try.ntmps13
  go_wp2_with fail
  exact bodyPost_ret (v := .tuple #[.agg #[.int .i64 0, .int .i64 0], .bool false]) (by simp [results, Try.results13, go_sem]) rfl ⟨rfl, ((Below.refl _ _).alloc (Nat.le_refl _) _).alloc (by simp) _⟩

/-- between the statements of pop: the result's block r, the least pair's block r + 1 -/
def PopAt (b g n N cap B r : Nat) (m : P2) (l' : List P2) (w wx : World) : Prop :=
  l'.length = N ∧ Blk wx b 29 #[.slice (some ⟨g, 0, none⟩) n cap, F11] ∧ wx.ownsRow B 47 2 (.slice (some ⟨g, 0, none⟩) n cap) n (flat (l'.take n)) ∧
    Blk wx r 47 #[.int .i64 0, .int .i64 0] ∧ Blk wx (r + 1) 47 #[.int .i64 m.1, .int .i64 m.2] ∧ r = w.heap.size ∧ Fr (fun k => k = b ∨ k = g) w wx

def PopPost (b g n cap B : Nat) (l : List P2) (w : World) (e : Ending) (w' : World) : Prop :=
  e = .returned (.tuple #[.agg #[.int .i64 (at_ l 0).1, .int .i64 (at_ l 0).2], .bool true]) ∧ ∃ l', HP w' B b g n cap l' ∧ Fr (fun k => k = b ∨ k = g) w w' ∧ (at_ l 0 :: l').Perm l ∧ Ord l'
theorem le_lt_trans {a b c : P2} (h : Le a b) (k : Lt b c) : Lt a c := by unfold Le Lt at *; omega
/-- c is the least child of place i -/
def Child (l : List P2) (i c : Nat) : Prop := 0 < c ∧ c < l.length ∧ (c - 1) / 2 = i ∧ ∀ j, 0 < j → j < l.length → (j - 1) / 2 = i → Le (at_ l c) (at_ l j)
theorem child_left {l : List P2} {i k n : Nat} (hk : (k : Int) = 2 * (i : Int) + 1) (hn : k < l.length) (h : (decide (k + 1 < n) && ltB (at_ l (k + 1)) (at_ l k)) = false) (hln : l.length = n := by assumption) : Child l i k := by
  refine ⟨by omega, hn, by omega, fun j h0 hj hji => ?_⟩
  by_cases e : j = k
  · subst e; exact Le.refl _
  · have : j = k + 1 := by omega
    subst this
    rw [decide_eq_true (by omega), Bool.true_and, ltB, decide_eq_false_iff_not] at h
    exact h
theorem child_right {l : List P2} {i k k2 : Nat} (hk : (k : Int) = 2 * (i : Int) + 1) (hk2 : k2 = k + 1) (h : (decide (k2 < l.length) && ltB (at_ l k2) (at_ l k)) = true) : Child l i k2 := by
  subst hk2
  rw [Bool.and_eq_true, decide_eq_true_iff, ltB, decide_eq_true_iff] at h
  refine ⟨by omega, h.1, by omega, fun j h0 hj hji => ?_⟩
  by_cases e : j = k
  · subst e; exact h.2.le
  · have : j = k + 1 := by omega
    subst this; exact Le.refl _
set_option maxHeartbeats 2000000 in
set_option maxRecDepth 100000 in
theorem pop_some (b g n cap B : Nat) (l : List P2) (w : World) (hp : HP w B b g (n + 1) cap l) (ho : Ord l) (hn : n < 4398046511104) (hB : B ≤ w.heap.size) :
    Calls Try.prog 13 #[.pointer (some ⟨b, 0, none⟩)] w (PopPost b g n cap B l w) := by
  obtain ⟨hl, hb, hown⟩ := hp
  obtain ⟨c0, c1⟩ := hb.two
  have blt := hb.lt
  have glt := (own_lt hown rfl).2
  have e0 := hown.cellAt 0 (by omega)
  rw [show (flat l)[0]? = some (.int .i64 (at_ l 0).1) from flat_fst _ 0 _ (at_lt (by omega))] at e0
  have e1 := hown.cellAt 1 (by omega)
  rw [show (flat l)[1]? = some (.int .i64 (at_ l 0).2) from flat_snd _ 0 _ (at_lt (by omega))] at e1
  have e2 := hown.cellAt (n * 2) (by omega)
  rw [flat_fst _ n _ (at_lt (by omega))] at e2
  have e3 := hown.cellAt (n * 2 + 1) (by omega)
  rw [flat_snd _ n _ (at_lt (by omega))] at e3
  have f0 := hown.frozenAt 0
  have f1 := hown.frozenAt 1
  have hgb0 : b ≠ g := fun e => own_ne hown hb (by decide) (by rw [e]; rfl)
  have k0 : ((n : Int) + 1 == 0) = false := beq_eq_false_iff_ne.2 (by omega)
  go_enter Try.func13, Try.ntmps13
  go_upto_region 6 with (fail)
  go_cut [] (fun wx => PopAt b g (n + 1) (n + 1) cap B w.heap.size (at_ l 0) (l.set 0 (at_ l n)) w wx)
  case first =>
    go_region
    go_wp2_with fail
    go_meet
    refine ⟨by simp [hl], ?_, ?_, ?_, ?_, rfl, ?_⟩
    · exact ((((hb.far hgb0 _).far hgb0 _).alloc _).alloc _).drew
    · rw [List.take_of_length_le (by simp [hl])]
      have h2 := own_set (own_set hown 0 (.int .i64 (at_ l n).1)) 1 (.int .i64 (at_ l n).2)
      have h3 := flat_set l 0 (at_ l n)
      simp only [Nat.zero_mul, Nat.zero_add] at h3
      rw [h3] at h2
      exact (h2.alloc _).alloc _
    · exact ((Blk.new_at (by simp [World.setCell])).alloc _).drew
    · exact (Blk.new_at (by simp [World.setCell])).drew
    · exact (((Fr.setCell (Fr.setCell (Fr.refl _ w) (.inl (.inr rfl)) _) (.inl (.inr rfl)) _).alloc _).alloc _).drew
  case rest =>
    obtain ⟨hl1, hb1, hown1, hr1, hm1, _, hfr1⟩ := hcut
    obtain ⟨d0, d1⟩ := hb1.two
    have df0 := hb1.frozen 0
    have hcap := own_cap hown1
    clear c0 c1 e0 e1 e2 e3 f0 f1 
    go_wp2_with fail
    go_loopw [7] (fun s wr => ∃ (i : Nat) (l' : List P2), s = .int .i64 i ∧ i ≤ n ∧ PopAt b g n n cap B w.heap.size (at_ l 0) l' w wr ∧ Hid ((at_ l 0 :: l').Perm l) ∧ Hid (Down l' i)) (fun s _ => n - (intOf s).toNat)
    case atStart => 
      refine ⟨0, popped l, rfl, Nat.zero_le _, ⟨?_, ?_, ?_, ?_, ?_, rfl, ?_⟩, popped_perm (by omega), popped_down ho⟩
      · rw [popped_length]; omega
      · exact hb1.set_ 0 _
      · have h2 := own_take hown1 (Nat.le_succ n)
        rw [flat_take, List.take_take, Nat.min_eq_left (Nat.le_succ n)] at h2
        have h3 : (popped l).take n = (l.set 0 (at_ l n)).take n := by
          unfold popped
          rw [hl, Nat.add_sub_cancel, List.take_take, Nat.min_self]
        rw [h3]
        exact own_far h2 (fun e => hgb0 (by simpa [Value.ownBlock] using e)) _
      · exact hr1.far (by show _ ≠ b; omega) _
      · exact hm1.far (by show _ ≠ b; omega) _
      · exact Fr.setCell hfr1 (.inl (.inl rfl)) _
    case round =>
      obtain ⟨i, l', rfl, hi, ⟨hl2, hb2, hown2, hr2, hm2, _, hfr2⟩, hpm, hdn⟩ := hrel
      obtain ⟨d0, d1⟩ := hb2.two
      have dlt := hb2.lt
      have rlt := hr2.lt
      have mlt := hm2.lt
      have hrg : w.heap.size ≠ g := by omega
      have hmg : w.heap.size + 1 ≠ g := by omega
      have hbr : b ≠ w.heap.size := by omega
      have hrg' : some w.heap.size ≠ (Value.slice (some ⟨g, 0, none⟩) n cap).ownBlock := by simp [Value.ownBlock]; omega
      have Hb2 := Lib.hid hb2
      have Hr2 := Lib.hid hr2
      have Hm2 := Lib.hid hm2
      have glt0 := glt
      have glt : g < wr.heap.size := (own_lt hown2 rfl).2
      rw [List.take_of_length_le (by omega)] at hown2
      have hgb : b ≠ g := fun e => own_ne hown2 hb2 (by decide) (by rw [e]; rfl)
      by_cases h1 : 2 * i + 1 < n
      · have h1' : 2 * (i : Int) + 1 < (n : Int) := by omega
        have hB2 : B ≤ wr.heap.size := Nat.le_trans hB hfr2.size
        go_upto_region 11 with (fail)
        obtain ⟨k, hk⟩ : ∃ k : Nat, (k : Int) = 2 * (i : Int) + 1 := ⟨2 * i + 1, by omega⟩
        rw [← hk]
        obtain ⟨k2, hk2⟩ : ∃ k2 : Nat, k2 = k + 1 := ⟨_, rfl⟩
        have x1 : IntKind.i64.wrap ((k : Int) + 1) = (k2 : Int) := by rw [IntWalk.i64_in _ (by omega)]; omega
        have kn : (k : Int) < (n : Int) := by omega
        have kn' : k < n := by omega
        have e0 := hown2.cellAt (k * 2) (by omega)
        rw [flat_fst _ k _ (at_lt (by omega))] at e0
        have e1 := hown2.cellAt (k * 2 + 1) (by omega)
        rw [flat_snd _ k _ (at_lt (by omega))] at e1
        have Hk := Lib.hid hk
        have Hk2 := Lib.hid hk2
        clear hk hk2 h1'
        go_cut [82] (fun s82 wx => ∃ t : Bool, s82 = .bool t ∧ Hid ((decide (k2 < n) && ltB (at_ l' k2) (at_ l' k)) = t) ∧ Below wr.heap.size wr wx)
        case first =>
          by_cases h2 : k2 < n
          · have h2' : (k2 : Int) < (n : Int) := by omega
            have e2 := hown2.cellAt (k2 * 2) (by omega)
            rw [flat_fst _ k2 _ (at_lt (by omega))] at e2
            have e3 := hown2.cellAt (k2 * 2 + 1) (by omega)
            rw [flat_snd _ k2 _ (at_lt (by omega))] at e3
            by_cases hlt : Lt (at_ l' k2) (at_ l' k)
            · have Hltb : Hid (ltB (at_ l' k2) (at_ l' k) = true) := decide_eq_true hlt
              go_region_held3 (fun w' => w'.cell? ⟨b, 0, none⟩ = some (.slice (some ⟨g, 0, none⟩) n cap) ∧ w'.cell? ⟨b, 1, none⟩ = some F11 ∧ w'.cell? ⟨g, k * 2, none⟩ = some (.int .i64 (at_ l' k).1) ∧ w'.cell? ⟨g, k * 2 + 1, none⟩ = some (.int .i64 (at_ l' k).2) ∧ w'.cell? ⟨g, k2 * 2, none⟩ = some (.int .i64 (at_ l' k2).1) ∧ w'.cell? ⟨g, k2 * 2 + 1, none⟩ = some (.int .i64 (at_ l' k2).2))
                (first | exact ⟨d0, d1, e0, e1, e2, e3⟩ | exact ⟨q0, q1, q2, q3, q4, q5⟩ | go_keep)
                (first | (go_at_call 11; refine (cheaper_is _ _ _ _ _ true Hltb.out).mono ?_; rintro e w1 ⟨rfl, hbel⟩; obtain ⟨q0, q1, q2, q3, q4, q5⟩ : w1.cell? ⟨b, 0, none⟩ = some (.slice (some ⟨g, 0, none⟩) n cap) ∧ w1.cell? ⟨b, 1, none⟩ = some F11 ∧ w1.cell? ⟨g, k * 2, none⟩ = some (.int .i64 (at_ l' k).1) ∧ w1.cell? ⟨g, k * 2 + 1, none⟩ = some (.int .i64 (at_ l' k).2) ∧ w1.cell? ⟨g, k2 * 2, none⟩ = some (.int .i64 (at_ l' k2).1) ∧ w1.cell? ⟨g, k2 * 2 + 1, none⟩ = some (.int .i64 (at_ l' k2).2) := ⟨(hbel.cell dlt).trans d0, (hbel.cell dlt).trans d1, (hbel.cell glt).trans e0, (hbel.cell glt).trans e1, (hbel.cell glt).trans e2, (hbel.cell glt).trans e3⟩))
              go_wp2_with fail
              go_meet
              exact ⟨_, rfl, (by rw [Hltb.out, decide_eq_true h2]; rfl : (_ && _) = _), ((Below.refl wr.heap.size wr).drew).trans hbel⟩
            · have Hltb : Hid (ltB (at_ l' k2) (at_ l' k) = false) := decide_eq_false hlt
              clear hlt
              go_region_held3 (fun w' => w'.cell? ⟨b, 0, none⟩ = some (.slice (some ⟨g, 0, none⟩) n cap) ∧ w'.cell? ⟨b, 1, none⟩ = some F11 ∧ w'.cell? ⟨g, k * 2, none⟩ = some (.int .i64 (at_ l' k).1) ∧ w'.cell? ⟨g, k * 2 + 1, none⟩ = some (.int .i64 (at_ l' k).2) ∧ w'.cell? ⟨g, k2 * 2, none⟩ = some (.int .i64 (at_ l' k2).1) ∧ w'.cell? ⟨g, k2 * 2 + 1, none⟩ = some (.int .i64 (at_ l' k2).2))
                (first | exact ⟨d0, d1, e0, e1, e2, e3⟩ | exact ⟨q0, q1, q2, q3, q4, q5⟩ | go_keep)
                (first | (go_at_call 11; refine (cheaper_is _ _ _ _ _ false Hltb.out).mono ?_; rintro e w1 ⟨rfl, hbel⟩; obtain ⟨q0, q1, q2, q3, q4, q5⟩ : w1.cell? ⟨b, 0, none⟩ = some (.slice (some ⟨g, 0, none⟩) n cap) ∧ w1.cell? ⟨b, 1, none⟩ = some F11 ∧ w1.cell? ⟨g, k * 2, none⟩ = some (.int .i64 (at_ l' k).1) ∧ w1.cell? ⟨g, k * 2 + 1, none⟩ = some (.int .i64 (at_ l' k).2) ∧ w1.cell? ⟨g, k2 * 2, none⟩ = some (.int .i64 (at_ l' k2).1) ∧ w1.cell? ⟨g, k2 * 2 + 1, none⟩ = some (.int .i64 (at_ l' k2).2) := ⟨(hbel.cell dlt).trans d0, (hbel.cell dlt).trans d1, (hbel.cell glt).trans e0, (hbel.cell glt).trans e1, (hbel.cell glt).trans e2, (hbel.cell glt).trans e3⟩))
              go_wp2_with fail
              go_meet
              exact ⟨_, rfl, (by rw [Hltb.out, decide_eq_true h2]; rfl : (_ && _) = _), ((Below.refl wr.heap.size wr).drew).trans hbel⟩
          · have h2' : decide (k2 < n) = false := decide_eq_false h2
            go_quiet (fail)
            go_wp2_with fail
            go_meet
            exact ⟨_, rfl, (by rw [h2']; rfl : (_ && _) = _), below_drewN (Below.refl wr.heap.size wr) _⟩
        case rest =>
          obtain ⟨t, rfl, ht, hbel0⟩ := hcut
          have hbel0' : Hid (Below wr.heap.size wr wc) := hbel0
          clear hbel0 x1 e0 e1 d0 d1
          go_upto_if 82 with (fail)
          go_cut [8] (fun s8 wx => ∃ c : Nat, s8 = .int .i64 c ∧ Hid (Child l' i c) ∧ Hid (Below wr.heap.size wr wx))
          case first =>
            cases t
            · go_wp2_with fail
              go_meet
              exact ⟨k, rfl, child_left Hk.out (by omega) (Hk2.out ▸ ht.out), hbel0'⟩
            · go_wp2_with fail
              go_meet
              exact ⟨k2, by have := Hk2.out; subst this; go_num, child_right Hk.out Hk2.out (hl2 ▸ ht.out), hbel0'⟩
          case rest =>
            obtain ⟨c, rfl, hch, hbel0⟩ := hcut
            obtain ⟨d0, d1⟩ := (hb2.below hbel0.out).two
            have hown3 := own_below hown2 hbel0.out
            have cn : c < n := by have := hch.out.2.1; omega
            have ci : i < c := by have := hch.out.2.2.1; have := hch.out.1; omega
            have cn1 : (c : Int) < (n : Int) := by omega
            have in1 : (i : Int) < (n : Int) := by omega
            have dlt3 : b < wc.heap.size := (hb2.below hbel0.out).lt
            have glt3 : g < wc.heap.size := (own_lt hown3 rfl).2
            have e0 := hown3.cellAt (c * 2) (by omega)
            rw [flat_fst _ c _ (at_lt (by omega))] at e0
            have e1 := hown3.cellAt (c * 2 + 1) (by omega)
            rw [flat_snd _ c _ (at_lt (by omega))] at e1
            have e2 := hown3.cellAt (i * 2) (by omega)
            rw [flat_fst _ i _ (at_lt (by omega))] at e2
            have e3 := hown3.cellAt (i * 2 + 1) (by omega)
            rw [flat_snd _ i _ (at_lt (by omega))] at e3
            clear hbel0' hb hown
            go_wp2_with fail
            by_cases hlt : Lt (at_ l' c) (at_ l' i)
            · have Hltb : Hid (ltB (at_ l' c) (at_ l' i) = true) := decide_eq_true hlt
              have Hlt := Lib.hid hlt
              clear hlt
              go_region_held3 (fun w' => w'.cell? ⟨b, 0, none⟩ = some (.slice (some ⟨g, 0, none⟩) n cap) ∧ w'.cell? ⟨b, 1, none⟩ = some F11 ∧ w'.cell? ⟨g, c * 2, none⟩ = some (.int .i64 (at_ l' c).1) ∧ w'.cell? ⟨g, c * 2 + 1, none⟩ = some (.int .i64 (at_ l' c).2) ∧ w'.cell? ⟨g, i * 2, none⟩ = some (.int .i64 (at_ l' i).1) ∧ w'.cell? ⟨g, i * 2 + 1, none⟩ = some (.int .i64 (at_ l' i).2))
                (first | exact ⟨d0, d1, e0, e1, e2, e3⟩ | exact ⟨q0, q1, q2, q3, q4, q5⟩ | go_keep)
                (first | (go_at_call 11; refine (cheaper_is _ _ _ _ _ true Hltb.out).mono ?_; rintro e w1 ⟨rfl, hbel⟩; obtain ⟨q0, q1, q2, q3, q4, q5⟩ : w1.cell? ⟨b, 0, none⟩ = some (.slice (some ⟨g, 0, none⟩) n cap) ∧ w1.cell? ⟨b, 1, none⟩ = some F11 ∧ w1.cell? ⟨g, c * 2, none⟩ = some (.int .i64 (at_ l' c).1) ∧ w1.cell? ⟨g, c * 2 + 1, none⟩ = some (.int .i64 (at_ l' c).2) ∧ w1.cell? ⟨g, i * 2, none⟩ = some (.int .i64 (at_ l' i).1) ∧ w1.cell? ⟨g, i * 2 + 1, none⟩ = some (.int .i64 (at_ l' i).2) := ⟨(hbel.cell dlt3).trans d0, (hbel.cell dlt3).trans d1, (hbel.cell glt3).trans e0, (hbel.cell glt3).trans e1, (hbel.cell glt3).trans e2, (hbel.cell glt3).trans e3⟩))
              go_wp2_with fail
              have hbel : Below wc.heap.size wc w1 := ((Below.refl wc.heap.size wc).drew).trans hbel
              have z0 := (hbel.frozen (p := ⟨g, i * 2, none⟩) glt3).trans (hown3.frozenAt (i * 2))
              have z1 := (hbel.frozen (p := ⟨g, i * 2 + 1, none⟩) glt3).trans (hown3.frozenAt (i * 2 + 1))
              have z2 := (hbel.frozen (p := ⟨g, c * 2, none⟩) glt3).trans (hown3.frozenAt (c * 2))
              have z3 := (hbel.frozen (p := ⟨g, c * 2 + 1, none⟩) glt3).trans (hown3.frozenAt (c * 2 + 1))
              clear d0 d1 e0 e1 e2 e3
              go_region
              go_wp2_with fail
              go_roundw
              case rel =>
                have hb4 : Below wr.heap.size wr w1 := hbel0.out.trans (hbel.mono hbel0.out.size)
                refine ⟨c, swp l' i c, rfl, by omega, ⟨by simp [hl2], ?_, ?_, ?_, ?_, rfl, ?_⟩, ?_, ?_⟩
                · exact (((((Hb2.out.below hb4).far hgb _).far hgb _).far hgb _).far hgb _).drew
                · have := own_set (own_set (own_set (own_set (own_below hown2 hb4) (i * 2) (.int .i64 (at_ l' c).1)) (i * 2 + 1) (.int .i64 (at_ l' c).2)) (c * 2) (.int .i64 (at_ l' i).1)) (c * 2 + 1) (.int .i64 (at_ l' i).2)
                  rw [flat_set, flat_set] at this
                  rw [List.take_of_length_le (by simp; omega)]
                  exact this
                · exact (((((Hr2.out.below hb4).far hrg _).far hrg _).far hrg _).far hrg _).drew
                · exact (((((Hm2.out.below hb4).far hmg _).far hmg _).far hmg _).far hmg _).drew
                · exact Fr.drew (Fr.setCell (Fr.setCell (Fr.setCell (Fr.setCell (hfr2.of_below' hb4) (.inl (.inr rfl)) _) (.inl (.inr rfl)) _) (.inl (.inr rfl)) _) (.inl (.inr rfl)) _)
                · exact (List.Perm.cons _ (swp_perm (by omega) (by omega))).trans hpm
                · exact down_step hdn hch.out.1 hch.out.2.1 hch.out.2.2.1 hch.out.2.2.2 Hlt.out
              case measure => simp [intOf]; omega
            · have Hltb : Hid (ltB (at_ l' c) (at_ l' i) = false) := decide_eq_false hlt
              have Hlt := Lib.hid hlt
              clear hlt
              go_region_held3 (fun w' => w'.cell? ⟨b, 0, none⟩ = some (.slice (some ⟨g, 0, none⟩) n cap) ∧ w'.cell? ⟨b, 1, none⟩ = some F11 ∧ w'.cell? ⟨g, c * 2, none⟩ = some (.int .i64 (at_ l' c).1) ∧ w'.cell? ⟨g, c * 2 + 1, none⟩ = some (.int .i64 (at_ l' c).2) ∧ w'.cell? ⟨g, i * 2, none⟩ = some (.int .i64 (at_ l' i).1) ∧ w'.cell? ⟨g, i * 2 + 1, none⟩ = some (.int .i64 (at_ l' i).2))
                (first | exact ⟨d0, d1, e0, e1, e2, e3⟩ | exact ⟨q0, q1, q2, q3, q4, q5⟩ | go_keep)
                (first | (go_at_call 11; refine (cheaper_is _ _ _ _ _ false Hltb.out).mono ?_; rintro e w1 ⟨rfl, hbel⟩; obtain ⟨q0, q1, q2, q3, q4, q5⟩ : w1.cell? ⟨b, 0, none⟩ = some (.slice (some ⟨g, 0, none⟩) n cap) ∧ w1.cell? ⟨b, 1, none⟩ = some F11 ∧ w1.cell? ⟨g, c * 2, none⟩ = some (.int .i64 (at_ l' c).1) ∧ w1.cell? ⟨g, c * 2 + 1, none⟩ = some (.int .i64 (at_ l' c).2) ∧ w1.cell? ⟨g, i * 2, none⟩ = some (.int .i64 (at_ l' i).1) ∧ w1.cell? ⟨g, i * 2 + 1, none⟩ = some (.int .i64 (at_ l' i).2) := ⟨(hbel.cell dlt3).trans d0, (hbel.cell dlt3).trans d1, (hbel.cell glt3).trans e0, (hbel.cell glt3).trans e1, (hbel.cell glt3).trans e2, (hbel.cell glt3).trans e3⟩))
              have hbel : Below wc.heap.size wc w1 := ((Below.refl wc.heap.size wc).drew).trans hbel
              have hb4 : Below wr.heap.size wr w1 := hbel0.out.trans (hbel.mono hbel0.out.size)
              clear d0 d1 e0 e1 e2 e3 q0 q1 q2 q3 q4 q5
              obtain ⟨r0, r1⟩ := (Hr2.out.below hb4).two
              have rf0 := (Hr2.out.below hb4).frozen 0
              have rf1 := (Hr2.out.below hb4).frozen 1
              obtain ⟨m0, m1⟩ := (Hm2.out.below hb4).two
              go_wp2_with fail
              exact bodyPost_ret (v := .tuple #[.agg #[.int .i64 (at_ l 0).1, .int .i64 (at_ l 0).2], .bool true]) (by simp [results, Try.results13, go_sem, *]) rfl ⟨rfl, l', ⟨hl2, (Hb2.out.below hb4).far hbr _ |>.far hbr _, own_far (own_far (own_below hown2 hb4) hrg' _) hrg' _⟩, Fr.setCell (Fr.setCell (hfr2.of_below' hb4) (.inr (Nat.le_refl _)) _) (.inr (Nat.le_refl _)) _, hpm, down_done hdn (fun j h0 hj hji h => Hlt.out (hch.out.2.2.2 j h0 hj hji |> fun hle => le_lt_trans hle h))⟩
      · have h1' : ¬ (2 * (i : Int) + 1 < (n : Int)) := by omega
        have hb4 : Below wr.heap.size wr wr := Below.refl _ _
        clear d0 d1
        obtain ⟨r0, r1⟩ := (Hr2.out.below hb4).two
        have rf0 := (Hr2.out.below hb4).frozen 0
        have rf1 := (Hr2.out.below hb4).frozen 1
        obtain ⟨m0, m1⟩ := (Hm2.out.below hb4).two
        go_wp2_with fail
        exact bodyPost_ret (v := .tuple #[.agg #[.int .i64 (at_ l 0).1, .int .i64 (at_ l 0).2], .bool true]) (by simp [results, Try.results13, go_sem, *]) rfl ⟨rfl, l', ⟨hl2, (Hb2.out.below hb4).far hbr _ |>.far hbr _, own_far (own_far (own_below hown2 hb4) hrg' _) hrg' _⟩, Fr.setCell (Fr.setCell (hfr2.of_below' hb4) (.inr (Nat.le_refl _)) _) (.inr (Nat.le_refl _)) _, hpm, down_done hdn (fun j h0 hj hji => absurd hj (by omega))⟩
end Go.Proofs.Ytjcnikblbcemcaa
