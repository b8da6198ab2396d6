/-
  Walks of long, run, Skip, Pos, num and Matches. Conditions: the finder lies in memory; places in range.
-/
import Derived.Test.YthlflcnpmabmbaaDoorFiFn
namespace Go.Proofs.YthlflcnpmabmbaaDoor
open Go.RowKit
attribute [local go_sem] Oper.semAt_some
set_option maxRecDepth 100000

theorem takeWhile_range (f : Nat → Bool) (m k : Nat) (hk : k ≤ m) (h : ∀ j, j < k → f j = true) (hs : k = m ∨ f k = false) : ((List.range m).takeWhile f).length = k := by
  obtain ⟨d, rfl⟩ : ∃ d, m = k + d := ⟨m - k, by omega⟩
  rw [List.range_add, List.takeWhile_append_of_pos (fun a ha => h a (List.mem_range.1 ha)), List.length_append, List.length_range]
  cases d with
  | zero => simp
  | succ d =>
    have hf : f k = false := by
      rcases hs with hs | hs
      · omega
      · exact hs
    rw [List.range_succ_eq_map, List.map_cons, List.takeWhile_cons]
    simp [hf]
/-- how far the bytes from q on are those from p on, at most m -/
def ext (l : List UInt8) (q p m : Nat) : Nat := ((List.range m).takeWhile (fun n => decide (l.getD (q + n) 0 = l.getD (p + n) 0))).length
theorem ext_stop {l : List UInt8} {q p m k : Nat} (hk : k ≤ m) (h : ∀ j, j < k → l.getD (q + j) 0 = l.getD (p + j) 0) (hs : k = m ∨ l.getD (q + k) 0 ≠ l.getD (p + k) 0) : ext l q p m = k :=
  takeWhile_range _ m k hk (fun j hj => decide_eq_true (h j hj)) (hs.imp id fun h => decide_eq_false h)
theorem ext_le (l : List UInt8) (q p m : Nat) : ext l q p m ≤ m := by
  unfold ext
  have := (List.takeWhile_prefix (l := List.range m) (fun n => decide (l.getD (q + n) 0 = l.getD (p + n) 0))).length_le
  simpa using this
/-- the cell at j -/
theorem In.at_ {w : World} {A : Option Addr} {m j : Nat} {l : List UInt8} (h : In w A m l) (hj : j < m) : ∃ ad, A = some ad ∧ w.cell? (ad.add j) = some (.int .u8 ((l.getD j 0).toNat : Int)) := by
  obtain ⟨ad, hA, hc⟩ := h.1.2 (by omega)
  have hl := h.len
  refine ⟨ad, hA, hc j _ ?_⟩
  have : j < l.length := by omega
  unfold bys
  simp [List.getD, this]
theorem Matches_any (fb : Nat) (most : Int) (w : World) : Calls Tryd.prog 56 #[.pointer (some ⟨fb, 0, none⟩), .int .i64 most] w fun en w' => en = .returned (.func (.func 73) #[] #[.pointer (some ⟨w.heap.size, 0, none⟩), .pointer (some ⟨w.heap.size + 1, 0, none⟩)]) ∧
    w' = (w.alloc (.cells #[.pointer (some ⟨fb, 0, none⟩)] 64)).alloc (.cells #[.int .i64 most] 3) := by
  go_enter Tryd.func56, Tryd.ntmps56
  go_wp2
  go_ret
  exact ⟨rfl, rfl⟩
theorem Skip_yes (p : FP) (pos n : Nat) (w : World) (h : Fi p pos w) (hn : pos + n ≤ p.l.length) (hl : p.l.length ≤ 1073741824) : Calls Tryd.prog 29 #[.pointer (some ⟨p.fb, 0, none⟩), .int .i64 n] w fun en w' => en = .returned (.int .i64 0) ∧ ∃ k, w' = (w.drewN k).setCell ⟨p.fb, 2, none⟩ (.int .i64 ((pos + n : Nat) : Int)) := by
  have c0 : w.cell? ⟨p.fb, 0, none⟩ = some (.slice p.O p.l.length p.oc) := h.b.cell 0
  have c2 : w.cell? ⟨p.fb, 2, none⟩ = some (.int .i64 pos) := h.b.cell 2
  have f2 := h.b.frozen 2
  clear h
  have hw : IntKind.i64.wrap ((p.l.length : Int) - (pos : Int)) = (p.l.length : Int) - (pos : Int) := IntWalk.i64_in _ (by omega)
  have h1 : ¬ (n : Int) < 0 := by omega
  have h2 : ¬ ((p.l.length : Int) - (pos : Int) < (n : Int)) := by omega
  have hc : ((pos + n : Nat) : Int) = (pos : Int) + (n : Int) := by omega
  rw [hc]
  go_enter Tryd.func29, Tryd.ntmps29
  go_wp2_with fail
  go_quiet (fail)
  go_wp2_with fail
  go_ret
  exact ⟨rfl, _, rfl⟩
theorem Skip_no (p : FP) (pos : Nat) (n : Int) (w : World) (h : Fi p pos w) (hn : (p.l.length : Int) < pos + n) (hp : pos ≤ p.l.length) (h0 : 0 ≤ n) (hl : p.l.length ≤ 1073741824) (hn2 : n ≤ 1073741824) : Calls Tryd.prog 29 #[.pointer (some ⟨p.fb, 0, none⟩), .int .i64 n] w fun en w' => en = .returned (.int .i64 7) ∧ ∃ k, w' = w.drewN k := by
  have c0 : w.cell? ⟨p.fb, 0, none⟩ = some (.slice p.O p.l.length p.oc) := h.b.cell 0
  have c2 : w.cell? ⟨p.fb, 2, none⟩ = some (.int .i64 pos) := h.b.cell 2
  clear h
  have hw : IntKind.i64.wrap ((p.l.length : Int) - (pos : Int)) = (p.l.length : Int) - (pos : Int) := IntWalk.i64_in _ (by omega)
  have h1 : ¬ n < 0 := by omega
  have h2 : ((p.l.length : Int) - (pos : Int) < n) := by omega
  go_enter Tryd.func29, Tryd.ntmps29
  go_wp2_with fail
  go_quiet (fail)
  go_wp2_with fail
  go_ret
  exact ⟨rfl, _, rfl⟩
theorem long_any (p : FP) (pos q pp m : Nat) (w : World) (h : Fi p pos w) (hq : q + m ≤ p.l.length) (hp : pp + m ≤ p.l.length) (hl : p.l.length ≤ 1073741824) :
    Calls Tryd.prog 75 #[.pointer (some ⟨p.fb, 0, none⟩), .int .i64 q, .int .i64 pp, .int .i64 m] w fun en w' => en = .returned (.int .i64 (ext p.l q pp m)) ∧ ∃ k, w' = w.drewN k := by
  have c0 : w.cell? ⟨p.fb, 0, none⟩ = some (.slice p.O p.l.length p.oc) := h.b.cell 0
  have hcap := h.cap
  have HI := Lib.hid h.d
  have H0 : Hid (∀ j, j < 0 → p.l.getD (q + j) 0 = p.l.getD (pp + j) 0) := fun j hj => absurd hj (Nat.not_lt_zero j)
  obtain ⟨r, hr⟩ : ∃ r, ext p.l q pp m = r := ⟨_, rfl⟩
  have Hr := Lib.hid hr
  rw [hr]
  clear h hr
  go_enter Tryd.func75, Tryd.ntmps75
  go_wp2_with fail
  go_loopw [9] (fun s9 wr => ∃ (k : Nat), s9 = .int .i64 (k : Int) ∧ k ≤ m ∧ Hid ((∃ n, wr = w.drewN n) ∧ ∀ j, j < k → p.l.getD (q + j) 0 = p.l.getD (pp + j) 0)) (fun s9 _ => m - (intOf s9).toNat)
  case atStart => exact ⟨0, rfl, Nat.zero_le _, ⟨0, rfl⟩, H0.out⟩
  case round =>
    clear H0
    obtain ⟨k, rfl, hk, HR⟩ := hrel
    obtain ⟨⟨n0, rfl⟩, hj⟩ := HR.out
    have Hj := Lib.hid hj
    clear hj HR
    by_cases hlt : k < m
    · have hlt' : (k : Int) < (m : Int) := by omega
      obtain ⟨ad, hA, z1⟩ := HI.out.at_ (j := q + k) (by omega)
      obtain ⟨ad', hA', z2⟩ := HI.out.at_ (j := pp + k) (by omega)
      rw [hA] at hA'
      obtain rfl : ad = ad' := Option.some.inj hA'
      rw [hA] at c0
      clear hA'
      have z0 : (w.drewN n0).cell? ⟨p.fb, 0, none⟩ = some (.slice (some ad) p.l.length p.oc) := c0
      obtain ⟨x, hx⟩ : ∃ x, p.l.getD (q + k) 0 = x := ⟨_, rfl⟩
      obtain ⟨y, hy⟩ : ∃ y, p.l.getD (pp + k) 0 = y := ⟨_, rfl⟩
      rw [hx] at z1
      rw [hy] at z2
      have hq1 : ((q : Int) + (k : Int)).toNat = q + k := by omega
      have hp1 : ((pp : Int) + (k : Int)).toNat = pp + k := by omega
      have hb1 : (q : Int) + (k : Int) < (p.l.length : Int) := by omega
      have hb2 : (pp : Int) + (k : Int) < (p.l.length : Int) := by omega
      by_cases he : x = y
      · have he' : ((x.toNat : Int) == (y.toNat : Int)) = true := by subst he; simp
        have HN : Hid (∀ j, j < k + 1 → p.l.getD (q + j) 0 = p.l.getD (pp + j) 0) := fun j hj => by
          rcases (by omega : j < k ∨ j = k) with h | h
          · exact Hj.out j h
          · subst h; rw [hx, hy, he]
        have Hx := Lib.hid hx
        have Hy := Lib.hid hy
        have He := Lib.hid he
        clear hx hy he
        go_wp2_with fail
        go_quiet (fail)
        go_wp2_with fail
        go_roundw
        case rel => exact ⟨k + 1, by go_num, by omega, ⟨_, rfl⟩, HN.out⟩
        case measure => simp [intOf]; omega
      · have he' : ((x.toNat : Int) == (y.toNat : Int)) = false := beq_eq_false_iff_ne.2 (fun e => he (UInt8.toNat_inj.1 (by omega)))
        have hrk : r = k := by rw [← Hr.out]; exact ext_stop (by omega) Hj.out (.inr (by rw [hx, hy]; exact he))
        subst hrk
        have Hx := Lib.hid hx
        have Hy := Lib.hid hy
        have He := Lib.hid he
        clear hx hy he
        go_wp2_with fail
        go_quiet (fail)
        go_wp2_with fail
        go_ret
        exact ⟨rfl, _, World.drewN_drewN _ _ _⟩
    · obtain rfl : k = m := by omega
      have hge : ¬ (k : Int) < (k : Int) := by omega
      have hrk : r = k := by rw [← Hr.out]; exact ext_stop (by omega) Hj.out (.inl rfl)
      subst hrk
      go_wp2_with fail
      go_quiet (fail)
      go_wp2_with fail
      go_ret
      exact ⟨rfl, _, World.drewN_drewN _ _ _⟩
/-- how long a match at p may be -/
def lft (l : List UInt8) (p : Nat) (most : Int) : Nat := min most.toNat (min 273 (l.length - p))
end Go.Proofs.YthlflcnpmabmbaaDoor
