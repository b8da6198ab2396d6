/-
  Walks of long, run, Skip, Pos, num and Matches. Conditions: the finder lies in memory; places in range.
-/
import Derived.Test.YtllhmgnhnbnbiaaFiFn
namespace Go.Proofs.Ytllhmgnhnbnbiaa
open Go.RowKit
attribute [local go_sem] Oper.semAt_some
set_option maxRecDepth 100000

theorem takeWhile_range (f : Nat → Bool) (m k : Nat) (hk : k ≤ m) (h : ∀ j, j < k → f j = true) (hs : k = m ∨ f k = false) : ((List.range m).takeWhile f).length = k := by
  obtain ⟨d, rfl⟩ : ∃ d, m = k + d := ⟨m - k, by omega⟩
  rw [List.range_add, List.takeWhile_append_of_pos (fun a ha => h a (List.mem_range.1 ha)), List.length_append, List.length_range]
  cases d with
  | zero => simp
  | succ d =>
    have hf : f k = false := by
      rcases hs with hs | hs
      · omega
      · exact hs
    rw [List.range_succ_eq_map, List.map_cons, List.takeWhile_cons]
    simp [hf]
/-- how far the bytes from q on are those from p on, at most m -/
def ext (l : List UInt8) (q p m : Nat) : Nat := ((List.range m).takeWhile (fun n => decide (l.getD (q + n) 0 = l.getD (p + n) 0))).length
theorem ext_stop {l : List UInt8} {q p m k : Nat} (hk : k ≤ m) (h : ∀ j, j < k → l.getD (q + j) 0 = l.getD (p + j) 0) (hs : k = m ∨ l.getD (q + k) 0 ≠ l.getD (p + k) 0) : ext l q p m = k :=
  takeWhile_range _ m k hk (fun j hj => decide_eq_true (h j hj)) (hs.imp id fun h => decide_eq_false h)
theorem ext_le (l : List UInt8) (q p m : Nat) : ext l q p m ≤ m := by
  unfold ext
  have := (List.takeWhile_prefix (l := List.range m) (fun n => decide (l.getD (q + n) 0 = l.getD (p + n) 0))).length_le
  simpa using this
/-- the cell at j -/
theorem In.at_ {w : World} {A : Option Addr} {m j : Nat} {l : List UInt8} (h : In w A m l) (hj : j < m) : ∃ ad, A = some ad ∧ w.cell? (ad.add j) = some (.int .u8 ((l.getD j 0).toNat : Int)) := by
  obtain ⟨ad, hA, hc⟩ := h.1.2 (by omega)
  have hl := h.len
  refine ⟨ad, hA, hc j _ ?_⟩
  have : j < l.length := by omega
  unfold bys
  simp [List.getD, this]
theorem num_any (e : Int) (w : World) : Calls Try.prog 7 #[.int .i64 e] w fun en w' => en = .returned (.int .i64 e) ∧ w' = w := by
  go_enter Try.func7, Try.ntmps7
  go_wp2
  go_ret
  exact ⟨rfl, rfl⟩
theorem Pos_any (p : FP) (pos : Nat) (w : World) (h : Fi p pos w) : Calls Try.prog 13 #[.pointer (some ⟨p.fb, 0, none⟩)] w fun en w' => en = .returned (.int .i64 pos) ∧ w' = w := by
  have c2 : w.cell? ⟨p.fb, 2, none⟩ = some (.int .i64 pos) := h.b.cell 2
  clear h
  go_enter Try.func13, Try.ntmps13
  go_wp2
  go_ret
  exact ⟨rfl, rfl⟩
theorem Matches_any (fb : Nat) (most : Int) (w : World) : Calls Try.prog 14 #[.pointer (some ⟨fb, 0, none⟩), .int .i64 most] w fun en w' => en = .returned (.func (.func 17) #[] #[.pointer (some ⟨w.heap.size, 0, none⟩), .pointer (some ⟨w.heap.size + 1, 0, none⟩)]) ∧
    w' = (w.alloc (.cells #[.pointer (some ⟨fb, 0, none⟩)] 23)).alloc (.cells #[.int .i64 most] 3) := by
  go_enter Try.func14, Try.ntmps14
  go_wp2
  go_ret
  exact ⟨rfl, rfl⟩
theorem Skip_yes (p : FP) (pos n : Nat) (w : World) (h : Fi p pos w) (hn : pos + n ≤ p.l.length) (hl : p.l.length ≤ 1073741824) : Calls Try.prog 11 #[.pointer (some ⟨p.fb, 0, none⟩), .int .i64 n] w fun en w' => en = .returned (.int .i64 0) ∧ ∃ k, w' = (w.drewN k).setCell ⟨p.fb, 2, none⟩ (.int .i64 ((pos + n : Nat) : Int)) := by
  have c0 : w.cell? ⟨p.fb, 0, none⟩ = some (.slice p.O p.l.length p.oc) := h.b.cell 0
  have c2 : w.cell? ⟨p.fb, 2, none⟩ = some (.int .i64 pos) := h.b.cell 2
  have f2 := h.b.frozen 2
  clear h
  have hw : IntKind.i64.wrap ((p.l.length : Int) - (pos : Int)) = (p.l.length : Int) - (pos : Int) := IntWalk.i64_in _ (by omega)
  have h1 : ¬ (n : Int) < 0 := by omega
  have h2 : ¬ ((p.l.length : Int) - (pos : Int) < (n : Int)) := by omega
  have hc : ((pos + n : Nat) : Int) = (pos : Int) + (n : Int) := by omega
  rw [hc]
  go_enter Try.func11, Try.ntmps11
  go_wp2_with fail
  go_quiet (fail)
  go_wp2_with fail
  go_ret
  exact ⟨rfl, _, rfl⟩
theorem Skip_no (p : FP) (pos : Nat) (n : Int) (w : World) (h : Fi p pos w) (hn : (p.l.length : Int) < pos + n) (hp : pos ≤ p.l.length) (h0 : 0 ≤ n) (hl : p.l.length ≤ 1073741824) (hn2 : n ≤ 1073741824) : Calls Try.prog 11 #[.pointer (some ⟨p.fb, 0, none⟩), .int .i64 n] w fun en w' => en = .returned (.int .i64 7) ∧ ∃ k, w' = w.drewN k := by
  have c0 : w.cell? ⟨p.fb, 0, none⟩ = some (.slice p.O p.l.length p.oc) := h.b.cell 0
  have c2 : w.cell? ⟨p.fb, 2, none⟩ = some (.int .i64 pos) := h.b.cell 2
  clear h
  have hw : IntKind.i64.wrap ((p.l.length : Int) - (pos : Int)) = (p.l.length : Int) - (pos : Int) := IntWalk.i64_in _ (by omega)
  have h1 : ¬ n < 0 := by omega
  have h2 : ((p.l.length : Int) - (pos : Int) < n) := by omega
  go_enter Try.func11, Try.ntmps11
  go_wp2_with fail
  go_quiet (fail)
  go_wp2_with fail
  go_ret
  exact ⟨rfl, _, rfl⟩
theorem long_any (p : FP) (pos q pp m : Nat) (w : World) (h : Fi p pos w) (hq : q + m ≤ p.l.length) (hp : pp + m ≤ p.l.length) (hl : p.l.length ≤ 1073741824) :
    Calls Try.prog 19 #[.pointer (some ⟨p.fb, 0, none⟩), .int .i64 q, .int .i64 pp, .int .i64 m] w fun en w' => en = .returned (.int .i64 (ext p.l q pp m)) ∧ ∃ k, w' = w.drewN k := by
  have c0 : w.cell? ⟨p.fb, 0, none⟩ = some (.slice p.O p.l.length p.oc) := h.b.cell 0
  have hcap := h.cap
  have HI := Lib.hid h.d
  have H0 : Hid (∀ j, j < 0 → p.l.getD (q + j) 0 = p.l.getD (pp + j) 0) := fun j hj => absurd hj (Nat.not_lt_zero j)
  obtain ⟨r, hr⟩ : ∃ r, ext p.l q pp m = r := ⟨_, rfl⟩
  have Hr := Lib.hid hr
  rw [hr]
  clear h hr
  go_enter Try.func19, Try.ntmps19
  go_wp2_with fail
  go_loopw [9] (fun s9 wr => ∃ (k : Nat), s9 = .int .i64 (k : Int) ∧ k ≤ m ∧ Hid ((∃ n, wr = w.drewN n) ∧ ∀ j, j < k → p.l.getD (q + j) 0 = p.l.getD (pp + j) 0)) (fun s9 _ => m - (intOf s9).toNat)
  case atStart => exact ⟨0, rfl, Nat.zero_le _, ⟨0, rfl⟩, H0.out⟩
  case round =>
    clear H0
    obtain ⟨k, rfl, hk, HR⟩ := hrel
    obtain ⟨⟨n0, rfl⟩, hj⟩ := HR.out
    have Hj := Lib.hid hj
    clear hj HR
    by_cases hlt : k < m
    · have hlt' : (k : Int) < (m : Int) := by omega
      obtain ⟨ad, hA, z1⟩ := HI.out.at_ (j := q + k) (by omega)
      obtain ⟨ad', hA', z2⟩ := HI.out.at_ (j := pp + k) (by omega)
      rw [hA] at hA'
      obtain rfl : ad = ad' := Option.some.inj hA'
      rw [hA] at c0
      clear hA'
      have z0 : (w.drewN n0).cell? ⟨p.fb, 0, none⟩ = some (.slice (some ad) p.l.length p.oc) := c0
      obtain ⟨x, hx⟩ : ∃ x, p.l.getD (q + k) 0 = x := ⟨_, rfl⟩
      obtain ⟨y, hy⟩ : ∃ y, p.l.getD (pp + k) 0 = y := ⟨_, rfl⟩
      rw [hx] at z1
      rw [hy] at z2
      have hq1 : ((q : Int) + (k : Int)).toNat = q + k := by omega
      have hp1 : ((pp : Int) + (k : Int)).toNat = pp + k := by omega
      have hb1 : (q : Int) + (k : Int) < (p.l.length : Int) := by omega
      have hb2 : (pp : Int) + (k : Int) < (p.l.length : Int) := by omega
      by_cases he : x = y
      · have he' : ((x.toNat : Int) == (y.toNat : Int)) = true := by subst he; simp
        have HN : Hid (∀ j, j < k + 1 → p.l.getD (q + j) 0 = p.l.getD (pp + j) 0) := fun j hj => by
          rcases (by omega : j < k ∨ j = k) with h | h
          · exact Hj.out j h
          · subst h; rw [hx, hy, he]
        have Hx := Lib.hid hx
        have Hy := Lib.hid hy
        have He := Lib.hid he
        clear hx hy he
        go_wp2_with fail
        go_quiet (fail)
        go_wp2_with fail
        go_roundw
        case rel => exact ⟨k + 1, by go_num, by omega, ⟨_, rfl⟩, HN.out⟩
        case measure => simp [intOf]; omega
      · have he' : ((x.toNat : Int) == (y.toNat : Int)) = false := beq_eq_false_iff_ne.2 (fun e => he (UInt8.toNat_inj.1 (by omega)))
        have hrk : r = k := by rw [← Hr.out]; exact ext_stop (by omega) Hj.out (.inr (by rw [hx, hy]; exact he))
        subst hrk
        have Hx := Lib.hid hx
        have Hy := Lib.hid hy
        have He := Lib.hid he
        clear hx hy he
        go_wp2_with fail
        go_quiet (fail)
        go_wp2_with fail
        go_ret
        exact ⟨rfl, _, World.drewN_drewN _ _ _⟩
    · obtain rfl : k = m := by omega
      have hge : ¬ (k : Int) < (k : Int) := by omega
      have hrk : r = k := by rw [← Hr.out]; exact ext_stop (by omega) Hj.out (.inl rfl)
      subst hrk
      go_wp2_with fail
      go_quiet (fail)
      go_wp2_with fail
      go_ret
      exact ⟨rfl, _, World.drewN_drewN _ _ _⟩
/-- how long a match at p may be -/
def lft (l : List UInt8) (p : Nat) (most : Int) : Nat := min most.toNat (min 273 (l.length - p))
theorem run_any (A : Option Addr) (m c : Nat) (l : List UInt8) (pp d : Nat) (most : Int) (w : World) (h : In w A m l) (hc : m ≤ c) (hm : m ≤ 1073741824) (hp : pp ≤ m) (hd : d ≤ pp) :
    Calls Try.prog 8 #[.slice A m c, .int .i64 pp, .int .i64 d, .int .i64 most] w fun en w' => en = .returned (.int .i64 (ext l (pp - d) pp (lft l pp most))) ∧ ∃ k, w' = w.drewN k := by
  have HI := Lib.hid h
  have H0 : Hid (∀ j, j < 0 → l.getD (pp - d + j) 0 = l.getD (pp + j) 0) := fun j hj => absurd hj (Nat.not_lt_zero j)
  obtain ⟨q, hq⟩ : ∃ q, pp - d = q := ⟨_, rfl⟩
  rw [hq] at H0 ⊢
  obtain ⟨z, hz⟩ : ∃ z, lft l pp most = z := ⟨_, rfl⟩
  have hlen : l.length = m := h.len
  have hz1 : z ≤ 273 ∧ pp + z ≤ m := by unfold lft at hz; omega
  have hz2 : ∀ k : Nat, k < z → (k : Int) < most := fun k hk => by unfold lft at hz; omega
  have Hz3 : Hid (∀ k : Nat, ¬ k < z → (k : Int) < most → k < 273 → ¬ pp + k < m) := fun k h1 h2 h3 h4 => by unfold lft at hz; omega
  rw [hz]
  obtain ⟨r, hr⟩ : ∃ r, ext l q pp z = r := ⟨_, rfl⟩
  have Hr := Lib.hid hr
  rw [hr]
  have Hz2 := Lib.hid hz2
  obtain ⟨hz1a, hz1b⟩ := hz1
  have hqd : (pp : Int) - (d : Int) = (q : Int) := by omega
  clear h hr hz hlen hz2
  go_enter Try.func8, Try.ntmps8
  go_wp2_with fail
  go_loopw [9] (fun s9 wr => ∃ (k : Nat), s9 = .int .i64 (k : Int) ∧ k ≤ z ∧ Hid ((∃ n, wr = w.drewN n) ∧ ∀ j, j < k → l.getD (q + j) 0 = l.getD (pp + j) 0)) (fun s9 _ => z - (intOf s9).toNat)
  case atStart => exact ⟨0, rfl, Nat.zero_le _, ⟨0, rfl⟩, H0.out⟩
  case round =>
    clear H0
    obtain ⟨k, rfl, hk, HR⟩ := hrel
    obtain ⟨⟨n0, rfl⟩, hj⟩ := HR.out
    have Hj := Lib.hid hj
    clear hj HR
    by_cases hlt : k < z
    · have hlt' : (k : Int) < most := Hz2.out k hlt
      have hlt2 : (k : Int) < 273 := by omega
      have hlt3 : (pp : Int) + (k : Int) < (m : Int) := by omega
      have hcap : pp + k ≤ c := by omega
      obtain ⟨ad, hA, z1⟩ := HI.out.at_ (j := q + k) (by omega)
      obtain ⟨ad', hA', z2⟩ := HI.out.at_ (j := pp + k) (by omega)
      subst hA
      obtain rfl : ad = ad' := Option.some.inj hA'
      clear hA'
      obtain ⟨x, hx⟩ : ∃ x, l.getD (q + k) 0 = x := ⟨_, rfl⟩
      obtain ⟨y, hy⟩ : ∃ y, l.getD (pp + k) 0 = y := ⟨_, rfl⟩
      rw [hx] at z1
      rw [hy] at z2
      have hq0 : (pp : Int) + (k : Int) - (d : Int) = ((q + k : Nat) : Int) := by omega
      have hq1 : ((pp : Int) + (k : Int) - (d : Int)).toNat = q + k := by omega
      have hp1 : ((pp : Int) + (k : Int)).toNat = pp + k := by omega
      have hb2 : (pp : Int) + (k : Int) - (d : Int) < (m : Int) := by omega
      have hb3 : 0 ≤ (pp : Int) + (k : Int) - (d : Int) := by omega
      have Hq0 := Lib.hid hq0
      clear hq0
      by_cases he : x = y
      · have he' : ((y.toNat : Int) == (x.toNat : Int)) = true := by subst he; simp
        have HN : Hid (∀ j, j < k + 1 → l.getD (q + j) 0 = l.getD (pp + j) 0) := fun j hj => by
          rcases (by omega : j < k ∨ j = k) with h | h
          · exact Hj.out j h
          · subst h; rw [hx, hy, he]
        have Hx := Lib.hid hx
        have Hy := Lib.hid hy
        have He := Lib.hid he
        clear hx hy he
        go_wp2_with fail
        go_quiet (fail)
        go_wp2_with fail
        go_roundw
        case rel => exact ⟨k + 1, by go_num, by omega, ⟨_, rfl⟩, HN.out⟩
        case measure => simp [intOf]; omega
      · have he' : ((y.toNat : Int) == (x.toNat : Int)) = false := beq_eq_false_iff_ne.2 (fun e => he (UInt8.toNat_inj.1 (by omega)))
        have hrk : r = k := by rw [← Hr.out]; exact ext_stop (by omega) Hj.out (.inr (by rw [hx, hy]; exact he))
        subst hrk
        have Hx := Lib.hid hx
        have Hy := Lib.hid hy
        have He := Lib.hid he
        clear hx hy he
        go_wp2_with fail
        go_quiet (fail)
        go_wp2_with fail
        go_ret
        exact ⟨rfl, _, World.drewN_drewN _ _ _⟩
    · have hrk : r = k := by rw [← Hr.out]; exact ext_stop hk Hj.out (.inl (by omega))
      subst hrk
      by_cases h1 : (r : Int) < most
      · by_cases h2 : (r : Int) < 273
        · have H3 : Hid (¬ (pp : Int) + (r : Int) < (m : Int)) := by have := Hz3.out r hlt h1 (by omega); intro h; omega
          go_wp2_with fail
          have hd3 : decide ((pp : Int) + (r : Int) < (m : Int)) = false := decide_eq_false (by have := H3.out; omega)
          go_quiet (fail)
          go_wp2_with fail
          go_ret
          exact ⟨rfl, _, World.drewN_drewN _ _ _⟩
        · have H2 := Lib.hid h2
          go_wp2_with fail
          have hd2 : decide ((r : Int) < 273) = false := decide_eq_false (by have := H2.out; omega)
          go_quiet (fail)
          go_wp2_with fail
          go_ret
          exact ⟨rfl, _, World.drewN_drewN _ _ _⟩
      · have H1 := Lib.hid h1
        go_wp2_with fail
        have hd1 : decide ((r : Int) < most) = false := decide_eq_false (by have := H1.out; omega)
        go_quiet (fail)
        go_wp2_with fail
        go_ret
        exact ⟨rfl, _, World.drewN_drewN _ _ _⟩
end Go.Proofs.Ytllhmgnhnbnbiaa
