/-
  A piece in memory; walks of newPiece, most, run, right, size, match. Conditions: the piece lies in memory, numbers that can be counted.
-/
import Derived.Test.YthlflcnpmabmbaaDoorFiPln
import Derived.Test.YthlflcnpmabmbaaDoorFiTail
import Derived.Test.YthlflcnpmabmbaaDoorPaPr
namespace Go.Proofs.YthlflcnpmabmbaaDoor
open Go.RowKit Go.Shelf
attribute [local go_sem] Oper.semAt_some
set_option maxRecDepth 100000

/-- a piece: its finder, its block, the data it was made of -/
structure Pc where
  q : FP
  cb : Nat
  A : Option Addr
  m : Nat
  c : Nat
  l : List UInt8
  hi : Nat
  dict : Int
structure PIn (x : Pc) (pos : Nat) (w : World) : Prop where
  b : Blk w x.cb 84 #[.slice x.A x.m x.c, .int .i64 x.hi, .int .i64 x.dict, .pointer (some ⟨x.q.fb, 0, none⟩)]
  d : In w x.A x.m x.l
  f : Fi x.q pos w
  ql : x.q.l = x.l
  qd : x.q.dict = x.dict
  or1 : x.q.T ≤ x.cb
  le : x.hi ≤ x.m ∧ x.m ≤ x.c ∧ x.m ≤ 1073741824
  di : 1 ≤ x.dict ∧ x.dict ≤ 4294967295
  ad : 0 < x.m → ∀ ad, x.A = some ad → ad.block < x.q.L
section
variable {x : Pc} {pos : Nat} {w w' : World}
theorem PIn.len (h : PIn x pos w) : x.l.length = x.m := h.d.len
theorem PIn.below (h : PIn x pos w) (hb : Below w.heap.size w w') : PIn x pos w' :=
  ⟨h.b.below hb, h.d.below hb, h.f.below hb, h.ql, h.qd, h.or1, h.le, h.di, h.ad⟩
theorem PIn.drewN (h : PIn x pos w) (k : Nat) : PIn x pos (w.drewN k) := h.below (below_drewN (Below.refl _ _) k)
theorem PIn.fr {S : Nat → Prop} (h : PIn x pos w) (hf : Fr S w w') (hS : ∀ g, g ≤ x.cb → ¬ S g) : PIn x pos w' := by
  have hL := h.f.fs
  have hor := h.or1
  exact ⟨h.b.fr hf (hS _ (Nat.le_refl _)), h.d.fr hf (fun h0 ad had => hS _ (by have := h.ad h0 ad had; omega)), h.f.fr hf (fun g _ hg => hS g (by omega)), h.ql, h.qd, h.or1, h.le, h.di, h.ad⟩
theorem PIn.skip {pos' : Nat} (h : PIn x pos w) (hf : Fr (fun g => g = x.q.fb) w w') (hF : Fi x.q pos' w') : PIn x pos' w' := by
  have hL := h.f.fs
  have hor := h.or1
  exact ⟨h.b.fr hf (by omega), h.d.fr hf (fun h0 ad had e => by have := h.ad h0 ad had; omega), hF, h.ql, h.qd, h.or1, h.le, h.di, h.ad⟩
end
theorem Blk.four_f {w : World} {g : Nat} {t : TypeId} {x y z u : Value} (h : Blk w g t #[x, y, z, u]) : w.frozen? ⟨g, 0, none⟩ = false ∧ w.frozen? ⟨g, 1, none⟩ = false ∧ w.frozen? ⟨g, 2, none⟩ = false ∧ w.frozen? ⟨g, 3, none⟩ = false := ⟨h.frozen 0, h.frozen 1, h.frozen 2, h.frozen 3⟩
/-- how many bytes a symbol at p can have -/
def pmost (hi p : Nat) : Nat := min 273 (hi - p)
def runP (l : List UInt8) (hi : Nat) (dict : Int) (p : Nat) (d : Int) : Nat := if 1 ≤ d ∧ d ≤ (p : Int) ∧ d ≤ dict then ext l (p - d.toNat) p (pmost hi p) else 0
theorem runP_le (l : List UInt8) (hi : Nat) (dict : Int) (p : Nat) (d : Int) : runP l hi dict p d ≤ pmost hi p := by
  unfold runP
  split
  · exact ext_le _ _ _ _
  · exact Nat.zero_le _
/-- what 'most' and 'run' look at of a piece (its finder may be none) -/
structure PRn (x : Pc) (v : Value) (w : World) : Prop where
  b : Blk w x.cb 84 #[.slice x.A x.m x.c, .int .i64 x.hi, .int .i64 x.dict, v]
  d : In w x.A x.m x.l
  le : x.hi ≤ x.m ∧ x.m ≤ x.c ∧ x.m ≤ 1073741824
theorem PIn.rn {x : Pc} {pos : Nat} {w : World} (h : PIn x pos w) : PRn x (.pointer (some ⟨x.q.fb, 0, none⟩)) w := ⟨h.b, h.d, h.le⟩
theorem PRn.below {x : Pc} {v : Value} {w w' : World} (h : PRn x v w) (hb : Below w.heap.size w w') : PRn x v w' := ⟨h.b.below hb, h.d.below hb, h.le⟩
theorem most_rn (x : Pc) (v : Value) (p : Nat) (w : World) (h : PRn x v w) (hp : p ≤ x.hi) :
    Calls Tryd.prog 66 #[.pointer (some ⟨x.cb, 0, none⟩), .int .i64 p] w fun e w' => e = .returned (.int .i64 (pmost x.hi p)) ∧ w = w' := by
  have c1 : w.cell? ⟨x.cb, 1, none⟩ = some (.int .i64 x.hi) := h.b.cell 1
  have hto : x.hi ≤ 1073741824 := by have := h.le; omega
  obtain ⟨r, hr⟩ : ∃ r, pmost x.hi p = r := ⟨_, rfl⟩
  rw [hr]
  unfold pmost at hr
  have hmn : min (273 : Int) ((x.hi : Int) - (p : Int)) = (r : Int) := by omega
  clear hr h
  go_enter Tryd.func66, Tryd.ntmps66
  go_wp2_with fail
  go_ret
  first | exact ⟨rfl, rfl⟩ | exact ⟨by rw [hmn], rfl⟩
theorem most_any (x : Pc) (pos p : Nat) (w : World) (h : PIn x pos w) (hp : p ≤ x.hi) :
    Calls Tryd.prog 66 #[.pointer (some ⟨x.cb, 0, none⟩), .int .i64 p] w fun e w' => e = .returned (.int .i64 (pmost x.hi p)) ∧ w = w' := most_rn x _ p w h.rn hp
theorem size_any (k l d : Int) (z : UInt8) (w : World) : Calls Tryd.prog 43 #[.agg #[.int .i64 k, .int .u8 (z.toNat : Int), .int .i64 l, .int .i64 d]] w fun e w' => e = .returned (.int .i64 (max 1 l)) ∧ Below w.heap.size w w' := by
  have hb : Below w.heap.size w (w.alloc (.cells #[.int .i64 k, .int .u8 (z.toNat : Int), .int .i64 l, .int .i64 d] 24)) := (Below.refl _ _).alloc (Nat.le_refl _) _
  go_enter Tryd.func43, Tryd.ntmps43
  go_wp2_with fail
  go_ret
  exact ⟨rfl, hb⟩
theorem match_any (n d : Int) (w : World) : Calls Tryd.prog 68 #[.int .i64 n, .int .i64 d] w fun e w' => e = .returned (.agg #[.int .i64 2, .int .u8 0, .int .i64 n, .int .i64 d]) ∧ Below w.heap.size w w' := by
  go_enter Tryd.func68, Tryd.ntmps68
  go_wp2_with fail
  exact bodyPost_ret (v := .agg #[.int .i64 2, .int .u8 0, .int .i64 n, .int .i64 d]) (by simp [results, Tryd.results68, go_sem]) rfl ⟨rfl, (Below.refl _ _).alloc (Nat.le_refl _) _⟩
theorem prun_no (x : Pc) (v : Value) (p : Nat) (d : Int) (w : World) (h : PRn x v w) (_hp : p ≤ x.hi) (hd : ¬ (1 ≤ d ∧ d ≤ (p : Int) ∧ d ≤ x.dict)) :
    Calls Tryd.prog 67 #[.pointer (some ⟨x.cb, 0, none⟩), .int .i64 p, .int .i64 d] w fun e w' => e = .returned (.int .i64 0) ∧ w' = w := by
  have c2 : w.cell? ⟨x.cb, 2, none⟩ = some (.int .i64 x.dict) := h.b.cell 2
  clear h
  have hc : d < 1 ∨ (1 ≤ d ∧ (p : Int) < d) ∨ (1 ≤ d ∧ d ≤ (p : Int) ∧ x.dict < d) := by omega
  rcases hc with h1 | ⟨h1, h2⟩ | ⟨h1, h2, h3⟩
  · go_enter Tryd.func67, Tryd.ntmps67
    go_wp2_with fail
    go_ret
    exact ⟨rfl, rfl⟩
  · go_enter Tryd.func67, Tryd.ntmps67
    go_wp2_with fail
    go_ret
    exact ⟨rfl, rfl⟩
  · go_enter Tryd.func67, Tryd.ntmps67
    go_wp2_with fail
    go_ret
    exact ⟨rfl, rfl⟩
theorem prun_yes (x : Pc) (v : Value) (p d : Nat) (w : World) (h : PRn x v w) (hp : p ≤ x.hi) (h1 : 1 ≤ d) (h2 : d ≤ p) (h3 : (d : Int) ≤ x.dict) :
    Calls Tryd.prog 67 #[.pointer (some ⟨x.cb, 0, none⟩), .int .i64 p, .int .i64 d] w fun e w' => e = .returned (.int .i64 (ext x.l (p - d) p (pmost x.hi p))) ∧ ∃ k, w' = w.drewN k := by
  have c0 : w.cell? ⟨x.cb, 0, none⟩ = some (.slice x.A x.m x.c) := h.b.cell 0
  have c2 : w.cell? ⟨x.cb, 2, none⟩ = some (.int .i64 x.dict) := h.b.cell 2
  obtain ⟨hle, hcap, hmx⟩ := h.le
  have HI := Lib.hid h.d
  have HM := Lib.hid (most_rn x v p w h hp)
  obtain ⟨M, hM⟩ : ∃ M, pmost x.hi p = M := ⟨_, rfl⟩
  have hpm : p + M ≤ x.hi := by rw [← hM]; unfold pmost; omega
  rw [hM] at HM ⊢
  have H0 : Hid (∀ j, j < 0 → x.l.getD (p - d + j) 0 = x.l.getD (p + j) 0) := fun j hj => absurd hj (Nat.not_lt_zero j)
  obtain ⟨r, hr⟩ : ∃ r, ext x.l (p - d) p M = r := ⟨_, rfl⟩
  have Hr := Lib.hid hr
  rw [hr]
  have hd1 : (1 : Int) ≤ (d : Int) := by omega
  have hd2 : (d : Int) ≤ (p : Int) := by omega
  have hd3 : (d : Int) ≤ x.dict := h3
  clear h hr hM
  go_enter Tryd.func67, Tryd.ntmps67
  go_wp2_with fail
  refine HM.out.mono ?_
  rintro e w' ⟨rfl, rfl⟩
  go_wp2_with fail
  go_loopw [7] (fun s7 wr => ∃ (k : Nat), s7 = .int .i64 (k : Int) ∧ k ≤ M ∧ Hid ((∃ n, wr = w.drewN n) ∧ ∀ j, j < k → x.l.getD (p - d + j) 0 = x.l.getD (p + j) 0)) (fun s7 _ => M - (intOf s7).toNat)
  case atStart => exact ⟨0, rfl, Nat.zero_le _, ⟨0, rfl⟩, H0.out⟩
  case round =>
    clear H0
    obtain ⟨k, rfl, hk, HR⟩ := hrel
    obtain ⟨⟨n0, rfl⟩, hj⟩ := HR.out
    have Hj := Lib.hid hj
    clear hj HR
    by_cases hlt : k < M
    · have hlt' : (k : Int) < (M : Int) := by omega
      obtain ⟨ad, hA, z1⟩ := HI.out.at_ (j := p - d + k) (by omega)
      obtain ⟨ad', hA', z2⟩ := HI.out.at_ (j := p + k) (by omega)
      rw [hA] at hA'
      obtain rfl : ad = ad' := Option.some.inj hA'
      rw [hA] at c0
      clear hA'
      have z0 : (w.drewN n0).cell? ⟨x.cb, 0, none⟩ = some (.slice (some ad) x.m x.c) := c0
      obtain ⟨y1, hx⟩ : ∃ y1, x.l.getD (p - d + k) 0 = y1 := ⟨_, rfl⟩
      obtain ⟨y2, hy⟩ : ∃ y2, x.l.getD (p + k) 0 = y2 := ⟨_, rfl⟩
      rw [hx] at z1
      rw [hy] at z2
      have hq1 : ((p : Int) + (k : Int) - (d : Int)).toNat = p - d + k := by omega
      have hp1 : ((p : Int) + (k : Int)).toNat = p + k := by omega
      have hb1 : (p : Int) + (k : Int) - (d : Int) < (x.m : Int) := by omega
      have hb0 : (0 : Int) ≤ (p : Int) + (k : Int) - (d : Int) := by omega
      have hb2 : (p : Int) + (k : Int) < (x.m : Int) := by omega
      by_cases he : y1 = y2
      · have he' : ((y2.toNat : Int) == (y1.toNat : Int)) = true := by subst he; simp
        have HN : Hid (∀ j, j < k + 1 → x.l.getD (p - d + j) 0 = x.l.getD (p + j) 0) := fun j hj => by
          rcases (by omega : j < k ∨ j = k) with h | h
          · exact Hj.out j h
          · subst h; rw [hx, hy, he]
        have Hx := Lib.hid hx
        have Hy := Lib.hid hy
        have He := Lib.hid he
        clear hx hy he
        go_wp2_with fail
        go_quiet (fail)
        go_wp2_with fail
        go_roundw
        case rel => exact ⟨k + 1, by go_num, by omega, ⟨_, rfl⟩, HN.out⟩
        case measure => simp [intOf]; omega
      · have he' : ((y2.toNat : Int) == (y1.toNat : Int)) = false := beq_eq_false_iff_ne.2 (fun e => he (UInt8.toNat_inj.1 (by omega)))
        have hrk : r = k := by rw [← Hr.out]; exact ext_stop (by omega) Hj.out (.inr (by rw [hx, hy]; exact he))
        subst hrk
        have Hx := Lib.hid hx
        have Hy := Lib.hid hy
        have He := Lib.hid he
        clear hx hy he
        go_wp2_with fail
        go_quiet (fail)
        go_wp2_with fail
        go_ret
        exact ⟨rfl, _, World.drewN_drewN _ _ _⟩
    · obtain rfl : k = M := by omega
      have hge : ¬ (k : Int) < (k : Int) := by omega
      have hrk : r = k := by rw [← Hr.out]; exact ext_stop (by omega) Hj.out (.inl rfl)
      subst hrk
      go_wp2_with fail
      go_quiet (fail)
      go_wp2_with fail
      go_ret
      exact ⟨rfl, _, World.drewN_drewN _ _ _⟩
theorem prun_rn (x : Pc) (v : Value) (p : Nat) (d : Int) (w : World) (h : PRn x v w) (hp : p ≤ x.hi) :
    Calls Tryd.prog 67 #[.pointer (some ⟨x.cb, 0, none⟩), .int .i64 p, .int .i64 d] w fun e w' => e = .returned (.int .i64 (runP x.l x.hi x.dict p d)) ∧ ∃ k, w' = w.drewN k := by
  unfold runP
  by_cases hd : 1 ≤ d ∧ d ≤ (p : Int) ∧ d ≤ x.dict
  · rw [if_pos hd]
    obtain ⟨n, rfl⟩ : ∃ n : Nat, d = (n : Int) := ⟨d.toNat, by omega⟩
    rw [Int.toNat_natCast]
    exact prun_yes x v p n w h hp (by omega) (by omega) hd.2.2
  · rw [if_neg hd]
    refine (prun_no x v p d w h hp hd).mono ?_
    rintro e w' ⟨rfl, rfl⟩
    exact ⟨rfl, 0, rfl⟩
theorem prun_any (x : Pc) (pos p : Nat) (d : Int) (w : World) (h : PIn x pos w) (hp : p ≤ x.hi) :
    Calls Tryd.prog 67 #[.pointer (some ⟨x.cb, 0, none⟩), .int .i64 p, .int .i64 d] w fun e w' => e = .returned (.int .i64 (runP x.l x.hi x.dict p d)) ∧ ∃ k, w' = w.drewN k := prun_rn x _ p d w h.rn hp
/-- newPiece: the piece, its finder at 'from' -/
theorem newPiece_ok (A : Option Addr) (m c : Nat) (l : List UInt8) (fr hi : Nat) (dict : Int) (w : World) (h : In w A m l) (h0 : m = 0 → A = none ∧ c = 0 ∨ ∃ a, A = some a) (hmc : m ≤ c) (hm : m ≤ 1073741824) (h1 : fr ≤ hi) (h2 : hi ≤ m) (hd : 1 ≤ dict ∧ dict ≤ 4294967295) :
    Calls Tryd.prog 40 #[.slice A m c, .int .i64 fr, .int .i64 hi, .int .i64 dict] w fun e w' => ∃ x : Pc, e = .returned (.tuple #[.pointer (some ⟨x.cb, 0, none⟩), .int .i64 0]) ∧ x.A = A ∧ x.m = m ∧ x.c = c ∧ x.l = l ∧ x.hi = hi ∧ x.dict = dict ∧ w.heap.size ≤ x.q.L ∧ x.cb < w'.heap.size ∧ PIn x fr w' ∧ Below w.heap.size w w' := by
  have HN := Lib.hid (New_ok A m c l dict w h h0 hmc hm hd)
  have HI := Lib.hid h
  have h1' : (fr : Int) ≤ (hi : Int) := by omega
  have h2' : (hi : Int) ≤ (m : Int) := by omega
  clear h h0
  go_enter Tryd.func40, Tryd.ntmps40
  go_wp2_with fail
  refine HN.out.mono ?_
  rintro e w1 ⟨q, rfl, hl, hdc, hL, hT, hF, hb1⟩
  have Hl := Lib.hid hl
  have Hd := Lib.hid hdc
  have HF := Lib.hid (And.intro hF (And.intro hL (And.intro hT hb1)))
  clear hl hdc hL hT hF hb1 HN
  go_wp2_with fail
  obtain ⟨cb, hcb⟩ : ∃ cb, w1.heap.size = cb := ⟨_, rfl⟩
  obtain ⟨w2, hw2⟩ : ∃ w2, w1.alloc (.cells #[.slice A m c, .int .i64 hi, .int .i64 dict, .pointer (some ⟨q.fb, 0, none⟩)] 84) = w2 := ⟨_, rfl⟩
  have hb2 : Below w1.heap.size w1 w2 := by rw [← hw2]; exact (Below.refl _ _).alloc (Nat.le_refl _) _
  have hB : Blk w2 cb 84 #[.slice A m c, .int .i64 hi, .int .i64 dict, .pointer (some ⟨q.fb, 0, none⟩)] := by rw [← hw2]; exact Blk.new_at hcb.symm
  rw [hw2, hcb]
  have HB := Lib.hid (And.intro hB (And.intro hb2 hcb))
  have HS := Lib.hid (Skip_go q 0 fr w2 (HF.out.1.below hb2) (by rw [Hl.out, HI.out.len]; omega) (by rw [Hl.out, HI.out.len]; omega))
  clear hw2 hcb hB hb2
  refine HS.out.mono ?_
  rintro e w3 ⟨rfl, hF3, hr3⟩
  have HF3 := Lib.hid hF3
  have Hr3 := Lib.hid hr3
  clear hF3 hr3 HS
  go_wp2_with fail
  go_ret2
  have hF3 := HF3.out
  rw [Nat.zero_add] at hF3
  obtain ⟨hF, hL, hT, hb1⟩ := HF.out
  obtain ⟨hB, hb2, hcb⟩ := HB.out
  have hfs := hF.fs
  have hb12 : Below w.heap.size w w2 := bup hb1 hb2
  have hb13 : Below w.heap.size w w3 := hb12.trans (Hr3.out.below hb12.size (fun k e => by omega))
  have hne : ¬ (cb = q.fb) := by omega
  refine ⟨⟨q, cb, A, m, c, l, hi, dict⟩, rfl, rfl, rfl, rfl, rfl, rfl, rfl, by show w.heap.size ≤ q.L; omega, (hB.fr Hr3.out hne).lt, ⟨hB.fr Hr3.out hne, HI.out.below hb13, hF3, Hl.out, Hd.out, by show q.T ≤ cb; omega, ⟨h2, hmc, hm⟩, hd, fun h0 ad had => by have := HI.out.2.1 h0 ad had; show ad.block < q.L; omega⟩, hb13⟩
theorem newPiece_range (A : Option Addr) (m c : Nat) (fr hi dict : Int) (w : World) (h : fr < 0 ∨ hi < fr ∨ (m : Int) < hi) :
    Calls Tryd.prog 40 #[.slice A m c, .int .i64 fr, .int .i64 hi, .int .i64 dict] w fun e w' => e = .returned (.tuple #[.pointer none, .int .i64 7]) ∧ w' = w := by
  have hc : fr < 0 ∨ (0 ≤ fr ∧ hi < fr) ∨ (0 ≤ fr ∧ fr ≤ hi ∧ (m : Int) < hi) := by omega
  rcases hc with h1 | ⟨h1, h2⟩ | ⟨h1, h2, h3⟩
  · go_enter Tryd.func40, Tryd.ntmps40
    go_wp2_with fail
    go_ret2
    exact ⟨rfl, rfl⟩
  · go_enter Tryd.func40, Tryd.ntmps40
    go_wp2_with fail
    go_ret2
    exact ⟨rfl, rfl⟩
  · go_enter Tryd.func40, Tryd.ntmps40
    go_wp2_with fail
    go_ret2
    exact ⟨rfl, rfl⟩
theorem newPiece_dict (A : Option Addr) (m c : Nat) (fr hi dict : Int) (w : World) (h : 0 ≤ fr ∧ fr ≤ hi ∧ hi ≤ (m : Int)) (hd : dict < 1 ∨ 4294967295 < dict) :
    Calls Tryd.prog 40 #[.slice A m c, .int .i64 fr, .int .i64 hi, .int .i64 dict] w fun e w' => e = .returned (.tuple #[.pointer none, .int .i64 6]) ∧ w' = w := by
  have HN := Lib.hid (New_no A m c dict w hd)
  obtain ⟨h1, h2, h3⟩ := h
  clear hd
  go_enter Tryd.func40, Tryd.ntmps40
  go_wp2_with fail
  refine HN.out.mono ?_
  rintro e w' ⟨rfl, rfl⟩
  go_wp2_with fail
  go_ret2
  exact ⟨rfl, rfl⟩
theorem pright_any (s : St) (w : World) (hl : Laid w) : Calls Tryd.prog 41 #[s.v] w fun e w' => e = .returned (.int .i64 (if s.right then 0 else 7)) ∧ Below w.heap.size w w' := by
  have hn := Next_p s ⟨1, 0, 0, 0⟩
  have he : nextE s ⟨1, 0, 0, 0⟩ = if s.right then 0 else 7 := rfl
  rw [he] at hn
  obtain ⟨E, hE⟩ : ∃ E : Int, (if s.right then (0 : Int) else 7) = E := ⟨_, rfl⟩
  rw [hE] at hn ⊢
  obtain ⟨t, ht⟩ : ∃ t, nextS s ⟨1, 0, 0, 0⟩ = t := ⟨_, rfl⟩
  rw [ht] at hn
  clear ht hE he
  obtain ⟨n', a', b', c', d'⟩ := t
  obtain ⟨n, a, b, c, d⟩ := s
  unfold St.v Sy.v Sy.cs stC at hn
  unfold St.v stC
  simp only [] at hn ⊢
  have Hn := Lib.hid hn
  have HL := Lib.hid hl
  clear hn hl
  go_enter Tryd.func41, Tryd.ntmps41
  go_wp2_with fail
  have hb0 : Below w.heap.size w (w.alloc (.cells #[.int .i64 n, .int .i64 a, .int .i64 b, .int .i64 c, .int .i64 d] 37)) := (Below.refl _ _).alloc (Nat.le_refl _) _
  refine (Hn.out _ (HL.out.below hb0)).mono ?_
  rintro e w1 ⟨rfl, hb1⟩
  have Hb := Lib.hid (bup hb0 hb1)
  clear hb0 hb1 Hn HL
  go_wp2_with fail
  go_ret
  exact ⟨rfl, bmk Hb.out _⟩
end Go.Proofs.YthlflcnpmabmbaaDoor
