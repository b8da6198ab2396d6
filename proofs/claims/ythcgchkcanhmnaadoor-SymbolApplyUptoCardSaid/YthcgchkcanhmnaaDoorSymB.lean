
/-
  symbol.Apply as a whole: what it answers is the plain function's answer. Conditions: the window as Win says; the tables as Laid says; so many bytes that they can be counted.
-/
import Derived.Test.YthcgchkcanhmnaaDoorSymC
namespace Go.Proofs.YthcgchkcanhmnaaDoor
open Go.RowKit

theorem rep_at0 {s : St} {i : Int} (h : i = 0) : s.rep i = s.a := by unfold St.rep; rw [if_pos h]
theorem rep_at1 {s : St} {i : Int} (h : i = 1) : s.rep i = s.b := by unfold St.rep; rw [if_neg (by omega), if_pos h]
theorem rep_at2 {s : St} {i : Int} (h : i = 2) : s.rep i = s.c := by unfold St.rep; rw [if_neg (by omega), if_neg (by omega), if_pos h]
theorem rep_at3 {s : St} {i : Int} (h : i = 3) : s.rep i = s.d := by unfold St.rep; rw [if_neg (by omega), if_neg (by omega), if_neg (by omega)]
theorem apB_len (size : Nat) (all : List UInt8) (s : St) (y : Sy) : (apB size all s y).length ≤ 273 := by
  unfold apB
  split
  · rename_i h
    have hn : nextE s y = 0 := by
      unfold apE at h
      split at h
      · assumption
      · exact h
    split
    · simp
    · rw [List.length_drop, ext_length]
      have := formedN_zero (nextE_zero hn).2
      unfold lenOf
      split
      · rename_i hk
        have hl : isL y.l := by
          rcases this with h1 | h1 | h1 | h1
          · omega
          · omega
          · exact h1.2.1
          · exact h1.2.1
        unfold isL at hl
        omega
      · simp
  · simp
/-- Apply of every symbol, behind every state, on every window -/
theorem Apply_any (B b size : Nat) (r : Option Nat) (all : List UInt8) (s : St) (y : Sy) (w : World) (h : Win w B b r size all) (hl : Laid w) (hlen : all.length < 4611686018427380000) :
    Calls Tryd.prog 12 #[.pointer (some ⟨b, 0, none⟩), s.v, y.v] w (ApPost size B b r all (apB size all s y) (apS size all s y) (apE size all s y) w) := by
  by_cases he : nextE s y = 0
  · obtain ⟨hR, hF⟩ := nextE_zero he
    have hE : apE size all s y = (if y.k = 1 then 0 else if 1 ≤ distOf s y ∧ distOf s y ≤ full size all then 0 else 7) := if_pos he
    rcases formedN_zero hF with k1 | k4 | ⟨k2, hL, hX⟩ | ⟨k3, hL, hX⟩
    · have e0 : apE size all s y = 0 := by rw [hE, if_pos k1]
      have e1 : apB size all s y = [y.y] := by unfold apB; rw [if_pos e0, if_pos k1]
      have e2 : apS size all s y = nextS s y := by unfold apS; rw [if_pos e0]
      rw [e0, e1, e2]
      exact Apply_lit B b size r all s y w h hl he k1 (by omega)
    · have hd : distOf s y = s.a := by unfold distOf; rw [if_neg (by omega), if_neg (by omega)]
      have hn : lenOf y = 1 := by unfold lenOf; rw [if_neg (by omega)]
      by_cases hin : 1 ≤ s.a ∧ s.a ≤ full size all
      · have e0 : apE size all s y = 0 := by rw [hE, if_neg (by omega), hd, if_pos hin]
        have e1 : apB size all s y = (ext (s.a).toNat 1 all).drop all.length := by unfold apB; rw [if_pos e0, if_neg (by omega), hd, hn]; rfl
        have e2 : apS size all s y = nextS s y := by unfold apS; rw [if_pos e0]
        rw [e0, e1, e2]
        exact Apply_short B b size r all s y w h hl he k4 (s.a).toNat (by omega) (by omega) (by omega) hlen
      · have e0 : apE size all s y = 7 := by rw [hE, if_neg (by omega), hd, if_neg hin]
        have e1 : apB size all s y = [] := by unfold apB; rw [if_neg (by omega)]
        have e2 : apS size all s y = St.zero := by unfold apS; rw [if_neg (by omega)]
        rw [e0, e1, e2]
        exact Apply_short_no B b size r all s y w h hl he k4 (fun h => hin ⟨h.1, h.2.1⟩)
    · have hd : distOf s y = y.x := by unfold distOf; rw [if_pos k2]
      have hn : lenOf y = y.l := by unfold lenOf; rw [if_pos (.inl k2)]
      unfold isL at hL
      by_cases hin : 1 ≤ y.x ∧ y.x ≤ full size all
      · have e0 : apE size all s y = 0 := by rw [hE, if_neg (by omega), hd, if_pos hin]
        have e1 : apB size all s y = (ext (y.x).toNat (y.l).toNat all).drop all.length := by unfold apB; rw [if_pos e0, if_neg (by omega), hd, hn]
        have e2 : apS size all s y = nextS s y := by unfold apS; rw [if_pos e0]
        rw [e0, e1, e2]
        exact Apply_match B b size r all s y w h hl he k2 (y.x).toNat (y.l).toNat (by omega) (by omega) (by omega) (by omega) (by omega) hlen
      · have e0 : apE size all s y = 7 := by rw [hE, if_neg (by omega), hd, if_neg hin]
        have e1 : apB size all s y = [] := by unfold apB; rw [if_neg (by omega)]
        have e2 : apS size all s y = St.zero := by unfold apS; rw [if_neg (by omega)]
        rw [e0, e1, e2]
        exact Apply_match_no B b size r all s y w h hl he k2 (fun h => hin ⟨h.1, h.2.1⟩)
    · have hd : distOf s y = s.rep y.x := by unfold distOf; rw [if_neg (by omega), if_pos k3]
      have hn : lenOf y = y.l := by unfold lenOf; rw [if_pos (.inr k3)]
      unfold isL at hL
      have hx4 : y.x = 0 ∨ y.x = 1 ∨ y.x = 2 ∨ y.x = 3 := by unfold repOk at hX; omega
      by_cases hin : 1 ≤ s.rep y.x ∧ s.rep y.x ≤ full size all
      · have e0 : apE size all s y = 0 := by rw [hE, if_neg (by omega), hd, if_pos hin]
        have e1 : apB size all s y = (ext (s.rep y.x).toNat (y.l).toNat all).drop all.length := by unfold apB; rw [if_pos e0, if_neg (by omega), hd, hn]
        have e2 : apS size all s y = nextS s y := by unfold apS; rw [if_pos e0]
        rw [e0, e1, e2]
        rcases hx4 with hx | hx | hx | hx
        · rw [rep_at0 hx] at hin ⊢
          exact Apply_rep0 B b size r all s y w h hl he k3 hx (s.a).toNat (y.l).toNat (by omega) (by omega) (by omega) (by omega) (by omega) hlen
        · rw [rep_at1 hx] at hin ⊢
          exact Apply_rep1 B b size r all s y w h hl he k3 hx (s.b).toNat (y.l).toNat (by omega) (by omega) (by omega) (by omega) (by omega) hlen
        · rw [rep_at2 hx] at hin ⊢
          exact Apply_rep2 B b size r all s y w h hl he k3 hx (s.c).toNat (y.l).toNat (by omega) (by omega) (by omega) (by omega) (by omega) hlen
        · rw [rep_at3 hx] at hin ⊢
          exact Apply_rep3 B b size r all s y w h hl he k3 hx (s.d).toNat (y.l).toNat (by omega) (by omega) (by omega) (by omega) (by omega) hlen
      · have e0 : apE size all s y = 7 := by rw [hE, if_neg (by omega), hd, if_neg hin]
        have e1 : apB size all s y = [] := by unfold apB; rw [if_neg (by omega)]
        have e2 : apS size all s y = St.zero := by unfold apS; rw [if_neg (by omega)]
        rw [e0, e1, e2]
        rcases hx4 with hx | hx | hx | hx
        · rw [rep_at0 hx] at hin
          exact Apply_rep0_no B b size r all s y w h hl he k3 hx (fun h => hin ⟨h.1, h.2.1⟩)
        · rw [rep_at1 hx] at hin
          exact Apply_rep1_no B b size r all s y w h hl he k3 hx (fun h => hin ⟨h.1, h.2.1⟩)
        · rw [rep_at2 hx] at hin
          exact Apply_rep2_no B b size r all s y w h hl he k3 hx (fun h => hin ⟨h.1, h.2.1⟩)
        · rw [rep_at3 hx] at hin
          exact Apply_rep3_no B b size r all s y w h hl he k3 hx (fun h => hin ⟨h.1, h.2.1⟩)
  · have e0 : apE size all s y = nextE s y := if_neg he
    have e1 : apB size all s y = [] := by unfold apB; rw [if_neg (by rw [e0]; exact he)]
    have e2 : apS size all s y = St.zero := by unfold apS; rw [if_neg (by rw [e0]; exact he)]
    rw [e0, e1, e2]
    exact Apply_bad B b size r all s y w h hl he
/-- the same, all spelled out -/
def ApP (size B b : Nat) (r : Option Nat) (all bs : List UInt8) (t : St) (f : Int) (w : World) (en : Ending) (w' : World) : Prop :=
  ∃ A c r', en = .returned (.tuple #[.slice A bs.length c, .agg (stC t.n t.a t.b t.c t.d), .int .i64 f]) ∧ Win w' B b r' size (all ++ bs) ∧ w'.ownsRow w.heap.size 5 1 (.slice A bs.length c) bs.length (bys bs) ∧
    Fr (fun k => k = b ∨ some k = r) w w' ∧ (∀ g, r' = some g → r = some g ∨ w.heap.size ≤ g) ∧ (∀ g, (Value.slice A bs.length c).ownBlock = some g → r' ≠ some g)
theorem Apply_sp (B b size : Nat) (r : Option Nat) (all : List UInt8) (n a b' c d k l x : Int) (z : UInt8) (w : World) (h : Win w B b r size all) (hl : Laid w) (hlen : all.length < 4611686018427380000) :
    Calls Tryd.prog 12 #[.pointer (some ⟨b, 0, none⟩), .agg #[.int .i64 n, .int .i64 a, .int .i64 b', .int .i64 c, .int .i64 d], .agg #[.int .i64 k, .int .u8 (z.toNat : Int), .int .i64 l, .int .i64 x]] w (ApP size B b r all (apB size all ⟨n, a, b', c, d⟩ ⟨k, z, l, x⟩) (apS size all ⟨n, a, b', c, d⟩ ⟨k, z, l, x⟩) (apE size all ⟨n, a, b', c, d⟩ ⟨k, z, l, x⟩) w) :=
  Apply_any B b size r all ⟨n, a, b', c, d⟩ ⟨k, z, l, x⟩ w h hl hlen
end Go.Proofs.YthcgchkcanhmnaaDoor
