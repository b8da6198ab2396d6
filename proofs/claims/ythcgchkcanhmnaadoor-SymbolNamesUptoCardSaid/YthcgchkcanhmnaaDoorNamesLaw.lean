
/-
  Walk: the law SymbolNames returns true; nothing that was there is written. Conditions: the symbols lie in memory and are at most 1048576; the tables as Laid says.
-/
import Derived.Test.YthcgchkcanhmnaaDoorNamesP
import Derived.Test.YthcgchkcanhmnaaDoorGreaterLaw
namespace Go.Proofs.YthcgchkcanhmnaaDoor
open Go.RowKit

/-- in the midst of the loop: the state, what is told plainly so far -/
structure NmRel (w0 wr : World) (S : Nat) (s : St) (P : Option Addr) (pc : Nat) (pl : List Sy) : Prop where
  st : Blk wr S 39 (stC s.n s.a s.b s.c s.d)
  pown : wr.ownsRow w0.heap.size 38 4 (.slice P pl.length pc) pl.length (syc pl)
  below : Below w0.heap.size w0 wr
  base : w0.heap.size ≤ S
def yC (y : Sy) : Array Value := #[.int .i64 y.k, .int .u8 (y.y.toNat : Int), .int .i64 y.l, .int .i64 y.x]
theorem set4_y {w : World} {g : Nat} {y : Sy} (h : Blk w g 38 (yC y)) (k l x : Int) (z : UInt8) :
    Blk ((((w.setCell ⟨g, 0, none⟩ (.int .i64 k)).setCell ⟨g, 1, none⟩ (.int .u8 (z.toNat : Int))).setCell ⟨g, 2, none⟩ (.int .i64 l)).setCell ⟨g, 3, none⟩ (.int .i64 x)) g 38 (yC ⟨k, z, l, x⟩) :=
  (((h.set_ 0 _).set_ 1 _).set_ 2 _).set_ 3 _
theorem set4_fr (w : World) (g : Nat) (u0 u1 u2 u3 : Value) : Fr (fun k => k = g) w ((((w.setCell ⟨g, 0, none⟩ u0).setCell ⟨g, 1, none⟩ u1).setCell ⟨g, 2, none⟩ u2).setCell ⟨g, 3, none⟩ u3) :=
  ((((Fr.refl (fun k => k = g) w).setCell (p := ⟨g, 0, none⟩) (.inl rfl) u0).setCell (p := ⟨g, 1, none⟩) (.inl rfl) u1).setCell (p := ⟨g, 2, none⟩) (.inl rfl) u2).setCell (p := ⟨g, 3, none⟩) (.inl rfl) u3
/-- a change of block g alone, which is none of the loop's -/
theorem NmRel.fr {w0 wr wx : World} {S g pc : Nat} {s : St} {P : Option Addr} {pl : List Sy} (h : NmRel w0 wr S s P pc pl) (hf : Fr (fun k => k = g) wr wx) (h1 : g ≠ S) (h2 : w0.heap.size ≤ g) (h3 : (Value.slice P pl.length pc).ownBlock ≠ some g) : NmRel w0 wx S s P pc pl :=
  ⟨h.st.fr hf (fun e => h1 e.symm), own_fr h.pown hf (fun k hk e => h3 (by rw [hk, e])), ((Fr.of_below (S := fun k => w0.heap.size ≤ k) h.below).trans' hf (fun i hi e => by omega)).below (Nat.le_refl _) (fun k hk => hk), h.base⟩
theorem NmRel.later {w0 wr wx : World} {S pc : Nat} {s : St} {P : Option Addr} {pl : List Sy} (h : NmRel w0 wr S s P pc pl) (hb : Below wr.heap.size wr wx) : NmRel w0 wx S s P pc pl :=
  ⟨h.st.below hb, own_below h.pown hb, bup h.below hb, h.base⟩
set_option maxHeartbeats 4000000 in
set_option maxRecDepth 100000 in
theorem names_law (dict : Int) (A0 : Option Addr) (m mc : Nat) (l : List Sy) (w : World) (h : InS w A0 m l) (hm : m ≤ 1048576) (hl : Laid w) :
    Calls Tryd.prog 4 #[.int .i64 dict, .slice A0 m mc] w fun e w' => e = .returned (.bool true) ∧ Below w.heap.size w w' := by
  obtain ⟨i0, hi0, hz0, hz1, hz2⟩ := info_parts infosy
  have hbd := dsz_bd dict
  have hll := h.len
  go_enter Tryd.func4, Tryd.ntmps4
  go_wp2_with fail
  refine (sz_any dict w).mono ?_
  rintro e w' ⟨rfl, rfl⟩
  obtain ⟨sz, hsz⟩ : ∃ sz, dsz dict = sz := ⟨_, rfl⟩
  rw [hsz] at hbd ⊢
  clear hsz
  have HL := Lib.hid hl
  have hr := Right_yes sz A0 m mc l w h hl (by omega) (by omega)
  have hT := rgo_tk sz l St.start [] [] .nil
  generalize rgo sz St.start [] [] l = p at hr hT
  obtain ⟨s', all, row⟩ := p
  simp only [] at hr hT
  rw [hll] at hT
  have hrl : row.length ≤ 1048576 := by have := hT.2; simp at this; omega
  have HT := Lib.hid hT.1
  clear hT hll h hl
  go_wp2_with fail
  refine hr.mono ?_
  rintro e w1 ⟨R, rc, A, c, rfl, hR1, hA1, hb1⟩
  simp only [] at hR1 hA1 ⊢
  have HR1 := Lib.hid hR1
  have HA1 := Lib.hid hA1
  have HB1 := Lib.hid hb1
  clear hr hR1 hA1 hb1
  go_wp2_with fail
  refine (known_any w1 (HL.out.below HB1.out)).mono ?_
  rintro e w2 ⟨rfl, hb2⟩
  have HR2 := Lib.hid (own_below HR1.out hb2)
  have HA2 := Lib.hid (own_below HA1.out hb2)
  have HB2 : Hid (Below w.heap.size w w2) := bup HB1.out hb2
  clear HR1 HA1 HB1 hb2
  obtain ⟨n, hn⟩ : ∃ n, row.length = n := ⟨_, rfl⟩
  obtain ⟨N, hN⟩ : ∃ N, all.length = N := ⟨_, rfl⟩
  rw [hn] at HR2 hrl ⊢
  rw [hN] at HA2 ⊢
  have Hn := Lib.hid hn
  have HN := Lib.hid hN
  have hNb : N ≤ 273 * 1048576 := by have := HT.out.len; have := sumN_le row; omega
  have hcA : N ≤ c := own_le HA2.out
  clear hn hN
  go_wp2_with fail
  refine (New_any w2).mono ?_
  rintro e w3 ⟨rfl, hb3⟩
  unfold stV
  have hR0 : NmRel w2 (w3.alloc (.cells (stC 0 1 1 1 1) 39)) w3.heap.size St.start none 0 [] := ⟨Blk.new _ _ _, World.ownsRow_nil _ _ _ _, bmk hb3 _, hb3.size⟩
  obtain ⟨S, hS⟩ : ∃ S, w3.heap.size = S := ⟨_, rfl⟩
  rw [hS] at hR0
  have H := Lib.hid hR0
  go_wp2_with fail
  clear hR0 hS hb3
  go_loopw [37, 9, 10] (fun s37 s9 s10 wr => ∃ (i : Nat) (P : Option Addr) (pc : Nat) (pl : List Sy) (s2 : St), s37 = .int .i64 (i : Int) ∧ i ≤ n ∧ s9 = .int .i64 ((rn sz (row.take i)).2.length : Int) ∧ s10 = .slice P i pc ∧ Hid (pl.length = i) ∧ Hid (Tk sz pl s2 (rn sz (row.take i)).2) ∧ Hid (NmRel w2 wr S (rn sz (row.take i)).1 P pc pl)) (fun s37 _ _ _ => n - (intOf s37).toNat)
  case atStart => exact ⟨0, none, 0, [], St.start, rfl, Nat.zero_le _, rfl, rfl, rfl, Tk.nil, H⟩
  case round =>
    clear H
    obtain ⟨i, P, pc, pl, s2, rfl, hi, rfl, rfl, HPl, HP, H⟩ := hrel
    by_cases him : i < n
    · have him' : (i : Int) < (n : Int) := by omega
      have hIS := InS.of_own (own_below HR2.out H.out.below) (by omega)
      obtain ⟨yb, yo, y, rfl, hy, hyb, y0, y1, y2, y3⟩ := hIS.at him
      rw [← Nat.add_assoc] at y1 y2 y3
      obtain ⟨he, hTi, hrn, hlen, hpre⟩ := HT.out.next hy
      obtain ⟨hzl, hszg⟩ := szN_of he
      rw [hrn] at hlen hpre
      obtain ⟨cb, hcw, hcc⟩ := whole_at (al := (rn sz (row.take i)).2) (bs := apB sz (rn sz (row.take i)).2 (rn sz (row.take i)).1 y) hpre (by rw [hzl]; exact hszg)
      obtain ⟨s3, hP3⟩ := plS_taken hTi.right he HP.out hcc
      obtain ⟨hne, hdx⟩ := apE_zero.1 he
      have hform := formedN_zero (nextE_zero hne).2
      have hszf := szF_bd y
      have hsz1 : 1 ≤ szF y := by unfold szN at hszg; omega
      have hszz : (szN y : Int) = szF y := by unfold szN; omega
      have Hrn1 : Hid ((rn sz (row.take (i + 1))).1 = nextS (rn sz (row.take i)).1 y) := by show _ = _; rw [hrn]; exact apS_eq he
      have Hrn2 : Hid ((rn sz (row.take (i + 1))).2 = (rn sz (row.take i)).2 ++ apB sz (rn sz (row.take i)).2 (rn sz (row.take i)).1 y) := by show _ = _; rw [hrn]; rfl
      have hlen2 : (rn sz (row.take i)).2.length + szN y ≤ N := by
        have h1 := hlen
        rw [HN.out] at h1
        have h2 : (rnStep sz (rn sz (row.take i)) y).2 = (rn sz (row.take i)).2 ++ apB sz (rn sz (row.take i)).2 (rn sz (row.take i)).1 y := rfl
        rw [h2, List.length_append, hzl] at h1
        exact h1
      have Hl2 : Hid ((rn sz (row.take (i + 1))).2.length = (rn sz (row.take i)).2.length + szN y) := by show _ = _; rw [Hrn2.out, List.length_append, hzl]
      have Hne := Lib.hid hne
      have HP3 := Lib.hid hP3
      obtain ⟨s, hs⟩ : ∃ s, (rn sz (row.take i)).1 = s := ⟨_, rfl⟩
      obtain ⟨al, hal⟩ : ∃ al, (rn sz (row.take i)).2 = al := ⟨_, rfl⟩
      rw [hs] at H Hrn1 Hrn2 HP3 Hne
      rw [hal] at Hrn2 Hl2 HP3 hlen2 hcw ⊢
      rw [← Hrn2.out] at HP3
      obtain ⟨at_, hat⟩ : ∃ at_, al.length = at_ := ⟨_, rfl⟩
      rw [hat] at Hl2 hlen2 hcw ⊢
      have hatN : at_ < N := by omega
      have hx4 : y.k = 3 → (y.x = 0 ∨ y.x = 1 ∨ y.x = 2 ∨ y.x = 3) := fun h3 => by
        rcases hform with h1 | h1 | h1 | h1
        · omega
        · omega
        · omega
        · have := h1.2.2; unfold repOk at this; omega
      have Hx4 := Lib.hid hx4
      have Hform := Lib.hid hform
      clear hIS hy he hTi hrn hlen hpre hzl hcc hP3 hne hdx hform hs hal hat HP Hrn2 hx4
      obtain ⟨sn, sa, sb, sc, sd⟩ := s
      obtain ⟨k, z, yl, x⟩ := y
      simp only [] at y0 y1 y2 y3
      go_upto_region 12 with (fail)
      clear y0 y1 y2 y3
      -- the world, by what is known of it
      obtain ⟨wx, hwx⟩ : ∃ wx, (wr.alloc (.cells #[.int .i64 k, .int .u8 (z.toNat : Int), .int .i64 yl, .int .i64 x] 38)).alloc (.cells #[.int .i64 k, .int .u8 (z.toNat : Int), .int .i64 yl, .int .i64 x] 38) = wx := ⟨_, rfl⟩
      have hN1 : Blk wx wr.heap.size 38 (yC ⟨k, z, yl, x⟩) := by rw [← hwx]; exact (Blk.new _ _ _).alloc _
      have hN2 : Blk wx (wr.heap.size + 1) 38 (yC ⟨k, z, yl, x⟩) := by rw [← hwx]; exact Blk.new_at (by simp)
      have hH : NmRel w2 wx S ⟨sn, sa, sb, sc, sd⟩ P pc pl := by rw [← hwx]; exact (H.out.later ((Below.refl _ _).alloc (Nat.le_refl _) _)).later ((Below.refl _ _).alloc (Nat.le_refl _) _)
      have hPb : ∀ g, (Value.slice P pl.length pc).ownBlock = some g → g < wr.heap.size := fun g hg => (own_lt H.out.pown hg).2
      have hSr : S < wr.heap.size := H.out.st.lt
      have hw2r : w2.heap.size ≤ wr.heap.size := H.out.below.size
      obtain ⟨N1, hN1e⟩ : ∃ N1, wr.heap.size = N1 := ⟨_, rfl⟩
      rw [hwx]
      rw [hN1e] at hN1 hN2 hPb hSr hw2r ⊢
      have HN1 := Lib.hid hN1
      have HN2 := Lib.hid hN2
      have H1 := Lib.hid hH
      have HPb := Lib.hid hPb
      clear hwx hN1e hH hPb H
      obtain ⟨y0, y1, y2, y3⟩ : wx.cell? ⟨N1, 0, none⟩ = some (.int .i64 k) ∧ wx.cell? ⟨N1, 1, none⟩ = some (.int .u8 (z.toNat : Int)) ∧ wx.cell? ⟨N1, 2, none⟩ = some (.int .i64 yl) ∧ wx.cell? ⟨N1, 3, none⟩ = some (.int .i64 x) := hN1.four
      clear hN1 hN2
      go_cut [54] (fun s54 wy => s54 = .bool false ∧ wx = wy)
      case first =>
        by_cases k3 : k = 3
        · subst k3
          rcases Hx4.out rfl with e | e | e | e
          all_goals
            simp only [] at e
            subst e
            go_wp2_with fail
            go_meet
            exact ⟨rfl, rfl⟩
        · have k3' : (k == 3) = false := beq_eq_false_iff_ne.2 k3
          go_wp2_with fail
          go_meet
          exact ⟨rfl, rfl⟩
      case rest =>
        obtain ⟨rfl, rfl⟩ := hcut
        go_upto_if 57 with (fail)
        go_cut [13] (fun s13 wy => s13 = .pointer (some ⟨N1 + 1, 0, none⟩) ∧ Hid (Fr (fun q => q = N1 + 1) wx wy ∧ Blk wy (N1 + 1) 38 (yC (if k = 3 then ⟨2, 0, yl, (⟨sn, sa, sb, sc, sd⟩ : St).rep x⟩ else ⟨k, z, yl, x⟩))))
        case first =>
          by_cases k3 : k = 3
          · have hx := Hx4.out k3
            simp only [] at hx
            subst k3
            obtain ⟨⟨s0, s1, s2', s3', s4⟩, _⟩ := st_five H1.out.st
            have n2 : wx.frozen? ⟨N1 + 1, 0, none⟩ = false := HN2.out.frozen 0
            have n3 : wx.frozen? ⟨N1 + 1, 1, none⟩ = false := HN2.out.frozen 1
            have n4 : wx.frozen? ⟨N1 + 1, 2, none⟩ = false := HN2.out.frozen 2
            have n5 : wx.frozen? ⟨N1 + 1, 3, none⟩ = false := HN2.out.frozen 3
            obtain ⟨c0, c1, c2, c3⟩ : wx.cell? ⟨N1 + 1, 0, none⟩ = some (.int .i64 3) ∧ wx.cell? ⟨N1 + 1, 1, none⟩ = some (.int .u8 (z.toNat : Int)) ∧ wx.cell? ⟨N1 + 1, 2, none⟩ = some (.int .i64 yl) ∧ wx.cell? ⟨N1 + 1, 3, none⟩ = some (.int .i64 x) := HN2.out.four
            have Hset := Lib.hid (set4_y HN2.out)
            rcases hx with hx | hx | hx | hx
            all_goals
              subst hx
              go_wp2_with fail
              go_region
              go_wp2_with fail
              go_meet
              exact ⟨rfl, (set4_fr _ _ _ _ _ _).drew, (Hset.out 2 yl _ 0).drew⟩
          · have k3' : (k == 3) = false := beq_eq_false_iff_ne.2 k3
            have Hk3 := Lib.hid k3
            clear k3
            go_wp2_with fail
            go_meet
            exact ⟨rfl, Fr.refl _ _, by rw [if_neg Hk3.out]; exact HN2.out⟩
        case rest =>
          obtain ⟨rfl, H2⟩ := hcut
          obtain ⟨wy, rfl⟩ : ∃ wy : World, wy = wc := ⟨_, rfl⟩
          have HNy := Lib.hid (HN1.out.fr H2.out.1 (by omega))
          have H3 := Lib.hid (H1.out.fr H2.out.1 (by omega) (by omega) (fun e => by have := HPb.out _ e; omega))
          clear y0 y1 y2 y3 H1 HN1 HN2
          obtain ⟨y0, y1, y2, y3⟩ : wy.cell? ⟨N1, 0, none⟩ = some (.int .i64 k) ∧ wy.cell? ⟨N1, 1, none⟩ = some (.int .u8 (z.toNat : Int)) ∧ wy.cell? ⟨N1, 2, none⟩ = some (.int .i64 yl) ∧ wy.cell? ⟨N1, 3, none⟩ = some (.int .i64 x) := HNy.out.four
          go_upto_if 68 with (fail)
          go_cut [13] (fun s13 wz => s13 = .pointer (some ⟨N1 + 1, 0, none⟩) ∧ Hid (Fr (fun q => q = N1 + 1) wy wz ∧ Blk wz (N1 + 1) 38 (yC (plS ⟨sn, sa, sb, sc, sd⟩ ⟨k, z, yl, x⟩ cb))))
          case first =>
            by_cases k4 : k = 4
            · subst k4
              obtain ⟨ab, ao, rfl, hca⟩ := (Rd.of_own (own_below HA2.out H3.out.below)).cells_at (by omega)
              have a0 := hca at_ cb hcw
              have n2 : wy.frozen? ⟨N1 + 1, 0, none⟩ = false := H2.out.2.frozen 0
              have n3 : wy.frozen? ⟨N1 + 1, 1, none⟩ = false := H2.out.2.frozen 1
              have n4 : wy.frozen? ⟨N1 + 1, 2, none⟩ = false := H2.out.2.frozen 2
              have n5 : wy.frozen? ⟨N1 + 1, 3, none⟩ = false := H2.out.2.frozen 3
              have h4 : Blk wy (N1 + 1) 38 (yC ⟨4, z, yl, x⟩) := H2.out.2
              obtain ⟨c0, c1, c2, c3⟩ : wy.cell? ⟨N1 + 1, 0, none⟩ = some (.int .i64 4) ∧ wy.cell? ⟨N1 + 1, 1, none⟩ = some (.int .u8 (z.toNat : Int)) ∧ wy.cell? ⟨N1 + 1, 2, none⟩ = some (.int .i64 yl) ∧ wy.cell? ⟨N1 + 1, 3, none⟩ = some (.int .i64 x) := h4.four
              have Hset := Lib.hid (set4_y h4)
              clear hca h4 hcw
              go_wp2_with fail
              go_meet
              exact ⟨rfl, set4_fr _ _ _ _ _ _, Hset.out 1 0 0 cb⟩
            · have k4' : (k == 4) = false := beq_eq_false_iff_ne.2 k4
              have Hk4 := Lib.hid k4
              clear k4 hcw
              go_wp2_with fail
              go_meet
              refine ⟨rfl, Fr.refl _ _, ?_⟩
              have h4 := H2.out.2
              unfold plS
              by_cases k3 : k = 3
              · rw [if_pos k3] at h4 ⊢; exact h4
              · rw [if_neg k3] at h4; rw [if_neg k3, if_neg Hk4.out]; exact h4
          case rest =>
            obtain ⟨rfl, H4⟩ := hcut
            obtain ⟨wz, rfl⟩ : ∃ wz : World, wz = wc := ⟨_, rfl⟩
            have HNz := Lib.hid (HNy.out.fr H4.out.1 (by omega))
            have H5 := Lib.hid (H3.out.fr H4.out.1 (by omega) (by omega) (fun e => by have := HPb.out _ e; omega))
            obtain ⟨pz, hpz⟩ : ∃ pz, plS ⟨sn, sa, sb, sc, sd⟩ ⟨k, z, yl, x⟩ cb = pz := ⟨_, rfl⟩
            have HZ := Lib.hid H4.out.2
            rw [hpz] at HZ HP3
            clear y0 y1 y2 y3 H3 HNy H2 H4 hpz
            obtain ⟨pk, py, pL, px⟩ := pz
            obtain ⟨c0, c1, c2, c3⟩ : wz.cell? ⟨N1 + 1, 0, none⟩ = some (.int .i64 pk) ∧ wz.cell? ⟨N1 + 1, 1, none⟩ = some (.int .u8 (py.toNat : Int)) ∧ wz.cell? ⟨N1 + 1, 2, none⟩ = some (.int .i64 pL) ∧ wz.cell? ⟨N1 + 1, 3, none⟩ = some (.int .i64 px) := HZ.out.four
            have n2lt := HZ.out.lt
            have hs5 : w2.heap.size ≤ wz.heap.size := H5.out.below.size
            have HPO : Hid (wz.ownsRow w2.heap.size 38 4 (.slice P i pc) i (syc pl)) := by have h := H5.out.pown; rw [HPl.out] at h; exact h
            go_upto_region 18 with (fail)
            go_cut [10] (fun s10 wu => ∃ (P2 : Option Addr) (pc2 : Nat), s10 = .slice P2 (i + 1) pc2 ∧ Hid (NmRel w2 wu S ⟨sn, sa, sb, sc, sd⟩ P2 pc2 (pl ++ [⟨pk, py, pL, px⟩])) ∧ Hid (Blk wu N1 38 (yC ⟨k, z, yl, x⟩)))
            case first =>
              go_wp2_with (at_builtin; refine wpList_append_rd (w := wz.alloc (.cells #[.int .i64 pk, .int .u8 (py.toNat : Int), .int .i64 pL, .int .i64 px] 38)) rfl (.tmp 74) (.tmp 76) 24 rfl w2.heap.size 38 i0 _ 4 32 Tryd.underlying24 hi0 hz0 hz1 hz2 rfl (by decide) (.slice P i pc) i (syc pl) rfl (HPO.out.alloc _) (some ⟨wz.heap.size, 0, none⟩) 1 1 (syc [⟨pk, py, pL, px⟩]) rfl (Rd.of_blk (Blk.new _ _ _) rfl rfl) (syc_one _) (by simp only [maxLen]; omega) (by omega) (by simp; omega) ?_; intro P2 pc2 wu hown6 hg6 hat6)
              go_meet
              have hbz : Below wz.heap.size wz (wz.alloc (.cells #[.int .i64 pk, .int .u8 (py.toNat : Int), .int .i64 pL, .int .i64 px] 38)) := (Below.refl _ _).alloc (Nat.le_refl _) _
              have hPS : some S ≠ (Value.slice P i pc).ownBlock := own_ne HPO.out H5.out.st (by decide)
              have hPN : some N1 ≠ (Value.slice P i pc).ownBlock := fun e => by
                have := HPb.out N1 (by rw [HPl.out]; exact e.symm); omega
              refine ⟨P2, pc2, rfl, ⟨(H5.out.st.below hbz).same (hg6.block S (by have := H5.out.st.lt; simp; omega) hPS), ?_, ?_, H5.out.base⟩, (HNz.out.below hbz).same (hg6.block N1 (by have := HNz.out.lt; simp; omega) hPN)⟩
              · rw [List.length_append, HPl.out, syc_append]; exact hown6
              · exact ((H5.out.below.alloc H5.out.below.size _).grown hg6 (by simp; omega) (fun g hg => (own_lt HPO.out hg).1))
            case rest =>
              obtain ⟨P2, pc2, rfl, H6, HN6⟩ := hcut
              obtain ⟨wu, rfl⟩ : ∃ wu : World, wu = wc := ⟨_, rfl⟩
              clear c0 c1 c2 c3 n2lt HPO H5 HNz HZ hs5
              obtain ⟨y0, y1, y2, y3⟩ : wu.cell? ⟨N1, 0, none⟩ = some (.int .i64 k) ∧ wu.cell? ⟨N1, 1, none⟩ = some (.int .u8 (z.toNat : Int)) ∧ wu.cell? ⟨N1, 2, none⟩ = some (.int .i64 yl) ∧ wu.cell? ⟨N1, 3, none⟩ = some (.int .i64 x) := HN6.out.four
              obtain ⟨⟨s0, s1, s2', s3', s4⟩, ⟨f0, f1, f2, f3, f4⟩⟩ := st_five H6.out.st
              have hlu : Laid wu := (HL.out.below HB2.out).below H6.out.below
              have hnx := Next_p ⟨sn, sa, sb, sc, sd⟩ ⟨k, z, yl, x⟩ wu hlu
              rw [Hne.out] at hnx
              obtain ⟨t, ht⟩ : ∃ t, nextS ⟨sn, sa, sb, sc, sd⟩ ⟨k, z, yl, x⟩ = t := ⟨_, rfl⟩
              rw [ht] at hnx Hrn1
              obtain ⟨tn, ta, tb, tc, td⟩ := t
              unfold St.v Sy.v Sy.cs at hnx
              simp only [] at hnx
              have HLu := Lib.hid hlu
              clear ht hlu
              go_wp2_with fail
              refine hnx.mono ?_
              rintro e wv ⟨rfl, hbv⟩
              have H7 := Lib.hid (H6.out.later hbv)
              have HN7 := Lib.hid (HN6.out.below hbv)
              have HLv : Hid (Laid wv) := HLu.out.below hbv
              clear hnx hbv y0 y1 y2 y3 s0 s1 s2' s3' s4 f0 f1 f2 f3 f4 H6 HN6 HLu
              obtain ⟨⟨s0, s1, s2', s3', s4⟩, ⟨f0, f1, f2, f3, f4⟩⟩ := st_five H7.out.st
              have hSl := H7.out.st.lt
              have hSN : S ≠ N1 := by omega
              go_upto_region 23 with (fail)
              have hF8 : Fr (fun q => q = S) wv ((((((wv.setCell ⟨S, 0, none⟩ (.int .i64 tn)).setCell ⟨S, 1, none⟩ (.int .i64 ta)).setCell ⟨S, 2, none⟩ (.int .i64 tb)).setCell ⟨S, 3, none⟩ (.int .i64 tc)).setCell ⟨S, 4, none⟩ (.int .i64 td)).alloc (.cells #[.int .i64 tn, .int .i64 ta, .int .i64 tb, .int .i64 tc, .int .i64 td] 39)) := (fr5 S wv _ _ _ _ _).alloc _
              have hS8 := (set5_st H7.out.st tn ta tb tc td).alloc (.cells #[.int .i64 tn, .int .i64 ta, .int .i64 tb, .int .i64 tc, .int .i64 td] 39)
              obtain ⟨w8, hw8⟩ : ∃ w8, ((((((wv.setCell ⟨S, 0, none⟩ (.int .i64 tn)).setCell ⟨S, 1, none⟩ (.int .i64 ta)).setCell ⟨S, 2, none⟩ (.int .i64 tb)).setCell ⟨S, 3, none⟩ (.int .i64 tc)).setCell ⟨S, 4, none⟩ (.int .i64 td)).alloc (.cells #[.int .i64 tn, .int .i64 ta, .int .i64 tb, .int .i64 tc, .int .i64 td] 39)) = w8 := ⟨_, rfl⟩
              rw [hw8] at hF8 hS8 ⊢
              have hb8 : Below w2.heap.size w2 w8 := ((Fr.of_below (S := fun q => w2.heap.size ≤ q) H7.out.below).trans' hF8 (fun i hi e => by have := H7.out.base; omega)).below (Nat.le_refl _) (fun k hk => hk)
              have H8 : Hid (NmRel w2 w8 S ⟨tn, ta, tb, tc, td⟩ P2 pc2 (pl ++ [⟨pk, py, pL, px⟩])) := ⟨hS8, own_fr H7.out.pown hF8 (fun g hg e => own_ne H7.out.pown H7.out.st (by decide) (by rw [hg, e])), hb8, H7.out.base⟩
              have HN8 := Lib.hid (HN7.out.fr hF8 (fun e => hSN e.symm))
              clear hw8 hF8 hS8 hb8 s0 s1 s2' s3' s4 f0 f1 f2 f3 f4 H7 HN7 HLv hSl
              obtain ⟨y0, y1, y2, y3⟩ : w8.cell? ⟨N1, 0, none⟩ = some (.int .i64 k) ∧ w8.cell? ⟨N1, 1, none⟩ = some (.int .u8 (z.toNat : Int)) ∧ w8.cell? ⟨N1, 2, none⟩ = some (.int .i64 yl) ∧ w8.cell? ⟨N1, 3, none⟩ = some (.int .i64 x) := HN8.out.four
              have hq := YSize_any k yl x z w8 ((HL.out.below HB2.out).below H8.out.below)
              obtain ⟨f, hf⟩ : ∃ f, szF ⟨k, z, yl, x⟩ = f := ⟨_, rfl⟩
              rw [hf] at hq hszf hsz1 hszz
              have hatf : (at_ : Int) + f = ((at_ + szN ⟨k, z, yl, x⟩ : Nat) : Int) := by omega
              obtain ⟨at2, hat2⟩ : ∃ at2, at_ + szN ⟨k, z, yl, x⟩ = at2 := ⟨_, rfl⟩
              rw [hat2] at hatf Hl2 hlen2
              have Hf := Lib.hid hf
              clear hf hat2 hszz
              go_wp2_with fail
              refine hq.mono ?_
              rintro e w9 ⟨rfl, hb9⟩
              have H9 := Lib.hid (H8.out.later hb9)
              have HN9 := Lib.hid (HN8.out.below hb9)
              clear hq hb9 y0 y1 y2 y3 H8 HN8
              obtain ⟨y0, y1, y2, y3⟩ : w9.cell? ⟨N1, 0, none⟩ = some (.int .i64 k) ∧ w9.cell? ⟨N1, 1, none⟩ = some (.int .u8 (z.toNat : Int)) ∧ w9.cell? ⟨N1, 2, none⟩ = some (.int .i64 yl) ∧ w9.cell? ⟨N1, 3, none⟩ = some (.int .i64 x) := HN9.out.four
              have hq2 := YSize_any k yl x z w9 ((HL.out.below HB2.out).below H9.out.below)
              rw [Hf.out] at hq2
              have hlen4 : ¬ N < at2 := by omega
              have hlen5 : decide (N < at2) = false := decide_eq_false hlen4
              have hlen3 : (at2 : Int) ≤ (N : Int) := by omega
              go_wp2_with fail
              refine hq2.mono ?_
              rintro e w10 ⟨rfl, hb10⟩
              have H10 := Lib.hid (H9.out.later hb10)
              clear hq2 hb10 y0 y1 y2 y3 H9 HN9
              go_wp2_with fail
              go_roundw
              case rel =>
                refine ⟨i + 1, P2, pc2, pl ++ [⟨pk, py, pL, px⟩], s3, by go_num, by omega, by rw [Hl2.out], rfl, by show _ = _; rw [List.length_append, HPl.out]; rfl, HP3, ?_⟩
                rw [Hrn1.out]
                exact H10.out
              case measure => simp [intOf]; omega
    · obtain rfl : i = n := by omega
      have hrw : row.take i = row := List.take_of_length_le (by rw [Hn.out]; exact Nat.le_refl _)
      rw [hrw, HT.out.rn] at HP ⊢
      simp only [] at HP ⊢
      rw [HN.out]
      have hPO : wr.ownsRow w2.heap.size 38 4 (.slice P i pc) i (syc pl) := by have h := H.out.pown; rw [HPl.out] at h; exact h
      have hc := Expand_yes sz P i pc pl wr (InS.of_own hPO (by omega)) ((HL.out.below HB2.out).below H.out.below) (by omega) (by omega)
      rw [HP.out.all, HPl.out] at hc
      clear hrw hPO
      go_wp2_with fail
      refine hc.mono ?_
      rintro e w4 ⟨C, cc, rfl, hC4, hb4⟩
      simp only [HN.out] at hC4 ⊢
      have hcv := conv_rd (c := cc) (Rd.of_own hC4)
      have hcv2 := conv_rd (c := c) (Rd.of_own (own_below (own_below HA2.out H.out.below) hb4))
      have HB4 : Hid (Below w.heap.size w w4) := bup (bup HB2.out H.out.below) hb4
      clear hc hC4 hb4
      go_wp2_with fail
      go_ret
      exact ⟨rfl, HB4.out⟩
theorem names_law_ (dict : Int) (A0 : Option Addr) (m mc : Nat) (l : List Sy) (w : World) (_h0 : -9223372036854775808 ≤ dict ∧ dict ≤ 9223372036854775807) (h : InS w A0 m l) (hm : m ≤ 1048576) (_hc : m ≤ mc) (hl : Laid w) :
    Calls Tryd.prog 4 #[.int .i64 dict, .slice A0 m mc] w fun e w' => e = .returned (.bool true) ∧ Below w.heap.size w w' := names_law dict A0 m mc l w h hm hl
end Go.Proofs.YthcgchkcanhmnaaDoor
