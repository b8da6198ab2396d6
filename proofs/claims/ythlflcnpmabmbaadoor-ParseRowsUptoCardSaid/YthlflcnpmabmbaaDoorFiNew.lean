/-
  Walk of finder.New. Conditions: the data lie in memory and are at most 2^30 bytes; a dictionary out of range is refused.
-/
import Derived.Test.YthlflcnpmabmbaaDoorFiFn
import Derived.Laws.Cover3
namespace Go.Proofs.YthlflcnpmabmbaaDoor
open Go.RowKit Go.Shelf Go.Maps
attribute [local go_sem] Oper.semAt_some
set_option maxRecDepth 100000

theorem New_no (A : Option Addr) (m c : Nat) (dict : Int) (w : World) (h : dict < 1 ∨ 4294967295 < dict) :
    Calls Tryd.prog 28 #[.slice A m c, .int .i64 dict] w fun e w' => e = .returned (.tuple #[.pointer none, .int .i64 6]) ∧ w' = w := by
  go_enter Tryd.func28, Tryd.ntmps28
  rcases h with h | h
  · go_wp2
    exact bodyPost_ret (v := .tuple #[.pointer none, .int .i64 6]) (by simp [results, Tryd.results28, go_sem]) rfl ⟨rfl, rfl⟩
  · have : ¬ dict < 1 := by omega
    go_wp2
    exact bodyPost_ret (v := .tuple #[.pointer none, .int .i64 6]) (by simp [results, Tryd.results28, go_sem]) rfl ⟨rfl, rfl⟩
theorem info39 : (Tryd.prog.info? 3).map (fun i => (i.zero, i.size, i.bytes)) = some (some (.int .i64 0), 1, 8) := by kernel_rfl
theorem add_add3 (ad : Addr) (k j : Nat) (hj : 0 < j) : ad.add (k + j) = ⟨(ad.add k).block, (ad.add k).off + j, none⟩ := by
  unfold Addr.add
  rw [if_neg (by omega)]
  split
  · rename_i h; subst h; simp
  · simp; omega
/-- the three cells of the word at k -/
theorem word_cells {w : World} {A : Option Addr} {m k : Nat} {l : List UInt8} (h : In w A m l) (hk : k + 3 ≤ m) : ∃ ad, A = some ad ∧ w.cell? (ad.add k) = some (.int .u8 ((wordAt l k).1.toNat : Int)) ∧
    w.cell? ⟨(ad.add k).block, (ad.add k).off + 1, none⟩ = some (.int .u8 ((wordAt l k).2.1.toNat : Int)) ∧ w.cell? ⟨(ad.add k).block, (ad.add k).off + 2, none⟩ = some (.int .u8 ((wordAt l k).2.2.toNat : Int)) := by
  obtain ⟨ad, hA, hc⟩ := h.1.2 (by omega)
  have hl := h.len
  have hb : ∀ j, j < m → (bys l)[j]? = some (.int .u8 ((l.getD j 0).toNat : Int)) := fun j hj => by
    have : j < l.length := by omega
    unfold bys
    simp [List.getD, this]
  refine ⟨ad, hA, hc k _ (hb k (by omega)), ?_, ?_⟩
  · rw [← add_add3 ad k 1 (by omega)]
    exact hc _ _ (hb (k + 1) (by omega))
  · rw [← add_add3 ad k 2 (by omega)]
    exact hc _ _ (hb (k + 2) (by omega))
structure NewRel (S N m : Nat) (O : Option Addr) (oc : Nat) (l : List UInt8) (dict : Int) (k : Nat) (w wr : World) : Prop where
  own : ∃ D : DataW Unit, wr.ownsGroups Tryd.prog 104 (N + 1) 3 .i64 N k D ∧ GD l k D
  bb : Blk wr (N + 1) 102 #[.slice O m oc, .int .i64 dict, .int .i64 0, .map (some N)]
  row : wr.ownsRow S 5 1 (.slice O m oc) m (bys l)
  ob : ∀ ad, O = some ad → ad.block < N
  bl : Below S w wr
theorem new_next {S N m : Nat} {O : Option Addr} {oc : Nat} {l : List UInt8} {dict : Int} {k : Nat} {w wr We wE w4 w5 : World} {v : Value} (h : NewRel S N m O oc l dict k w wr) (hS : S ≤ N) (hbe : Below wr.heap.size wr We) (hgE : We.grownBy wE (some N))
    (hv : ∀ g, v.ownBlock = some g → N + 1 ≤ g) (hvB : some (N + 1) ≠ v.ownBlock) (hg4 : wE.grownBy w4 v.ownBlock) (hg5 : w4.grownBy w5 (some N)) (hown : ∃ D : DataW Unit, w5.ownsGroups Tryd.prog 104 (N + 1) 3 .i64 N (k + 1) D ∧ GD l (k + 1) D) :
    NewRel S N m O oc l dict (k + 1) w w5 := by
  have same : ∀ g, g < wr.heap.size → g ≠ N → some g ≠ v.ownBlock → w5.heap[g]? = wr.heap[g]? := fun g h1 h2 h3 => by
    have hn : some g ≠ some N := fun e => h2 (Option.some.inj e)
    have s1 := hbe.size
    have s2 := hgE.size
    have s3 := hg4.size
    exact (hg5.block g (by omega) hn).trans ((hg4.block g (by omega) h3).trans ((hgE.block g (by omega) hn).trans (hbe.block g h1)))
  have hlt := h.bb.lt
  have hrow : ∀ g, g < N → w5.heap[g]? = wr.heap[g]? := fun g hg => same g (by omega) (by omega) (fun e => by have := hv g e.symm; omega)
  refine ⟨hown, h.bb.same (same _ hlt (by omega) hvB), own_same h.row (fun g hg => ?_), h.ob, ?_⟩
  · cases O with
    | none => simp [Value.ownBlock] at hg
    | some ad =>
      have : ad.block = g := by simpa [Value.ownBlock] using hg
      subst this
      exact hrow _ (h.ob ad rfl)
  · refine ⟨?_, ?_, ?_, ?_, fun g hg => (hrow g (by omega)).trans (h.bl.block g hg)⟩
    · exact hg5.os.trans (hg4.os.trans (hgE.os.trans (hbe.os.trans h.bl.os)))
    · exact hg5.tape.trans (hg4.tape.trans (hgE.tape.trans (hbe.tape.trans h.bl.tape)))
    · exact hg5.output.trans (hg4.output.trans (hgE.output.trans (hbe.output.trans h.bl.output)))
    · exact Nat.le_trans h.bl.size (Nat.le_trans hbe.size (Nat.le_trans hgE.size (Nat.le_trans hg4.size hg5.size)))
theorem new_fi {w wr : World} {N m : Nat} {O : Option Addr} {oc : Nat} {l : List UInt8} {dict : Int} (h : NewRel w.heap.size N m O oc l dict (m - 2) w wr) (hS : w.heap.size ≤ N) (hl : l.length = m) (hm : m ≤ 1073741824) :
    Fi ⟨w.heap.size, wr.heap.size, N + 1, N, N + 1, O, oc, l, dict, wr⟩ 0 wr := by
  subst hl
  obtain ⟨D, h1, h2⟩ := h.own
  have hlt := h.bb.lt
  refine ⟨h.bb, In.of_own h.row (by show l.length ≤ _; omega), fun _ ad had => ⟨?_, ?_⟩, own_le h.row, ⟨D, h1, h2⟩, fun es clock hb x hx g hg hn => hn ⟨?_, ?_⟩, ⟨?_, ?_⟩, ⟨?_, hlt⟩, Nat.le_refl _, fun _ _ => rfl⟩
  · have := h.ob ad had
    show ad.block ≠ N + 1
    omega
  · exact own_lt h.row (own_addr h.row had)
  · exact groups_off h1 h.bb (by decide) es clock hb x hx g hg
  · have := (groups_rows h1).2 es clock hb x hx g hg
    exact ⟨by show w.heap.size ≤ g; omega, this.2⟩
  · show N ≠ N + 1
    omega
  · exact ⟨hS, (groups_rows h1).1⟩
  · show w.heap.size ≤ N + 1
    omega
theorem New_ok (A : Option Addr) (m c : Nat) (l : List UInt8) (dict : Int) (w : World) (h : In w A m l) (h0 : m = 0 → A = none ∧ c = 0 ∨ ∃ a, A = some a) (hmc : m ≤ c) (hm : m ≤ 1073741824) (hd : 1 ≤ dict ∧ dict ≤ 4294967295) :
    Calls Tryd.prog 28 #[.slice A m c, .int .i64 dict] w fun e w' => ∃ p : FP, e = .returned (.tuple #[.pointer (some ⟨p.fb, 0, none⟩), .int .i64 0]) ∧ p.l = l ∧ p.dict = dict ∧ p.L = w.heap.size ∧ p.T = w'.heap.size ∧ Fi p 0 w' ∧ Below w.heap.size w w' := by
  have hmm := @run_makeMap Tryd.prog
  obtain ⟨i0, hi, hz0, hz1, hz2⟩ := info_parts info39
  have HC := Lib.hid (Clone_any A m c l w h h0)
  have HI := Lib.hid h
  have h1 : ¬ dict < 1 := by omega
  have h2 : ¬ 4294967295 < dict := by omega
  clear h h0
  go_enter Tryd.func28, Tryd.ntmps28
  go_wp2_with fail
  refine HC.out.mono ?_
  rintro e w1 ⟨O, oc, rfl, hO, hb1⟩
  have HO := Lib.hid hO
  have HB := Lib.hid hb1
  clear hO hb1
  go_wp2_with fail
  obtain ⟨N, hN⟩ : ∃ N, w1.heap.size = N := ⟨_, rfl⟩
  have HR0 : Hid (NewRel w.heap.size N m O oc l dict 0 w ((w1.alloc (.map #[] 0)).alloc (.cells #[.slice O m oc, .int .i64 dict, .int .i64 0, .map (some N)] 102))) := by
    have ha : Below w1.heap.size w1 (w1.alloc (.map #[] 0)) := (Below.refl _ _).alloc (Nat.le_refl _) _
    have hb : Below w1.heap.size w1 ((w1.alloc (.map #[] 0)).alloc (.cells #[.slice O m oc, .int .i64 dict, .int .i64 0, .map (some N)] 102)) := ha.alloc (by simp) _
    refine ⟨⟨.map [], ?_, gd_start l⟩, Blk.new_at (by simp [hN]), own_below HO.out hb, fun ad had => ?_, bup HB.out hb⟩
    · have := World.ownsGroups_made (H := Unit) w1 Tryd.prog 104 3 .i64
      rw [hN] at this
      exact groups_same this (Below.heap_alloc _ _ _ (by simp [hN])) (fun es clock h1 x hx => by
        have h2 := (MapKept.heap_alloc w1 (.map #[] 0)).1
        rw [hN] at h2
        rw [h2] at h1
        cases h1
        simp at hx)
    · have := (own_lt HO.out (own_addr HO.out had)).2
      omega
  have hSN : w.heap.size ≤ N := by rw [← hN]; exact HB.out.size
  rw [hN]
  clear HC
  go_loopw [7] (fun s7 wr => ∃ k : Nat, s7 = .int .i64 (k : Int) ∧ k ≤ m - 2 ∧ Hid (NewRel w.heap.size N m O oc l dict k w wr)) (fun s7 _ => m - (intOf s7).toNat)
  case atStart => exact ⟨0, rfl, Nat.zero_le _, HR0⟩
  case round =>
    clear HR0
    obtain ⟨k, rfl, hk, HR⟩ := hrel
    by_cases hlt : k + 3 ≤ m
    · have hlt' : (k : Int) + 3 ≤ (m : Int) := by omega
      obtain ⟨ad, hA, c0, c1, c2⟩ := word_cells (HI.out.below HR.out.bl) hlt
      subst hA
      obtain ⟨x, hx⟩ : ∃ x, (wordAt l k).1 = x := ⟨_, rfl⟩
      obtain ⟨y, hy⟩ : ∃ y, (wordAt l k).2.1 = y := ⟨_, rfl⟩
      obtain ⟨z, hz⟩ : ∃ z, (wordAt l k).2.2 = z := ⟨_, rfl⟩
      rw [hx] at c0
      rw [hy] at c1
      rw [hz] at c2
      have hw3 : wordAt l k = (x, y, z) := by rw [← hx, ← hy, ← hz]
      clear hx hy hz
      have Hw3 := Lib.hid hw3
      clear hw3
      have hck : ¬ c = k := by omega
      have hkm : k ≤ m := by omega
      have hat : ∀ w, (Instr.arrayAt 104 (.slice (some (ad.add k)) (m - k) (c - k))).run Tryd.prog w = .ok (.pointer (some (ad.add k))) w := fun w => run_arrayAt w 104 5 3 (some (ad.add k)) (m - k) (c - k) Tryd.underlying104 (by omega)
      go_wp2_with (first | (simp only [hat]) | fail)
      obtain ⟨g8, hg8⟩ : ∃ g8, wr.heap.size = g8 := ⟨_, rfl⟩
      rw [hg8]
      obtain ⟨W8, hW8⟩ : ∃ W8, wr.alloc (.cells #[.int .u8 (x.toNat : Int), .int .u8 (y.toNat : Int), .int .u8 (z.toNat : Int)] 104) = W8 := ⟨_, rfl⟩
      rw [hW8]
      have hb8 : Below wr.heap.size wr W8 := by rw [← hW8]; exact (Below.refl _ _).alloc (Nat.le_refl _) _
      have hz8 : W8.heap.size = g8 + 1 := by rw [← hW8, World.size_alloc, hg8]
      obtain ⟨D, hD, hGD⟩ := HR.out.own
      have HGD := Lib.hid hGD
      have hbe : Below wr.heap.size wr (W8.drew.alloc (.cells #[.int .i64 (k : Int)] 3)) := bmk_ (⟨hb8.os, hb8.tape, hb8.output, hb8.size, hb8.block⟩ : Below wr.heap.size wr W8.drew) _
      have hDE : (W8.drew.alloc (.cells #[.int .i64 (k : Int)] 3)).ownsGroups Tryd.prog 104 (N + 1) 3 .i64 N k D := groups_below hD hbe
      obtain ⟨v, zs, st, wE, hE, hgE, hat0, hoE, hzl, hback⟩ := groups_entry hDE keyLaw Tryd.underlying100 zero39 (by unfold maxLen; omega) (keyOf_tri x y z)
      obtain ⟨va, vc, rfl⟩ := own_slice hoE.1
      have Hat0 := Lib.hid hat0
      have Hback := Lib.hid hback
      have HoE := Lib.hid hoE
      have hbf : N + 1 < wr.heap.size := HR.out.bb.lt
      have cf : W8.cell? ⟨N + 1, 3, none⟩ = some (.map (some N)) := (hb8.cell hbf).trans (HR.out.bb.cell 3)
      have B8 : Blk W8 g8 104 #[.int .u8 (x.toNat : Int), .int .u8 (y.toNat : Int), .int .u8 (z.toNat : Int)] := by rw [← hW8]; exact Blk.new_at hg8.symm
      obtain ⟨d0, d1, d2⟩ := B8.three
      obtain ⟨d0A, d1A, d2A⟩ := (B8.alloc (.cells #[.int .i64 (k : Int)] 3)).three
      have cfA : (W8.alloc (.cells #[.int .i64 (k : Int)] 3)).cell? ⟨N + 1, 3, none⟩ = some (.map (some N)) := by
        have := (HR.out.bb.below hb8).alloc (.cells #[.int .i64 (k : Int)] 3)
        exact this.cell 3
      have hN8 : N + 1 < W8.heap.size := by omega
      have hg8' : g8 < W8.heap.size := by omega
      have hrdE : Rd wE 1 (some ⟨g8 + 1, 0, none⟩) 1 [.int .i64 (k : Int)] := by
        refine ⟨rfl, fun _ => ⟨_, rfl, fun j u hu => ?_⟩⟩
        have hn := cell_one_new W8.drew (.int .i64 (k : Int)) 3 j u hu
        rw [show W8.drew.heap.size = g8 + 1 from hz8] at hn
        refine (World.cell?_of_block (hgE.block _ ?_ ?_)).trans hn
        · rw [block_add]
          simp [hz8]
        · rw [block_add]
          intro e
          have e := Option.some.inj e
          have e : g8 + 1 = N := e
          omega
      have hoE1 := hoE.1
      have hsE : N + 1 ≤ wE.heap.size := by
        have := hgE.size
        simp [hz8] at this
        omega
      unfold tri u8v at hE
      have hE : (Instr.mapEntry 100 (.map (some N)) (.agg #[.int .u8 (x.toNat : Int), .int .u8 (y.toNat : Int), .int .u8 (z.toNat : Int)])).run Tryd.prog (W8.alloc (.cells #[.int .i64 (k : Int)] 3)).drew = .ok (.tuple #[.slice va zs.length vc, .int .i64 st]) wE := hE
      clear hW8 hD hGD hDE hat0 hback hoE
      have Hwr := Lib.hid hbe
      clear hbe hb8
      go_region_law (
          (refine step_append_rd (w := wE) rfl (.tmp 38) (.tmp 40) 61 rfl (N + 1) 3 i0 _ 1 8 Tryd.underlying61 hi hz0 hz1 hz2 rfl (by decide) (.slice va zs.length vc) zs.length (zs.map (Value.int .i64)) (by simp [Act.eval, Act.put]) hoE1 (some ⟨g8 + 1, 0, none⟩) 1 1 [.int .i64 (k : Int)] (by simp [Act.eval, Act.put]) hrdE (ints_oneCell .i64 [(k : Int)]) (by simp only [maxLen]; omega) (by omega) hsE ?_
           intro a1 c1 w4 hown4 hg4 hat4
           obtain ⟨w5, hS5, hown5, hg5⟩ := Hback.out w4 (.slice a1 (zs.length + 1) c1) (zs ++ [(k : Int)]) hg4 (HoE.out.appended hown4 (WalkArith.wf_i64 (by omega))) (by simp; omega) (hat4.imp id (fun h => ⟨_, h, Nat.le_refl _⟩))))
      all_goals
        have HN5 : Hid (NewRel w.heap.size N m O oc l dict (k + 1) w w5) := by
          have hz := gd_at (t := (x, y, z)) HGD.out Hat0.out HoE.out
          refine new_next HR.out hSN Hwr.out hgE (fun g hg => (own_lt HoE.out.1 hg).1) (own_ne HoE.out.1 ((HR.out.bb.below Hwr.out).same (hgE.block _ (by simp [hz8]; omega) (by simp))) (by decide)) hg4 hg5 ⟨_, hown5, ?_⟩
          have hs := gd_step (v := .slice a1 (zs.length + 1) c1) (w := w4) (e := 3) (base := N + 1) HGD.out (by rw [Hw3.out, ← hz]; exact HoE.out.appended hown4 (WalkArith.wf_i64 (by omega)))
          rw [Hw3.out, ← hz] at hs
          exact hs
        clear hown5 hg5 hg4 hown4 hat4 hS5 hE hgE
        go_wp2_with fail
        go_roundw
        case rel => exact ⟨k + 1, by go_num, by omega, HN5⟩
        case measure => simp [intOf]; omega
    · obtain rfl : k = m - 2 := by omega
      have HF := Lib.hid (new_fi HR.out hSN HI.out.len hm)
      have HBl := Lib.hid HR.out.bl
      clear HR
      go_wp2_with fail
      refine bodyPost_ret (v := .tuple #[.pointer (some ⟨N + 1, 0, none⟩), .int .i64 0]) (by simp [results, Tryd.results28, go_sem]) rfl ?_
      exact ⟨_, rfl, rfl, rfl, rfl, rfl, HF.out, HBl.out⟩
end Go.Proofs.YthlflcnpmabmbaaDoor
