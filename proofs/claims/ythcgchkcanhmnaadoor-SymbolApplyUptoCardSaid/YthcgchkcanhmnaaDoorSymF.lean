
/-
  Walks of symbol.Size, and of Expand with a dictionary that may not be. Conditions: the tables as Laid says.
-/
import Derived.Test.YthcgchkcanhmnaaDoorSymE
namespace Go.Proofs.YthcgchkcanhmnaaDoor
open Go.RowKit

theorem Expand_no (size : Int) (A : Option Addr) (m mc : Nat) (w : World) (h : ¬ (1 ≤ size ∧ size ≤ 4294967295)) :
    Calls Tryd.prog 29 #[.int .i64 size, .slice A m mc] w (ExPost ([], 0, 7) w) := by
  go_enter Tryd.func29, Tryd.ntmps29
  go_wp2_with fail
  refine (New_no size w h).mono ?_
  rintro e w0 ⟨rfl, rfl⟩
  go_wp2_with fail
  refine bodyPost_ret (v := .tuple #[.slice none 0 0, .int .i64 0, .int .i64 7]) (by simp [results, Tryd.results29, go_sem, *]) rfl ?_
  exact ⟨none, 0, rfl, World.ownsRow_nil _ _ _ _, Below.refl _ _⟩
def szF (y : Sy) : Int := if nextE St.start y = 0 then (if y.k = 2 ∨ y.k = 3 then y.l else 1) else 0
set_option maxHeartbeats 4000000 in
theorem YSize_any (k l x : Int) (z : UInt8) (w : World) (hl : Laid w) :
    Calls Tryd.prog 28 #[.agg #[.int .i64 k, .int .u8 (z.toNat : Int), .int .i64 l, .int .i64 x]] w fun e w' => e = .returned (.int .i64 (szF ⟨k, z, l, x⟩)) ∧ Below w.heap.size w w' := by
  have hn := Next_p St.start ⟨k, z, l, x⟩
  obtain ⟨f, hf⟩ : ∃ f, nextE St.start ⟨k, z, l, x⟩ = f := ⟨_, rfl⟩
  obtain ⟨r, hr⟩ : ∃ r, szF ⟨k, z, l, x⟩ = r := ⟨_, rfl⟩
  have hr' : r = if f = 0 then (if k = 2 ∨ k = 3 then l else 1) else 0 := by rw [← hr, ← hf]; rfl
  rw [hf] at hn
  rw [hr]
  obtain ⟨t, ht⟩ : ∃ t, nextS St.start ⟨k, z, l, x⟩ = t := ⟨_, rfl⟩
  rw [ht] at hn
  clear hf hr ht
  obtain ⟨n', a', b', c', d'⟩ := t
  unfold St.v Sy.v Sy.cs at hn
  unfold St.start at hn
  simp only [] at hn
  obtain ⟨wb, hwb⟩ : ∃ wb, w.alloc (.cells #[.int .i64 k, .int .u8 (z.toNat : Int), .int .i64 l, .int .i64 x] 38) = wb := ⟨_, rfl⟩
  have hY : Blk wb w.heap.size 38 #[.int .i64 k, .int .u8 (z.toNat : Int), .int .i64 l, .int .i64 x] := by rw [← hwb]; exact Blk.new _ _ _
  have hB : Below w.heap.size w wb := by rw [← hwb]; exact (Below.refl _ _).alloc (Nat.le_refl _) _
  obtain ⟨Y, hYY⟩ : ∃ Y, w.heap.size = Y := ⟨_, rfl⟩
  rw [hYY] at hY
  have Hn := Lib.hid hn
  have Hr := Lib.hid hr'
  have HB := Lib.hid hB
  have HL := Lib.hid (hl.below hB)
  clear hn hr' hB hl
  go_enter Tryd.func28, Tryd.ntmps28
  go_wp2_with fail
  clear hwb hYY
  have ylt := hY.lt
  go_cut [4] (fun s4 wx => s4 = .int .i64 f ∧ Hid (Below wb.heap.size wb wx))
  case first =>
    obtain ⟨y0, y1, y2, y3⟩ : wb.cell? ⟨Y, 0, none⟩ = some (.int .i64 k) ∧ wb.cell? ⟨Y, 1, none⟩ = some (.int .u8 (z.toNat : Int)) ∧ wb.cell? ⟨Y, 2, none⟩ = some (.int .i64 l) ∧ wb.cell? ⟨Y, 3, none⟩ = some (.int .i64 x) := hY.four
    have Hq : Hid (∀ w' : World, Below wb.heap.size wb w' → w'.cell? ⟨Y, 0, none⟩ = some (.int .i64 k) ∧ w'.cell? ⟨Y, 1, none⟩ = some (.int .u8 (z.toNat : Int)) ∧ w'.cell? ⟨Y, 2, none⟩ = some (.int .i64 l) ∧ w'.cell? ⟨Y, 3, none⟩ = some (.int .i64 x)) := fun w' hb => (hY.below hb).four
    clear hY
    have ny : ¬ Y = wb.heap.size := by omega
    go_region_held3 (fun w' => w'.cell? ⟨Y, 0, none⟩ = some (.int .i64 k) ∧ w'.cell? ⟨Y, 1, none⟩ = some (.int .u8 (z.toNat : Int)) ∧ w'.cell? ⟨Y, 2, none⟩ = some (.int .i64 l) ∧ w'.cell? ⟨Y, 3, none⟩ = some (.int .i64 x))
      (first | (with_reducible exact ⟨y0, y1, y2, y3⟩) | (with_reducible exact ⟨p0, p1, p2, p3⟩) | (with_reducible exact ⟨q0, q1, q2, q3⟩) | go_keep | (with_reducible exact ⟨(keep5 ny).trans q0, (keep5 ny).trans q1, (keep5 ny).trans q2, (keep5 ny).trans q3⟩) | (with_reducible exact ⟨(keep5 ny1).trans q0, (keep5 ny1).trans q1, (keep5 ny1).trans q2, (keep5 ny1).trans q3⟩))
      (first | (go_at_call 26; refine (New_any _).mono ?_; rintro en w1 ⟨rfl, hbel⟩; have hbw : Below wb.heap.size wb w1 := (by first | (with_reducible exact bd1 hbel) | (with_reducible exact bd2 hbel)); obtain ⟨p0, p1, p2, p3⟩ := Hq.out w1 hbw; have ny1 : ¬ Y = w1.heap.size := (by have := hbw.size; omega); (try (have hz : Blk w1 wb.heap.size 39 #[.int .i64 0, .int .i64 0, .int .i64 0, .int .i64 0, .int .i64 0] := by with_reducible exact (Blk.new wb 39 #[.int .i64 0, .int .i64 0, .int .i64 0, .int .i64 0, .int .i64 0]).drew.below hbel)); unfold stV stC) | (go_at_call 27; refine (Hn.out _ (HL.out.below (by first | (with_reducible exact hbw) | (with_reducible exact bmk hbw _)))).mono ?_; rintro en w2 ⟨rfl, hbel2⟩; have hbw2 : Below wb.heap.size wb w2 := (by first | (with_reducible exact bup hbw hbel2) | (with_reducible exact bup (bmk hbw _) hbel2)); obtain ⟨q0, q1, q2, q3⟩ := Hq.out w2 hbw2; (first | ((have hz2 : Blk w2 wb.heap.size 39 #[.int .i64 0, .int .i64 0, .int .i64 0, .int .i64 0, .int .i64 0] := by with_reducible exact hz.below hbel2); (obtain ⟨⟨z0, z1, z2, z3, z4⟩, ⟨f0, f1, f2, f3, f4⟩⟩ := st_five hz2)) | ((have hz2 : Blk w2 w1.heap.size 39 #[.int .i64 0, .int .i64 0, .int .i64 0, .int .i64 0, .int .i64 0] := by with_reducible exact (Blk.new w1 39 #[.int .i64 0, .int .i64 0, .int .i64 0, .int .i64 0, .int .i64 0]).below hbel2); (obtain ⟨⟨z0, z1, z2, z3, z4⟩, ⟨f0, f1, f2, f3, f4⟩⟩ := st_five hz2)) | skip)))
    all_goals go_wp2_with fail
    all_goals go_meet
    · exact ⟨rfl, bmk hbw2 _⟩
    · exact ⟨rfl, below5 hbw2 hbw.size _ _ _ _ _⟩
    · exact ⟨rfl, below5 hbw2 (Nat.le_refl _) _ _ _ _ _⟩
  case rest =>
    obtain ⟨rfl, hb⟩ := hcut
    obtain ⟨wa, rfl⟩ : ∃ wa : World, wa = wc := ⟨_, rfl⟩
    obtain ⟨y0, y1, y2, y3⟩ : wa.cell? ⟨Y, 0, none⟩ = some (.int .i64 k) ∧ wa.cell? ⟨Y, 1, none⟩ = some (.int .u8 (z.toNat : Int)) ∧ wa.cell? ⟨Y, 2, none⟩ = some (.int .i64 l) ∧ wa.cell? ⟨Y, 3, none⟩ = some (.int .i64 x) := (hY.below hb.out).four
    clear hY ylt HL Hn
    have HBa : Hid (Below w.heap.size w wa) := bup HB.out hb.out
    clear HB hb
    by_cases hf0 : f = 0
    · subst hf0
      have Hr0 : Hid (r = if k = 2 ∨ k = 3 then l else 1) := by have := Hr.out; rw [if_pos rfl] at this; exact this
      clear Hr
      by_cases k2 : k = 2
      · have Hr1 : Hid (r = l) := by have := Hr0.out; rw [if_pos (.inl k2)] at this; exact this
        subst k2
        go_wp2_with fail
        go_ret
        exact ⟨by rw [Hr1.out]; rfl, HBa.out⟩
      · by_cases k3 : k = 3
        · have Hr1 : Hid (r = l) := by have := Hr0.out; rw [if_pos (.inr k3)] at this; exact this
          subst k3
          go_wp2_with fail
          go_ret
          exact ⟨by rw [Hr1.out]; rfl, HBa.out⟩
        · have Hr1 : Hid (r = 1) := by have := Hr0.out; rw [if_neg (by omega)] at this; exact this
          have k2' : (k == 2) = false := beq_eq_false_iff_ne.2 k2
          have k3' : (k == 3) = false := beq_eq_false_iff_ne.2 k3
          go_wp2_with fail
          go_ret
          exact ⟨by rw [Hr1.out]; rfl, HBa.out⟩
    · have hf1 : (f == 0) = false := beq_eq_false_iff_ne.2 hf0
      have hf2 : (f != 0) = true := bne_iff_ne.2 hf0
      have Hr0 : Hid (r = 0) := by have := Hr.out; rw [if_neg hf0] at this; exact this
      clear hf0 Hr
      go_wp2_with fail
      go_ret
      exact ⟨by rw [Hr0.out]; rfl, HBa.out⟩
end Go.Proofs.YthcgchkcanhmnaaDoor
