
/-
  Walks of symbol.Literals and of the law's known. Conditions: the bytes lie in memory; the tables as Laid says.
-/
import Derived.Test.YthcgchkcanhmnaaDoorSymF
namespace Go.Proofs.YthcgchkcanhmnaaDoor
open Go.RowKit

theorem infosy : (Tryd.prog.info? 38).map (fun i => (i.zero, i.size, i.bytes)) = some (some (.agg #[.int .i64 0, .int .u8 0, .int .i64 0, .int .i64 0]), 4, 32) := by kernel_rfl
def lit (c : UInt8) : Sy := ⟨1, c, 0, 0⟩
def litS (l : List UInt8) : List Sy := l.map lit
theorem Rd.of_blk {w : World} {g n size : Nat} {t : TypeId} {cs : Array Value} {xs : List Value} (h : Blk w g t cs) (hx : cs.toList = xs) (hn : xs.length = n * size) : Rd w size (some ⟨g, 0, none⟩) n xs :=
  ⟨hn, fun _ => ⟨_, rfl, fun j u hu => by
    rw [show (⟨g, 0, none⟩ : Addr).add j = ⟨g, j, none⟩ from by unfold Addr.add; split <;> simp_all]
    rw [h.cell, ← Array.getElem?_toList, hx]; exact hu⟩⟩
def LitPost (l : List Sy) (w : World) (e : Ending) (w' : World) : Prop :=
  ∃ A c, e = .returned (.slice A l.length c) ∧ w'.ownsRow w.heap.size 38 4 (.slice A l.length c) l.length (syc l) ∧ Below w.heap.size w w'
set_option maxHeartbeats 1000000 in
theorem Literals_any (A : Option Addr) (n c : Nat) (l : List UInt8) (w : World) (h : In w A n l) (hn : n ≤ 1048600) :
    Calls Tryd.prog 35 #[.slice A n c] w (LitPost (litS l) w) := by
  obtain ⟨i0, hi0, hz0, hz1, hz2⟩ := info_parts infosy
  have Hlen := Lib.hid h.len
  go_enter Tryd.func35, Tryd.ntmps35
  go_wp2_with (at_make; refine wpList_make_own w rfl (.const (.int .i64 0)) (.tmp 7) 24 rfl w.heap.size 38 i0 _ 4 Tryd.underlying24 hi0 hz0 hz1 .i64 .i64 (n : Int) n rfl rfl rfl (by rw [hz2]; omega) (by unfold maxLen; omega) (Nat.le_refl _) ?_; intro w1 hown1 hg1)
  have hb1 : Below w.heap.size w w1 := (Below.refl _ w).grown hg1 (Nat.le_refl _) (fun g hg => by cases hg)
  have H : Hid (w1.ownsRow w.heap.size 38 4 (.slice (some ⟨w.heap.size, 0, none⟩) 0 n) 0 (syc ((litS l).take 0)) ∧ Below w.heap.size w w1) := ⟨by rw [List.take_zero]; exact hown1, hb1⟩
  clear hown1 hg1 hb1
  go_loopw [3, 11] (fun s3 s11 wr => ∃ (k : Nat) (A' : Option Addr) (cp : Nat), s11 = .int .i64 (k : Int) ∧ k ≤ n ∧ s3 = .slice A' k cp ∧ Hid (wr.ownsRow w.heap.size 38 4 (.slice A' k cp) k (syc ((litS l).take k)) ∧ Below w.heap.size w wr)) (fun _ s11 _ => n - (intOf s11).toNat)
  case atStart => exact ⟨0, _, _, rfl, Nat.zero_le _, rfl, H⟩
  case round =>
    clear H
    obtain ⟨k, A', cp, rfl, hk, rfl, H⟩ := hrel
    by_cases hlt : k < n
    · have hlt' : (k : Int) < (n : Int) := by omega
      have hIr := h.below H.out.2
      obtain ⟨b, off, rfl, hc⟩ := hIr.1.cells_at (by omega)
      obtain ⟨x, hx⟩ : ∃ x, l[k]? = some x := ⟨_, List.getElem?_eq_getElem (by have := Hlen.out; omega)⟩
      have c0 := hc k x hx
      have Hst : Hid ((litS l).take (k + 1) = (litS l).take k ++ [lit x]) := by
        show _ = _
        rw [List.take_add_one]
        simp [litS, hx]
      clear hc hIr hx
      go_wp2_with (at_builtin; refine wpList_append_rd (w := wr.alloc (.cells #[.int .i64 1, .int .u8 (x.toNat : Int), .int .i64 0, .int .i64 0] 38)) rfl (.tmp 15) (.tmp 18) 24 rfl w.heap.size 38 i0 _ 4 32 Tryd.underlying24 hi0 hz0 hz1 hz2 rfl (by decide) (.slice A' k cp) k (syc ((litS l).take k)) rfl (H.out.1.alloc _) (some ⟨wr.heap.size, 0, none⟩) 1 1 (syc [lit x]) rfl (Rd.of_blk (Blk.new _ _ _) rfl rfl) (syc_one _) (by simp only [maxLen]; omega) (by omega) (by have := H.out.2.size; simp; omega) ?_; intro A2 c2 w2 hown2 hg2 hat2)
      go_roundw
      case rel =>
        refine ⟨k + 1, A2, c2, by go_num, by omega, rfl, ?_, ?_⟩
        · rw [Hst.out, syc_append]
          exact hown2
        · exact ((H.out.2.alloc H.out.2.size _).grown hg2 (by have := H.out.2.size; simp; omega) (fun g hg => (own_lt H.out.1 hg).1))
      case measure => simp [intOf]; omega
    · obtain rfl : k = n := by omega
      go_wp2_with fail
      go_ret
      have hll : (litS l).length = k := by rw [litS, List.length_map]; exact Hlen.out
      have h1 := H.out.1
      rw [List.take_of_length_le (by omega)] at h1
      refine ⟨A', cp, ?_, ?_, H.out.2⟩
      · rw [hll]; rfl
      · rw [hll]; exact h1
def knownL : List Sy := [⟨1, 97, 0, 0⟩, ⟨1, 98, 0, 0⟩, ⟨2, 0, 5, 2⟩, ⟨4, 0, 0, 0⟩, ⟨1, 120, 0, 0⟩, ⟨3, 0, 2, 0⟩]
theorem known_go : exGo 10 0 St.start [] knownL = ([97, 98, 97, 98, 97, 98, 97, 98, 120, 98, 120], 6, 0) := by decide +kernel
theorem known_in (w : World) (cs : Array Value) (h : cs.toList = syc knownL) : InS (w.alloc (.cells cs 38)) (some ⟨w.heap.size, 0, none⟩) 6 knownL :=
  ⟨Rd.of_blk (Blk.new w 38 cs) h rfl, fun _ ad had => by cases had; exact ⟨by simp, rfl⟩, by omega⟩
theorem known_str : strOf [97, 98, 97, 98, 97, 98, 97, 98, 120, 98, 120] = ⟨#[97, 98, 97, 98, 97, 98, 97, 98, 120, 98, 120]⟩ := rfl
set_option maxHeartbeats 1000000 in
theorem known_any (w : World) (hl : Laid w) : Calls Tryd.prog 25 #[] w fun e w' => e = .returned (.bool true) ∧ Below w.heap.size w w' := by
  go_enter Tryd.func25, Tryd.ntmps25
  go_wp2_with fail
  have hI := known_in w #[.int .i64 1, .int .u8 97, .int .i64 0, .int .i64 0, .int .i64 1, .int .u8 98, .int .i64 0, .int .i64 0, .int .i64 2, .int .u8 0, .int .i64 5, .int .i64 2, .int .i64 4, .int .u8 0, .int .i64 0, .int .i64 0, .int .i64 1, .int .u8 120, .int .i64 0, .int .i64 0, .int .i64 3, .int .u8 0, .int .i64 2, .int .i64 0] (by rfl)
  have hc := Expand_yes 10 (some ⟨w.heap.size, 0, none⟩) 6 6 knownL _ hI (hl.below ((Below.refl _ _).alloc (Nat.le_refl _) _)) (by omega) (by omega)
  rw [known_go] at hc
  refine hc.mono ?_
  rintro e w1 ⟨A1, c1, rfl, hO, hB⟩
  have hcv := conv_rd (c := c1) (Rd.of_own hO)
  rw [known_str] at hcv
  have Hb : Hid (Below w.heap.size w w1) := ((Below.refl _ w).alloc (Nat.le_refl _) _).trans (hB.mono (by simp))
  clear hc hO hB hI
  simp only [List.length_cons, List.length_nil] at hcv ⊢
  go_wp2_with fail
  go_ret
  exact ⟨rfl, Hb.out⟩
end Go.Proofs.YthcgchkcanhmnaaDoor
