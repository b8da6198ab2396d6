/-
  Laws on the way to the claim (Str CdBase WiB OpA). Conditions: those that each theorem states.
-/
import Derived.Test.YtcjehjdehdoaeaaGreatDoorChecked
import Derived.Test.YtcjehjdehdoaeaaGreatDoorOm01
import Derived.WalkKit
import Derived.WalkSpells
import Derived.WalkLawsBesides
import Derived.Deep.QuietTactic
import Derived.BigQuiet
import Derived.BigRegion
import Derived.Deep.LoopGhost
import Derived.Deep.RegionLaw
import Derived.Deep.RegionHeld3
import Derived.Deep.DeepCutAuto
import Derived.Test.YtcjehjdehdoaeaaGreatDoorOm02
set_option linter.unusedVariables false
set_option linter.unusedSimpArgs false
set_option maxRecDepth 1000000
set_option maxHeartbeats 16000000
namespace Go.Proofs.YtcjehjdehdoaeaaGreatDoor
open Go.RowKit
theorem Rd.cells_at {w : World} {A : Option Addr} {n : Nat} {l : List UInt8} (h : Rd w 1 A n (bys l)) (h0 : 0 < n) :
 ∃ b off, A = some ⟨b, off, none⟩ ∧ ∀ i x, l[i]? = some x → w.cell? ⟨b, off + i, none⟩ = some (.int .u8 (x.toNat : Int)) := by
 obtain ⟨ad, rfl, hc⟩ := h.2 h0;have hl : 0 < l.length := by have := h.1; rw [bys_length] at this; omega
 have c0 := hc 0 _ (bys_get (List.getElem?_eq_getElem hl));obtain ⟨b, off, spot⟩ := ad;have hspot : spot = none := by simpa [Addr.add] using World.cell?_spot c0
 subst hspot;refine ⟨b, off, rfl, fun i x hx => ?_⟩
 have := hc i _ (bys_get hx)
 rwa [show (⟨b, off, none⟩ : Addr).add i = ⟨b, off + i, none⟩ from by unfold Addr.add; split <;> simp_all] at this
def strOf (l : List UInt8) : ByteArray := ⟨l.toArray⟩
theorem strOf_data (l : List UInt8) : (strOf l).data.toList = l := rfl
theorem conv_rd {w : World} {A : Option Addr} {n c : Nat} {l : List UInt8} (h : Rd w 1 A n (bys l)) :
 (convert 22 9 (.slice A n c)).run Tryz.prog w = .ok (.string (strOf l)) w := by
 have hl : l.length = n := by have := h.1; rw [bys_length] at this; omega
 rcases A with _ | ad
 · have hn : n = 0 := by
    rcases Nat.eq_zero_or_pos n with h0 | h0
    · exact h0
    · obtain ⟨_, e, _⟩ := h.2 h0; cases e
   subst hn;obtain rfl : l = [] := List.eq_nil_of_length_eq_zero hl;rw [run_convert_bytes_string w 22 9 5 none 0 c Tryz.underlying22 Tryz.underlying5 Tryz.underlying9];rfl
 · subst hl;refine run_convert_bytes_back w 22 9 5 ad c l Tryz.underlying22 Tryz.underlying5 Tryz.underlying9 fun j hj => ?_
   obtain ⟨ad', e, hc⟩ := h.2 (by omega)
   cases e;exact hc j _ (bys_get (List.getElem?_eq_getElem hj))
theorem infou8 : (Tryz.prog.info? 5).map (fun i => (i.zero, i.size, i.bytes)) = some (some (.int .u8 0), 1, 1) := by kernel_rfl
theorem own_le {w : World} {B : Nat} {e : TypeId} {size n c : Nat} {a : Option Addr} {xs : List Value} (h : w.ownsRow B e size (.slice a n c) n xs) : n ≤ c := by
 rcases h.2 with ⟨hv, h0⟩ | ⟨g', cap', cur, hv, _, _, hn, _⟩
 · injection hv with _ h2 h3; omega
 · injection hv with _ _ h3; omega
theorem own_addr {w : World} {B : Nat} {e : TypeId} {size n c : Nat} {a : Option Addr} {xs : List Value} (h : w.ownsRow B e size (.slice a n c) n xs) {ad : Addr} (ha : a = some ad) : (Value.slice a n c).ownBlock = some ad.block := by
 subst ha; rfl
def In (w : World) (A : Option Addr) (n : Nat) (l : List UInt8) : Prop := Rd w 1 A n (bys l) ∧ (0 < n → ∀ ad, A = some ad → ad.block < w.heap.size) ∧ n ≤ 140737488351232
theorem In.len {w : World} {A : Option Addr} {n : Nat} {l : List UInt8} (h : In w A n l) : l.length = n := by have := h.1.1; rw [bys_length] at this; omega
theorem Rd.keep0 {w w' : World} {size n : Nat} {A : Option Addr} {xs : List Value} (h : Rd w size A n xs) (hk : 0 < n → ∀ ad, A = some ad → w'.heap[ad.block]? = w.heap[ad.block]?) : Rd w' size A n xs :=
 ⟨h.1, fun hn => by
  obtain ⟨ad, e, hc⟩ := h.2 hn;refine ⟨ad, e, fun j u hu => (World.cell?_of_block ?_).trans (hc j u hu)⟩
  rw [block_add];exact hk hn ad e⟩
theorem In.fr {S : Nat → Prop} {w w' : World} {A : Option Addr} {n : Nat} {l : List UInt8} (h : In w A n l) (hf : Fr S w w') (hS : 0 < n → ∀ ad, A = some ad → ¬ S ad.block) : In w' A n l :=
 ⟨h.1.keep0 fun h0 ad had => hf.block _ (h.2.1 h0 ad had) (hS h0 ad had), fun h0 ad had => Nat.lt_of_lt_of_le (h.2.1 h0 ad had) hf.size, h.2.2⟩
theorem In.below {w w' : World} {A : Option Addr} {n : Nat} {l : List UInt8} (h : In w A n l) (hb : Below w.heap.size w w') : In w' A n l :=
 h.fr (S := fun _ => False) ⟨hb.os, hb.tape, hb.output, hb.size, fun k hk _ => hb.block k hk⟩ fun _ _ _ e => e
theorem In.nil (w : World) : In w none 0 [] := ⟨⟨rfl, fun h => absurd h (by omega)⟩, (fun _ _ h => by cases h), by omega⟩
def Fresh (w w' : World) (a : Option Addr) (n c : Nat) (l : List UInt8) : Prop := w'.ownsRow w.heap.size 5 1 (.slice a n c) n (bys l) ∧ Below w.heap.size w w'
theorem In.cut {w : World} {A : Option Addr} {n c k : Nat} {l : List UInt8} (h : In w A n l) (hk : k ≤ n) (hc : n ≤ c) : In w (if c = k then A else A.map (·.add k)) (n - k) (l.drop k) := by
 refine ⟨?_, fun h0 ad had => ?_, by have := h.2.2; omega⟩
 · have := h.1.cut hk hc;rw [Nat.mul_one, bys_drop] at this;exact this
 · split at had
   · exact h.2.1 (by omega) ad had
   · cases A with
     | none => cases had
     | some a =>
      simp only [Option.map_some, Option.some.injEq] at had;subst had;rw [block_add];exact h.2.1 (by omega) a rfl
theorem In.take {w : World} {A : Option Addr} {n k : Nat} {l : List UInt8} (h : In w A n l) (hk : k ≤ n) : In w A k (l.take k) := by
 refine ⟨?_, fun h0 => h.2.1 (by omega), by have := h.2.2; omega⟩
 have := h.1.take hk;rw [Nat.mul_one, bys_take] at this;exact this
theorem bup {w w1 w2 : World} (h : Below w.heap.size w w1) (k : Below w1.heap.size w1 w2) : Below w.heap.size w w2 := h.trans (k.mono h.size)
theorem bmk_ {w w1 : World} (h : Below w.heap.size w w1) (o : Obj) : Below w.heap.size w (w1.alloc o) := h.alloc h.size _
end Go.Proofs.YtcjehjdehdoaeaaGreatDoor
section
namespace Go.Proofs.YtcjehjdehdoaeaaGreatDoor
theorem Fr.set1 {a w : World} {b : Nat} (h : Fr (fun k => k = b) a w) (i : Nat) (u : Value) : Fr (fun k => k = b) a (w.setCell ⟨b, i, none⟩ u) := h.setCell (.inl rfl) u
end Go.Proofs.YtcjehjdehdoaeaaGreatDoor
namespace Go.Proofs.YtcjehjdehdoaeaaGreatDoor.win
open Go.RowKit
theorem below_set {B g : Nat} {a w : World} (h : Below B a w) (hg : B ≤ g) (i : Nat) (u : Value) : Below B a (w.setCell ⟨g, i, none⟩ u) := h.setCell (p := ⟨g, i, none⟩) hg u
def ClearPost (B b size : Nat) (w : World) (e : Ending) (w' : World) : Prop :=
 e = .returned (.tuple #[]) ∧ Win w' B b none size [] ∧ Fr (fun k => k = b) w w'
theorem Clear_any (B b size : Nat) (r : Option Nat) (all : List UInt8) (w : World) (h : Win w B b r size all) :
 Calls Tryz.prog 195 #[.pointer (some ⟨b, 0, none⟩)] w (ClearPost B b size w) := by
 obtain ⟨v, xs, i, hb, hown, hv, hr, hs1, hs2, hBb⟩ := h;obtain ⟨c0, c1, c2, c3⟩ := hb.four;have f0 := hb.frozen 0;have f1 := hb.frozen 1;have f2 := hb.frozen 2;have f3 := hb.frozen 3;go_enter Tryz.func195, Tryz.ntmps195
 go_wp2
 go_end0
 refine ⟨rfl, ⟨.slice none 0 0, [], 0, ?_, World.ownsRow_nil _ _ _ _, rfl, (by rw [lastN_all (l := []) (Nat.zero_le _)]; exact Ring.nil _), hs1, hs2, hBb⟩, ?_⟩
 · have := (((hb.set_ 0 (.int .i64 (size : Int))).set_ 1 (.slice none 0 0)).set_ 2 (.int .i64 0)).set_ 3 (.int .i64 0);exact this
 · exact ((((Fr.refl _ _).set1 0 _).set1 1 _).set1 2 _).set1 3 _
def ForkPost (size : Nat) (all : List UInt8) (w : World) (e : Ending) (w' : World) : Prop :=
 ∃ r', e = .returned (.pointer (some ⟨w.heap.size, 0, none⟩)) ∧ Win w' w.heap.size w.heap.size r' size all ∧ Below w.heap.size w w'
theorem Fork_any (B b size : Nat) (r : Option Nat) (all : List UInt8) (w : World) (h : Win w B b r size all) :
 Calls Tryz.prog 122 #[.pointer (some ⟨b, 0, none⟩)] w (ForkPost size all w) := by
 obtain ⟨v, xs, i, hb, hown, hv, hr, hs1, hs2, hBb⟩ := h;obtain ⟨va, vc, rfl⟩ := own_slice hown;obtain ⟨c0, c1, c2, c3⟩ := hb.four;have hxs := hr.1;have blt := hb.lt;obtain ⟨i0, hi0, hz0, hz1, hz2⟩ := info_parts infou8;go_enter Tryz.func122, Tryz.ntmps122;have hB0 := Lib.hid ((Blk.new w 247 #[.int .i64 (size : Int), .slice va xs.length vc, .int .i64 (i : Int), .int .i64 (all.length : Int)]).alloc (.cells #[] 5))
 have hO1 := (World.ownsRow_made (base := w.heap.size) (e := 5) (size := 1) (w.alloc (.cells #[.int .i64 (size : Int), .slice va xs.length vc, .int .i64 (i : Int), .int .i64 (all.length : Int)] 247)) #[] 0 (by simp) (by unfold maxLen; omega) rfl)
 simp only [World.size_alloc] at hO1;have hO0 := Lib.hid hO1;have hR0 := Lib.hid (Rd.of_own ((hown.alloc (.cells #[.int .i64 (size : Int), .slice va xs.length vc, .int .i64 (i : Int), .int .i64 (all.length : Int)] 247)).alloc (.cells #[] 5)));clear hb hown hO1;go_wp2_with (at_builtin; refine wpList_append_rd rfl (.tmp 7) (.tmp 11) 22 rfl w.heap.size 5 i0 _ 1 1 Tryz.underlying22 hi0 hz0 hz1 hz2 rfl (by decide) (.slice (some ⟨w.heap.size + 1, 0, none⟩) 0 0) 0 [] rfl hO0.out _ _ _ (bys xs) rfl hR0.out (bys_one _) (by simp only [maxLen]; omega) (by omega) (by simp; omega) ?_; intro a1 c1 w1 hown1 hg1 hat1; have hb1 : Blk w1 w.heap.size 247 _ := hB0.out.same (hg1.block _ hB0.out.lt (by simp [Value.ownBlock])); obtain ⟨d0, d1, d2, d3⟩ := hb1.four; have f1 := hb1.frozen 1)
 go_ret;have hlen : (bys xs).length = xs.length := bys_length _;refine ⟨_, rfl, ⟨.slice a1 xs.length c1, xs, i, ?_, ?_, rfl, hr, hs1, hs2, Nat.le_refl _⟩, ?_⟩
 · have := hb1.set_ 1 (.slice a1 xs.length c1);exact this
 · have h1 := own_far hown1 (own_ne hown1 hb1 (by decide)) (p := ⟨w.heap.size, 1, none⟩) (.slice a1 xs.length c1)
   simp only [Nat.zero_add, List.nil_append] at h1;exact h1
 · refine below_set ?_ (Nat.le_refl _) _ _;refine Below.grown ?_ hg1 (by simp; omega) (fun g hg => ?_)
   · exact ((Below.refl _ w).alloc (Nat.le_refl _) _).alloc (by simp) _
   · simp [Value.ownBlock] at hg; omega
def ext (d : Nat) : Nat → List UInt8 → List UInt8
 | 0, l => l
 | n + 1, l => let l' := ext d n l; l' ++ [l'.getD (l'.length - d) 0]
theorem ext_length (d n : Nat) (l : List UInt8) : (ext d n l).length = l.length + n := by
 induction n with
 | zero => rfl
 | succ n ih => simp only [ext, List.length_append, ih, List.length_cons, List.length_nil]; omega
theorem ext_drop (d n : Nat) (l : List UInt8) : (ext d (n + 1) l).drop l.length = (ext d n l).drop l.length ++ [(ext d n l).getD ((ext d n l).length - d) 0] := by
 show List.drop _ (ext d n l ++ [_]) = _;rw [List.drop_append_of_le_length (by rw [ext_length]; omega)]
theorem full_ext (d n size : Nat) (l : List UInt8) : full size l ≤ full size (ext d n l) := by unfold full; rw [ext_length]; omega
structure CopyRel (B b size : Nat) (r : Option Nat) (all : List UInt8) (d : Nat) (w : World) (k : Nat) (A : Option Addr) (c : Nat) (r' : Option Nat) (wr : World) : Prop where
 own : wr.ownsRow w.heap.size 5 1 (.slice A k c) k (bys ((ext d k all).drop all.length))
 win : Win wr B b r' size (ext d k all)
 fr : Fr (fun k => k = b ∨ some k = r) w wr
 at_ : ∀ g, r' = some g → r = some g ∨ w.heap.size ≤ g
 ne : ∀ g, r' = some g → (Value.slice A k c).ownBlock ≠ some g
theorem CopyRel.step {B b size : Nat} {r : Option Nat} {all : List UInt8} {d : Nat} {w : World} {k : Nat} {A : Option Addr} {c : Nat} {r' : Option Nat} {wr : World} (h : CopyRel B b size r all d w k A c r' wr)
 (o : Obj) {w1 : World} {r1 : Option Nat} (hw : Win w1 B b r1 size (ext d (k + 1) all)) (hf : Fr (fun k => k = b ∨ some k = r') (wr.alloc o) w1) (ha : ∀ g, r1 = some g → r' = some g ∨ (wr.alloc o).heap.size ≤ g)
 (o' : Obj) {w2 : World} {A2 : Option Addr} {c2 : Nat} (hown : w2.ownsRow w.heap.size 5 1 (.slice A2 (k + 1) c2) (k + 1) (bys ((ext d (k + 1) all).drop all.length)))
 (hg : (w1.alloc o').grownBy w2 (Value.slice A k c).ownBlock) (hat : (Value.slice A2 (k + 1) c2).ownBlock = (Value.slice A k c).ownBlock ∨ (Value.slice A2 (k + 1) c2).ownBlock = some (w1.alloc o').heap.size) :
 CopyRel B b size r all d w (k + 1) A2 c2 r1 w2 := by
 have hb := h.win.lt.1;have hown0 : ∀ g, (Value.slice A k c).ownBlock = some g → w.heap.size ≤ g ∧ g < wr.heap.size := fun g hg => own_lt h.own hg
 have hbo : some b ≠ (Value.slice A k c).ownBlock := fun e => (own_bt h.own e.symm).ne h.win.bt.1 (by decide) rfl
 have h1 : ∀ g, r1 = some g → some g ≠ (Value.slice A k c).ownBlock := fun g hg e => by
  rcases ha g hg with h2 | h2
  · exact h.ne g h2 e.symm
  · have := (hown0 g e.symm).2;simp at h2; omega
 have hs := hf.size;have hs2 := hg.size;simp only [World.size_alloc] at hs hs2;refine ⟨hown, ?_, ?_, ?_, ?_⟩
 · refine hw.keep ((hg.block b (by simp; have := hw.lt.1; omega) hbo).trans (Below.heap_alloc _ _ _ hw.lt.1)) fun g hgg => ?_
   have := (hw.lt.2 g hgg).2;exact (hg.block g (by simp; omega) (h1 g hgg)).trans (Below.heap_alloc _ _ _ this)
 · refine Fr.grown (Fr.alloc ((h.fr.alloc o).trans' hf ?_) o') hg ?_
   · intro i hi hx;rcases hx with hx | hx
     · exact .inl hx
     · rcases h.at_ i hx.symm with h2 | h2
       · exact .inr h2.symm
       · omega
   · intro g hgg;exact .inr (hown0 g hgg).1
 · intro g hgg;rcases ha g hgg with h2 | h2
   · exact h.at_ g h2
   · have := h.fr.size;simp at h2;exact .inr (by omega)
 · intro g hgg;rcases hat with h2 | h2
   · rw [h2]; exact fun e => h1 g hgg e.symm
   · rw [h2];intro e;have := (hw.lt.2 g hgg).2;cases e;simp at this;omega
def CopyPost (B b size : Nat) (r : Option Nat) (all : List UInt8) (d n : Nat) (w : World) (e : Ending) (w' : World) : Prop :=
 ∃ A c r', e = .returned (.tuple #[.slice A n c, .int .i64 0]) ∧ CopyRel B b size r all d w n A c r' w'
theorem Copy_no (B b size : Nat) (r : Option Nat) (all : List UInt8) (d n : Int) (w : World) (h : Win w B b r size all) (hd : ¬ (1 ≤ d ∧ d ≤ full size all ∧ 0 ≤ n ∧ n ≤ 273)) :
 Calls Tryz.prog 164 #[.pointer (some ⟨b, 0, none⟩), .int .i64 d, .int .i64 n] w fun e w' => e = .returned (.tuple #[.slice none 0 0, .int .i64 7]) ∧ w = w' := by
 by_cases h1 : 1 ≤ d ∧ d ≤ full size all
 · have hn : n < 0 ∨ 0 ≤ n ∧ 273 < n := by omega
   clear hd;rcases hn with hn | ⟨hn0, hn⟩
   · go_enter Tryz.func164, Tryz.ntmps164;go_wp2_with fail;refine (in_yes B b size r all d w h h1.1 h1.2).mono ?_;rintro e w' ⟨rfl, rfl⟩;go_wp2_with fail
     go_ret2
     exact ⟨rfl, rfl⟩
   · have hn' : ¬ n < 0 := by omega
     go_enter Tryz.func164, Tryz.ntmps164;go_wp2_with fail;refine (in_yes B b size r all d w h h1.1 h1.2).mono ?_;rintro e w' ⟨rfl, rfl⟩;go_wp2_with fail
     go_ret2
     exact ⟨rfl, rfl⟩
 · clear hd;go_enter Tryz.func164, Tryz.ntmps164;go_wp2_with fail;refine (in_no B b size r all d w h h1).mono ?_;rintro e w' ⟨rfl, rfl⟩;go_wp2_with fail
   go_ret2
   exact ⟨rfl, rfl⟩
theorem Copy_yes (B b size : Nat) (r : Option Nat) (all : List UInt8) (d n : Nat) (w : World) (h : Win w B b r size all) (h1 : 1 ≤ d) (h2 : d ≤ full size all) (hn : n ≤ 273) (hlen : all.length < 4611686018427380000) :
 Calls Tryz.prog 164 #[.pointer (some ⟨b, 0, none⟩), .int .i64 (d : Int), .int .i64 (n : Int)] w (CopyPost B b size r all d n w) := by
 obtain ⟨i0, hi0, hz0, hz1, hz2⟩ := info_parts infou8;have hn1 : ¬ (n : Int) < 0 := by omega
 have hn2 : (n : Int) ≤ 273 := by omega
 have hBw : B ≤ w.heap.size := by have := h.base; have := h.lt.1; omega
 go_enter Tryz.func164, Tryz.ntmps164;go_wp2_with fail;refine (in_yes B b size r all d w h (by omega) (by omega)).mono ?_
 rintro e w' ⟨rfl, rfl⟩;go_wp2_with (at_make; refine wpList_make_own w rfl (.const (.int .i64 0)) (.tmp 22) 22 rfl w.heap.size 5 i0 _ 1 Tryz.underlying22 hi0 hz0 hz1 .i64 .i64 (n : Int) n rfl rfl rfl (by rw [hz2]; omega) (by unfold maxLen; omega) (Nat.le_refl _) ?_; intro w1 hown1 hg1)
 have hR0 : CopyRel B b size r all d w 0 (some ⟨w.heap.size, 0, none⟩) n r w1 := by
  refine ⟨?_, ?_, ?_, ?_, ?_⟩
  · have e : (ext d 0 all).drop all.length = [] := List.drop_length;rw [e]; exact hown1
  · exact h.keep (hg1.block b h.lt.1 (by simp)) fun g hg => hg1.block g (h.lt.2 g hg).2 (by simp)
  · exact (Fr.refl _ w).grown hg1 (fun g hg => by cases hg)
  · exact fun g hg => .inl hg
  · intro g hg e;have := (h.lt.2 g hg).2;simp [Value.ownBlock] at e;omega
 have H := Lib.hid hR0;clear hR0 hown1 hg1
 go_loopw [8, 25] (fun s8 s25 wr => ∃ (k : Nat) (A : Option Addr) (c : Nat) (r' : Option Nat), s25 = .int .i64 k ∧ k ≤ n ∧ s8 = .slice A k c ∧ Hid (CopyRel B b size r all d w k A c r' wr)) (fun _ s25 _ => n - (intOf s25).toNat)
 case atStart => exact ⟨0, _, _, _, rfl, Nat.zero_le _, rfl, H⟩
 case round =>
  clear H;obtain ⟨k, A, c, r', rfl, hk, rfl, H⟩ := hrel;by_cases hlt : k < n
  · have hlt' : (k : Int) < (n : Int) := by omega
    have hwr := H.out.win;have hl := ext_length d k all;have hfl := full_ext d k size all;have hfd : full size all ≤ all.length := full_len;obtain ⟨x, hx⟩ : ∃ x, (ext d k all).getD ((ext d k all).length - d) 0 = x := ⟨_, rfl⟩;have hx' : (ext d k all)[(ext d k all).length - d]? = some x := by
     rw [← hx, List.getD_eq_getElem?_getD, List.getElem?_eq_getElem (by omega)]; rfl
    have hnext : ext d (k + 1) all = ext d k all ++ [x] := by show ext d k all ++ [_] = _; rw [hx]
    have hl2 : (ext d k all).length + 1 < 4611686018427387904 := by omega
    have h3 : d ≤ full size (ext d k all) := by omega
    have Hx := Lib.hid hx;have Hnext := Lib.hid hnext;clear hx hnext hl hfl;go_wp2_with fail;refine (back_any B b size r' (ext d k all) d x wr hwr h1 h3 hx').mono ?_;rintro e w' ⟨rfl, rfl⟩;go_wp2_with fail;have hS : Src (wr.alloc (.cells #[.int .u8 (x.toNat : Int)] 5)) b r' (some ⟨wr.heap.size, 0, none⟩) 1 1 [x] := by
     refine ⟨⟨rfl, fun _ => ⟨_, rfl, World.news_of_block (heap_alloc_new wr _)⟩⟩, Nat.le_refl _, ?_⟩
     intro ad had;cases had;refine ⟨by simp, ?_, ?_⟩
     · have := hwr.lt.1; simp; omega
     · intro e;have := (hwr.lt.2 _ e).2;simp at this
    refine (Put_any B b size r' (ext d k all) _ 1 1 [x] _ (hwr.below ((Below.refl _ _).alloc (Nat.le_refl _) _)) hS hl2).mono ?_;rintro e w2 ⟨rfl, r2, hW2, hF2, hA2⟩;rw [← Hnext.out] at hW2;have hown0 := H.out.own;have hown2 : w2.ownsRow w.heap.size 5 1 (.slice A k c) k (bys ((ext d k all).drop all.length)) :=
     own_same (hown0.alloc (.cells #[.int .u8 (x.toNat : Int)] 5)) fun g hg => hF2.block g (by have := (own_lt hown0 hg).2; simp; omega) (by
      rintro (e | e)
      · exact (own_bt hown0 hg).ne hwr.bt.1 (by decide) e
      · exact H.out.ne g e.symm hg)
    have hHs : w.heap.size ≤ w2.heap.size := by have := H.out.fr.size; have := hF2.size; simp at this; omega
    have hwo := Lib.hid hown2;have HW2 := Lib.hid hW2;have HF2 := Lib.hid hF2;have HA2 := Lib.hid hA2;clear hW2 hF2 hA2 hown0 hown2 hwr hx' hS;go_wp2_with (at_builtin; refine wpList_append_rd (w := w2.alloc (.cells #[.int .u8 (x.toNat : Int)] 5)) rfl (.tmp 34) (.tmp 36) 22 rfl w.heap.size 5 i0 _ 1 1 Tryz.underlying22 hi0 hz0 hz1 hz2 rfl (by decide) (.slice A k c) k (bys ((ext d k all).drop all.length)) rfl (hwo.out.alloc _) (some ⟨w2.heap.size, 0, none⟩) 1 1 (bys [x]) rfl ⟨rfl, fun _ => ⟨_, rfl, World.news_of_block (heap_alloc_new w2 _)⟩⟩ (bys_one _) (by simp only [maxLen]; omega) (by omega) (by simp; omega) ?_; intro a3 c3 w3 hown3 hg3 hat3)
    go_roundw
    case rel =>
     refine ⟨k + 1, a3, c3, r2, by go_num, by omega, rfl, ?_⟩
     refine H.out.step _ HW2.out HF2.out HA2.out _ ?_ hg3 hat3;rw [ext_drop, Hx.out, bys_append];exact hown3
    case measure => simp [intOf]; omega
  · obtain rfl : k = n := by omega
    go_wp2_with fail
    go_ret2
    exact ⟨_, _, _, rfl, H.out⟩
end Go.Proofs.YtcjehjdehdoaeaaGreatDoor.win
namespace Go.Proofs.YtcjehjdehdoaeaaGreatDoor.win
open Go.RowKit
theorem own_le {w : World} {B : Nat} {e : TypeId} {size n c : Nat} {a : Option Addr} {xs : List Value} (h : w.ownsRow B e size (.slice a n c) n xs) : n ≤ c := by
 rcases h.2 with ⟨hv, h0⟩ | ⟨g', cap', cur, hv, _, _, hn, _⟩
 · injection hv with _ h2 h3; omega
 · injection hv with _ _ h3; omega
theorem own_addr {w : World} {B : Nat} {e : TypeId} {size n c : Nat} {a : Option Addr} {xs : List Value} (h : w.ownsRow B e size (.slice a n c) n xs) {ad : Addr} (ha : a = some ad) : (Value.slice a n c).ownBlock = some ad.block := by
 subst ha; rfl
theorem Src.of_own {w : World} {B b n c : Nat} {r : Option Nat} {a : Option Addr} {ys : List UInt8} (h : w.ownsRow B 5 1 (.slice a n c) n (bys ys)) (hb : BT w b 247) (hr : ∀ g, (Value.slice a n c).ownBlock = some g → r ≠ some g) : Src w b r a n c ys :=
 ⟨Rd.of_own h, own_le h, fun ad had => ⟨(own_lt h (own_addr h had)).2, (own_bt h (own_addr h had)).ne hb (by decide), hr _ (own_addr h had)⟩⟩
def In (w : World) (A : Option Addr) (n : Nat) (l : List UInt8) : Prop := Rd w 1 A n (bys l) ∧ (0 < n → ∀ ad, A = some ad → ad.block < w.heap.size) ∧ n ≤ 140737488351232
theorem In.len {w : World} {A : Option Addr} {n : Nat} {l : List UInt8} (h : In w A n l) : l.length = n := by have := h.1.1; rw [bys_length] at this; omega
theorem Rd.keep0 {w w' : World} {size n : Nat} {A : Option Addr} {xs : List Value} (h : Rd w size A n xs) (hk : 0 < n → ∀ ad, A = some ad → w'.heap[ad.block]? = w.heap[ad.block]?) : Rd w' size A n xs :=
 ⟨h.1, fun hn => by
  obtain ⟨ad, e, hc⟩ := h.2 hn;refine ⟨ad, e, fun j u hu => (World.cell?_of_block ?_).trans (hc j u hu)⟩
  rw [block_add];exact hk hn ad e⟩
theorem In.fr {S : Nat → Prop} {w w' : World} {A : Option Addr} {n : Nat} {l : List UInt8} (h : In w A n l) (hf : Fr S w w') (hS : 0 < n → ∀ ad, A = some ad → ¬ S ad.block) : In w' A n l :=
 ⟨h.1.keep0 fun h0 ad had => hf.block _ (h.2.1 h0 ad had) (hS h0 ad had), fun h0 ad had => Nat.lt_of_lt_of_le (h.2.1 h0 ad had) hf.size, h.2.2⟩
theorem In.below {w w' : World} {A : Option Addr} {n : Nat} {l : List UInt8} (h : In w A n l) (hb : Below w.heap.size w w') : In w' A n l :=
 h.fr (S := fun _ => False) ⟨hb.os, hb.tape, hb.output, hb.size, fun k hk _ => hb.block k hk⟩ fun _ _ _ e => e
theorem In.nil (w : World) : In w none 0 [] := ⟨⟨rfl, fun h => absurd h (by omega)⟩, (fun _ _ h => by cases h), by omega⟩
end Go.Proofs.YtcjehjdehdoaeaaGreatDoor.win
namespace Go.Proofs.YtcjehjdehdoaeaaGreatDoor.win
open Go.RowKit
def Fresh (w w' : World) (a : Option Addr) (n c : Nat) (l : List UInt8) : Prop := w'.ownsRow w.heap.size 5 1 (.slice a n c) n (bys l) ∧ Below w.heap.size w w'
theorem Fresh.win {w w' : World} {a : Option Addr} {n c : Nat} {l : List UInt8} (h : Fresh w w' a n c l) {B b size : Nat} {r : Option Nat} {all : List UInt8} (hw : Win w B b r size all) : Win w' B b r size all := hw.below h.2
theorem PutPost.below {B b size : Nat} {r : Option Nat} {all all0 : List UInt8} {w w' : World} {e : Ending} (h : PutPost B b size r all w e w') (hw : Win w B b r size all0) {C : Nat} (hC : C ≤ B) : Below C w w' := by
 obtain ⟨_, _, _, hF, _⟩ := h;exact hF.below (by have := hw.base; have := hw.lt.1; omega) fun k hk => by
  rcases hk with rfl | hk
  · have := hw.base; omega
  · have := (hw.lt.2 k hk.symm).1; omega
theorem CopyRel.below {B b size : Nat} {r : Option Nat} {all : List UInt8} {d k c : Nat} {A : Option Addr} {r' : Option Nat} {w wr : World} (h : CopyRel B b size r all d w k A c r' wr) (hw : Win w B b r size all) {C : Nat} (hC : C ≤ B) : Below C w wr :=
 h.fr.below (by have := hw.base; have := hw.lt.1; omega) fun k hk => by
  rcases hk with rfl | hk
  · have := hw.base; omega
  · have := (hw.lt.2 k hk.symm).1; omega
theorem In.cut {w : World} {A : Option Addr} {n c k : Nat} {l : List UInt8} (h : In w A n l) (hk : k ≤ n) (hc : n ≤ c) : In w (if c = k then A else A.map (·.add k)) (n - k) (l.drop k) := by
 refine ⟨?_, fun h0 ad had => ?_, by have := h.2.2; omega⟩
 · have := h.1.cut hk hc;rw [Nat.mul_one, bys_drop] at this;exact this
 · split at had
   · exact h.2.1 (by omega) ad had
   · cases A with
     | none => cases had
     | some a =>
      simp only [Option.map_some, Option.some.injEq] at had;subst had;rw [block_add];exact h.2.1 (by omega) a rfl
theorem In.take {w : World} {A : Option Addr} {n k : Nat} {l : List UInt8} (h : In w A n l) (hk : k ≤ n) : In w A k (l.take k) := by
 refine ⟨?_, fun h0 => h.2.1 (by omega), by have := h.2.2; omega⟩
 have := h.1.take hk;rw [Nat.mul_one, bys_take] at this;exact this
theorem Fresh.in_ {w w' : World} {a : Option Addr} {n c : Nat} {l : List UInt8} (h : Fresh w w' a n c l) (hn : n ≤ 140737488351232) : In w' a n l :=
 ⟨Rd.of_own h.1, fun _ ad had => (own_lt h.1 (own_addr h.1 had)).2, hn⟩
def InI (w : World) (A : Option Addr) (n : Nat) (l : List Int) : Prop :=
 l.length = n ∧ n ≤ 140737488351232 ∧ ∀ i, i < n → ∃ b off k, A = some ⟨b, off, none⟩ ∧ l[i]? = some k ∧ b < w.heap.size ∧ w.cell? ⟨b, off + i, none⟩ = some (.int .i64 k) ∧ -9223372036854775808 ≤ k ∧ k ≤ 9223372036854775807
theorem InI.below {w w' : World} {A : Option Addr} {n : Nat} {l : List Int} (h : InI w A n l) (hb : Below w.heap.size w w') : InI w' A n l :=
 ⟨h.1, h.2.1, fun i hi => by
  obtain ⟨b, off, k, e1, e2, e3, e4, e5⟩ := h.2.2 i hi;exact ⟨b, off, k, e1, e2, Nat.lt_of_lt_of_le e3 hb.size, (hb.cell (p := ⟨b, off + i, none⟩) e3).trans e4, e5⟩⟩
end Go.Proofs.YtcjehjdehdoaeaaGreatDoor.win
namespace Go.Proofs.YtcjehjdehdoaeaaGreatDoor.win
open Go.RowKit
end Go.Proofs.YtcjehjdehdoaeaaGreatDoor.win
end
namespace Go.Proofs.YtcjehjdehdoaeaaGreatDoor
open Go.RowKit
theorem In.at_ {w : World} {A : Option Addr} {m j : Nat} {l : List UInt8} (h : In w A m l) (hj : j < m) : ∃ ad, A = some ad ∧ w.cell? (ad.add j) = some (.int .u8 ((l.getD j 0).toNat : Int)) := by
 obtain ⟨ad, hA, hc⟩ := h.1.2 (by omega)
 have hl := h.len;refine ⟨ad, hA, hc j _ ?_⟩;have : j < l.length := by omega
 unfold bys;simp [List.getD, this]
def i64s (l : List Int) : List Value := l.map fun z => .int .i64 z
def takenI (p : Int) : Int := max 0 (min p 2047)
theorem takenI_bd (p : Int) : 0 ≤ takenI p ∧ takenI p ≤ 2047 := by unfold takenI; omega
def pnext (p bit : Int) : Int := if bit = 0 then takenI p + (2048 - takenI p) / 32 else takenI p - takenI p / 32
def boundI (rng p : Int) : Int := IntKind.u32.wrap (rng / 2048 * takenI p)
theorem taken_any (p : Int) (w : World) : Calls Tryz.prog 241 #[.int .i64 p] w fun e w' => e = .returned (.int .i64 (takenI p)) ∧ w' = w := by
 obtain ⟨r, hr⟩ : ∃ r, takenI p = r := ⟨_, rfl⟩;rw [hr];unfold takenI at hr;go_enter Tryz.func241, Tryz.ntmps241;go_wp2_with fail;all_goals
  go_ret;refine ⟨?_, rfl⟩;show Ending.returned (.int .i64 _) = _
  congr 2
  omega
theorem pnext_any (p bit : Int) (w : World) : Calls Tryz.prog 240 #[.int .i64 p, .int .i64 bit] w fun e w' => e = .returned (.int .i64 (pnext p bit)) ∧ w' = w := by
 have ht := takenI_bd p;have H := Lib.hid (taken_any p w);unfold pnext;obtain ⟨q, hq⟩ : ∃ q, takenI p = q := ⟨_, rfl⟩;rw [hq] at H ht ⊢;obtain ⟨h0, h1⟩ := ht;clear hq;by_cases hb : bit = 0
 · rw [if_pos hb];subst hb;go_enter Tryz.func240, Tryz.ntmps240;go_wp2_with fail;refine H.out.mono ?_;rintro e w' ⟨rfl, rfl⟩;go_wp2_with fail;go_ret;exact ⟨rfl, rfl⟩
 · rw [if_neg hb];go_enter Tryz.func240, Tryz.ntmps240;go_wp2_with fail;refine H.out.mono ?_;rintro e w' ⟨rfl, rfl⟩;go_wp2_with fail;go_ret;exact ⟨rfl, rfl⟩
theorem Bound_any (rng p : Int) (w : World) (h : 0 ≤ rng ∧ rng ≤ 4294967295) : Calls Tryz.prog 234 #[.int .u32 rng, .int .i64 p] w fun e w' => e = .returned (.int .u32 (boundI rng p)) ∧ w' = w := by
 have ht := takenI_bd p;have H := Lib.hid (taken_any p w);unfold boundI;obtain ⟨q, hq⟩ : ∃ q, takenI p = q := ⟨_, rfl⟩;rw [hq] at H ht ⊢;obtain ⟨h0, h1⟩ := ht;obtain ⟨h2, h3⟩ := h;clear hq;go_enter Tryz.func234, Tryz.ntmps234;go_wp2_with fail;refine H.out.mono ?_;rintro e w' ⟨rfl, rfl⟩;go_wp2_with fail;go_ret;exact ⟨rfl, rfl⟩
structure Ps (sb rb : Nat) (ps : List Int) (w : World) : Prop where
 s : Blk w sb 334 #[.slice (some ⟨rb, 0, none⟩) ps.length ps.length]
 r : Blk w rb 3 (i64s ps).toArray
 n : ps.length ≤ 1048576
section
variable {sb rb : Nat} {ps : List Int} {w w' : World}
theorem Ps.below (h : Ps sb rb ps w) (hb : Below w.heap.size w w') : Ps sb rb ps w' := ⟨h.s.below hb, h.r.below hb, h.n⟩
theorem Ps.fr {S : Nat → Prop} (h : Ps sb rb ps w) (hf : Fr S w w') (h1 : ¬ S sb) (h2 : ¬ S rb) : Ps sb rb ps w' := ⟨h.s.fr hf h1, h.r.fr hf h2, h.n⟩
theorem Ps.ne (h : Ps sb rb ps w) : sb ≠ rb := fun e => by
 have h1 := h.s;have h2 := h.r;subst e;unfold Blk at h1 h2;rw [h1] at h2;injection h2 with h2;injection h2 with _ h2;exact absurd h2 (by decide)
theorem Ps.cell (h : Ps sb rb ps w) {i : Nat} (hi : i < ps.length) : w.cell? ⟨rb, i, none⟩ = some (.int .i64 (ps.getD i 0)) := by
 rw [h.r.cell i];simp [i64s, List.getD, hi]
theorem Ps.set (h : Ps sb rb ps w) (i : Nat) (p : Int) : Ps sb rb (ps.set i p) (w.setCell ⟨rb, i, none⟩ (.int .i64 p)) := by
 refine ⟨?_, ?_, ?_⟩
 · rw [List.length_set];exact h.s.far h.ne _
 · have := h.r.set_ i (.int .i64 p);rw [show (i64s (ps.set i p)).toArray = (i64s ps).toArray.setIfInBounds i (.int .i64 p) from by simp [i64s, List.map_set]]
   exact this
 · rw [List.length_set]; exact h.n
end
theorem has_yes (sb rb : Nat) (ps : List Int) (i : Nat) (w : World) (h : Ps sb rb ps w) (hi : i < ps.length) : Calls Tryz.prog 239 #[.pointer (some ⟨sb, 0, none⟩), .int .i64 i] w fun e w' => e = .returned (.int .i64 0) ∧ w' = w := by
 have c0 := h.s.one;have hn := h.n;have h1 : (i : Int) < (ps.length : Int) := by omega
 clear h hi;go_enter Tryz.func239, Tryz.ntmps239;go_wp2_with fail;go_ret;exact ⟨rfl, rfl⟩
theorem has_no (sb rb : Nat) (ps : List Int) (i : Int) (w : World) (h : Ps sb rb ps w) (hi : i < 0 ∨ (ps.length : Int) ≤ i) : Calls Tryz.prog 239 #[.pointer (some ⟨sb, 0, none⟩), .int .i64 i] w fun e w' => e = .returned (.int .i64 7) ∧ w' = w := by
 have c0 := h.s.one;have hn := h.n;clear h;by_cases h0 : i < 0
 · clear hi;go_enter Tryz.func239, Tryz.ntmps239;go_wp2_with fail;go_ret;exact ⟨rfl, rfl⟩
 · have h1 : ¬ i < (ps.length : Int) := by omega
   clear hi;go_enter Tryz.func239, Tryz.ntmps239;go_wp2_with fail;go_ret;exact ⟨rfl, rfl⟩
theorem At_yes (sb rb : Nat) (ps : List Int) (i : Nat) (w : World) (h : Ps sb rb ps w) (hi : i < ps.length) : Calls Tryz.prog 229 #[.pointer (some ⟨sb, 0, none⟩), .int .i64 i] w fun e w' => e = .returned (.tuple #[.int .i64 (ps.getD i 0), .int .i64 0]) ∧ w' = w := by
 have c0 := h.s.one;have c1 := h.cell hi;have hn := h.n;have h1 : (i : Int) < (ps.length : Int) := by omega
 have H := Lib.hid (has_yes sb rb ps i w h hi);clear h hi;go_enter Tryz.func229, Tryz.ntmps229;go_wp2_with fail;refine H.out.mono ?_;rintro e w' ⟨rfl, rfl⟩;go_wp2_with fail
 go_ret2
 exact ⟨rfl, rfl⟩
theorem At_no (sb rb : Nat) (ps : List Int) (i : Int) (w : World) (h : Ps sb rb ps w) (hi : i < 0 ∨ (ps.length : Int) ≤ i) : Calls Tryz.prog 229 #[.pointer (some ⟨sb, 0, none⟩), .int .i64 i] w fun e w' => e = .returned (.tuple #[.int .i64 0, .int .i64 7]) ∧ w' = w := by
 have H := Lib.hid (has_no sb rb ps i w h hi);clear h hi;go_enter Tryz.func229, Tryz.ntmps229;go_wp2_with fail;refine H.out.mono ?_;rintro e w' ⟨rfl, rfl⟩;go_wp2_with fail
 go_ret2
 exact ⟨rfl, rfl⟩
theorem Turn_yes (sb rb : Nat) (ps : List Int) (i : Nat) (bit : Int) (w : World) (h : Ps sb rb ps w) (hi : i < ps.length) : Calls Tryz.prog 232 #[.pointer (some ⟨sb, 0, none⟩), .int .i64 i, .int .i64 bit] w fun e w' => e = .returned (.int .i64 0) ∧ Ps sb rb (ps.set i (pnext (ps.getD i 0) bit)) w' ∧ Fr (fun k => k = rb) w w' := by
 have c0 := h.s.one;have c1 := h.cell hi;have f1 := h.r.frozen i;have hn := h.n;have h1 : (i : Int) < (ps.length : Int) := by omega
 have H := Lib.hid (has_yes sb rb ps i w h hi);have HP := Lib.hid h;obtain ⟨p, hp⟩ : ∃ p, ps.getD i 0 = p := ⟨_, rfl⟩;rw [hp] at c1 ⊢;clear h hi hp;go_enter Tryz.func232, Tryz.ntmps232;go_wp2_with fail;refine H.out.mono ?_;rintro e w' ⟨rfl, rfl⟩;go_wp2_with fail;go_region_with (first | (go_at_call 240; refine (pnext_any p bit _).mono ?_; rintro e w' ⟨rfl, rfl⟩))
 all_goals
  go_wp2_with fail;go_ret;exact ⟨rfl, (HP.out.below (below_drewN (Below.refl _ _) 1)).set i _, Fr.set1 ((Fr.refl _ _).drewN 1) i _⟩
theorem PLen_any (sb rb : Nat) (ps : List Int) (w : World) (h : Ps sb rb ps w) : Calls Tryz.prog 248 #[.pointer (some ⟨sb, 0, none⟩)] w fun e w' => e = .returned (.int .i64 ps.length) ∧ w' = w := by
 have c0 := h.s.one;have hn := h.n;clear h;go_enter Tryz.func248, Tryz.ntmps248;go_wp2_with fail;go_ret;exact ⟨rfl, rfl⟩
end Go.Proofs.YtcjehjdehdoaeaaGreatDoor
