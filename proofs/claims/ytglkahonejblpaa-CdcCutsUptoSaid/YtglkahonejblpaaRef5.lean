/-
  Walk of the document's Cutter: End. Conditions: the cutter lies in memory; legal cuts.
-/
import Derived.Test.YtglkahonejblpaaRef4
namespace Go.Proofs.Ytglkahonejblpaa
open Go.RowKit

def REPost (B R : Nat) (least most bits : Int) (lf : List UInt8) (w : World) (e : Ending) (w' : World) : Prop :=
  ∃ (F : Option Addr) (fc : Nat), e = .returned (.slice F lf.length fc) ∧ In w' F lf.length lf ∧ RC B R least most bits w' none 0 [] 0 ∧ Fr (fun k => k = R) w w'
set_option maxHeartbeats 4000000 in
set_option maxRecDepth 100000 in
theorem REnd_any (B R : Nat) (least most bits : Int) (AA : Option Addr) (ac : Nat) (la : List UInt8) (told : Nat) (w : World) (h : RC B R least most bits w AA ac la told) (hok : CutsOk least most bits)
    (hsz : la.length ≤ 17179869184) (htl : told = (wrL least most bits 0 0 [] la).1.length) :
    Calls Try.prog 11 #[.pointer (some ⟨R, 0, none⟩)] w (REPost B R least most bits (wrL least most bits 0 0 [] la).2.2.2 w) := by
  obtain ⟨lf, hw1, hP, hall, hlf⟩ := piecesL_parts least most bits hok la
  have hlf2 : (wrL least most bits 0 0 [] la).2.2.2 = lf := by rw [hw1]
  rw [hlf2]
  have hWl : (wrL least most bits 0 0 [] la).1.length ≤ la.length := (wrL_bd least most bits la 0 0 []).2.2
  rw [← htl] at hWl
  obtain ⟨W1, hW1⟩ : ∃ x, (wrL least most bits 0 0 [] la).1 = x := ⟨_, rfl⟩
  rw [hW1] at hP htl
  obtain ⟨N, hN⟩ : ∃ x, la.length = x := ⟨_, rfl⟩
  have hI : In w AA N la := by have := In.of_own h.own (by omega); rw [hN] at this; exact this
  have hac := own_le h.own
  rw [hN] at hWl hsz hac
  have hX : Blk w R 34 #[.int .i64 least, .int .i64 most, .int .i64 bits, .slice AA N ac, .int .i64 (told : Int)] := by rw [← hN]; exact h.blk
  have HX := Lib.hid hX
  have HI := Lib.hid hI
  have Hok := Lib.hid hok
  have HP := Lib.hid hP
  have HLe := Lib.hid h.le
  have Htl := Lib.hid htl
  have HNe : Hid (∀ ad, AA = some ad → ¬ ad.block = R) := fun ad had e => own_ne h.own h.blk (by decide) (by rw [own_addr h.own had, e])
  have HRP := Lib.hid (fun (W : World) (hW : Below w.heap.size w W) => RPieces_any AA N ac la least most bits W (HI.out.below hW) hac (by omega) Hok.out)
  obtain ⟨x0, x1, x2, x3, x4⟩ := hX.five
  clear h hok hw1 hP hall hlf hlf2 hW1 hN hI hX htl
  go_enter Try.func11, Try.ntmps11
  go_upto_region 1 with (fail)
  go_cut [3] (fun s3 wy => ∃ (O : Option Addr) (oc : Nat) (pa : List Pc), s3 = .slice O pa.length oc ∧ Hid (byP pa = piecesL least most bits la ∧ wy.ownsRow w.heap.size 32 1 (.slice O pa.length oc) pa.length (svs pa) ∧ (∀ p, p ∈ pa → PcIn AA N la p) ∧ Below w.heap.size w wy))
  case first => as_aux_lemma =>
    go_region_with (go_at_call 29; refine (HRP.out _ (by first | (with_reducible exact (Below.refl _ _)) | (with_reducible exact (Below.refl _ _).drew))).mono ?_; rintro en wp ⟨O, oc, pa, rfl, hpa1, hpa2, hpa3, hbp1⟩; have hbp : Below w.heap.size w wp := bup (by first | (with_reducible exact (Below.refl _ _)) | (with_reducible exact (Below.refl _ _).drew)) hbp1)
    all_goals go_wp2_with fail
    all_goals go_meet
    all_goals exact ⟨O, oc, pa, rfl, hpa1, hpa2, hpa3, hbp⟩
  case rest => as_aux_lemma =>
    obtain ⟨O, oc, pa, rfl, Hc⟩ := hcut
    obtain ⟨w3, rfl⟩ : ∃ w3 : World, w3 = wc := ⟨_, rfl⟩
    have HX3 := Lib.hid (HX.out.below Hc.out.2.2.2)
    have Hb3 := Lib.hid Hc.out.2.2.2
    have hW3 : w.heap.size ≤ w3.heap.size := Hb3.out.size
    have hRw := HX.out.lt
    clear x0 x1 x2 x3 x4
    obtain ⟨x0, x1, x2, x3, x4⟩ := HX3.out.five
    have f3 := HX3.out.frozen 3
    have f4 := HX3.out.frozen 4
    obtain ⟨q, hq⟩ : ∃ q, pa.length = q := ⟨_, rfl⟩
    have Hq := Lib.hid hq
    have hqW : q = told + (if lf = [] then 0 else 1) := by
      have h1 : (piecesL least most bits la).length = q := by rw [← Hc.out.1, ← hq]; simp [byP]
      rw [HP.out, List.length_append, ← Htl.out] at h1
      rw [← h1]
      split <;> simp
    have HqW := Lib.hid hqW
    rw [hq]
    have HEnd : Hid (RC B R least most bits ((w3.setCell ⟨R, 3, none⟩ (.slice none 0 0)).setCell ⟨R, 4, none⟩ (.int .i64 0)) none 0 [] 0 ∧ Fr (fun k => k = R) w ((w3.setCell ⟨R, 3, none⟩ (.slice none 0 0)).setCell ⟨R, 4, none⟩ (.int .i64 0))) :=
      ⟨⟨(HX3.out.set_ 3 _).set_ 4 _, World.ownsRow_nil _ _ _ _, HLe.out⟩, ((Fr.of_below (S := fun k => k = R) Hb3.out).setCell (p := ⟨R, 3, none⟩) (.inl rfl) _).setCell (p := ⟨R, 4, none⟩) (.inl rfl) _⟩
    have HO3 : Hid (w3.ownsRow w.heap.size 32 1 (.slice O q oc) q (svs pa)) := by have := Hc.out.2.1; rw [Hq.out] at this; exact this
    clear hq hqW
    by_cases hl : lf = []
    · have hqt : q = told := by have := HqW.out; rw [if_pos hl] at this; omega
      subst hqt
      have hd : decide ((q : Int) < (q : Int)) = false := decide_eq_false (by omega)
      subst hl
      go_wp2_with fail
      go_ret
      unfold REPost
      exact ⟨none, 0, rfl, In.nil _, HEnd.out.1, HEnd.out.2⟩
    · have hqt : q = told + 1 := by have := HqW.out; rw [if_neg hl] at this; omega
      have hqoc := own_le HO3.out
      have hlt : (told : Int) < (q : Int) := by omega
      have hto : told < q ∧ told ≤ oc := by omega
      obtain ⟨p, hp⟩ : ∃ p, pa[told]? = some p := ⟨_, List.getElem?_eq_getElem (by rw [Hq.out]; omega)⟩
      have hpl : p.2.2 = lf := by
        have h1 : (byP pa)[told]? = some p.2.2 := by simp [byP, hp]
        rw [Hc.out.1, HP.out, List.getElem?_append_right (by rw [← Htl.out]; exact Nat.le_refl _), if_neg hl, ← Htl.out, Nat.sub_self] at h1
        simp at h1
        exact h1.symm
      obtain ⟨g, cap, hv, _, hg3⟩ := HO3.out.form (by omega)
      injection hv with hO _ hcap
      subst hO
      subst hcap
      have z1 := HO3.out.cellAt told (by omega)
      rw [svs_at hp] at z1
      have HPC := Lib.hid (Hc.out.2.2.1 p (List.mem_of_getElem? hp))
      obtain ⟨pA, pc, pl⟩ := p
      simp only [] at z1 hpl
      subst hpl
      have Hp := Lib.hid hp
      clear hp hqt
      have HIn : Hid (In ((w3.setCell ⟨R, 3, none⟩ (.slice none 0 0)).setCell ⟨R, 4, none⟩ (.int .i64 0)) pA pl.length pl) := HPC.out.1 _ (HI.out.fr HEnd.out.2 (fun _ => HNe.out))
      go_wp2_with fail
      go_ret
      unfold REPost
      exact ⟨pA, pc, rfl, HIn.out, HEnd.out.1, HEnd.out.2⟩
end Go.Proofs.Ytglkahonejblpaa
