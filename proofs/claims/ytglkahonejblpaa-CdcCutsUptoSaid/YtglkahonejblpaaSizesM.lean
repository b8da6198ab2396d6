/-
  Lists of pieces that lie in memory to be read; what two writes of the data answer together. Conditions: each lemma's own.
-/
import Derived.Test.YtglkahonejblpaaSizesP
import Derived.Test.YtglkahonejblpaaFixed
namespace Go.Proofs.Ytglkahonejblpaa
open Go.RowKit

/-- a list of pieces that lies in memory, to be read -/
structure InP (w : World) (O : Option Addr) (ps : List Pc) : Prop where
  rd : Rd w 1 O ps.length (svs ps)
  lt : ∀ ad, O = some ad → ad.block < w.heap.size
  pcs : ∀ p, p ∈ ps → In w p.1 p.2.2.length p.2.2
/-- apart from the blocks F -/
def ApP (F : Nat → Prop) (O : Option Addr) (ps : List Pc) : Prop := (∀ ad, O = some ad → ¬ F ad.block) ∧ ∀ p, p ∈ ps → ∀ ad, p.1 = some ad → ¬ F ad.block
theorem InP.fr {S : Nat → Prop} {w w' : World} {O : Option Addr} {ps : List Pc} (h : InP w O ps) (hF : Fr S w w') (ha : ApP S O ps) : InP w' O ps :=
  ⟨h.rd.keep fun ad had => hF.block _ (h.lt ad had) (ha.1 ad had), fun ad had => Nat.lt_of_lt_of_le (h.lt ad had) hF.size, fun p hp => (h.pcs p hp).fr hF fun _ ad had => ha.2 p hp ad had⟩
theorem InP.below {w w' : World} {O : Option Addr} {ps : List Pc} (h : InP w O ps) (hb : Below w.heap.size w w') : InP w' O ps :=
  h.fr (S := fun _ => False) ⟨hb.os, hb.tape, hb.output, hb.size, fun k hk _ => hb.block k hk⟩ ⟨fun _ _ e => e, fun _ _ _ _ e => e⟩
theorem sp_inp {B X : Nat} {least most bits : Int} {w : World} {s : CG} (h : SP (famC B X least most bits s) B w) (hb : ∀ p, p ∈ s.ps → p.2.2.length ≤ 140737488351232) : InP w s.O s.ps ∧ ApP (fun k => k = X ∨ some k = s.lv.ownBlock) s.O s.ps := by
  have hp : ∀ p, p ∈ s.ps → ∃ i, w.ownsRow B 5 1 (.slice p.1 p.2.2.length p.2.1) p.2.2.length (bys p.2.2) ∧ ∀ k, (Value.slice p.1 p.2.2.length p.2.1).ownBlock = some k → (famC B X least most bits s (.e i)).S k := fun p hp => by
    obtain ⟨i, hi⟩ := List.mem_iff_getElem?.1 hp
    have h1 := h.hold (.e i)
    simp only [famC, hi] at h1
    refine ⟨i, h1, fun k hk => ?_⟩
    simp only [famC, hi]
    exact hk
  refine ⟨⟨Rd.of_own h.out, fun ad had => (own_lt h.out (own_addr h.out had)).2, fun p hq => ?_⟩, fun ad had => ?_, fun p hq ad had => ?_⟩
  · obtain ⟨i, h1, _⟩ := hp p hq
    exact In.of_own h1 (hb p hq)
  · rintro (e | e)
    · exact h.sep .o .x (by simp) _ (own_addr h.out had) e
    · exact h.sep .o .l (by simp) _ (own_addr h.out had) e.symm
  · obtain ⟨i, h1, h2⟩ := hp p hq
    rintro (e | e)
    · exact h.sep (.e i) .x (by simp) _ (h2 _ (own_addr h1 had)) e
    · exact h.sep (.e i) .l (by simp) _ (h2 _ (own_addr h1 had)) e.symm
/-- append to an empty list of lists -/
theorem wpList_lfresh {ops : Array Oper} {rest : List Oper} {o : Oper} {a : Act} {Q : Exit → Act → World → Prop} (hgd : o.guard = none) (s x : Operand)
    (ho : o.op = .call { callee := .builtin .append, args := #[s, x], argTypes := #[41, 41] }) {w : World} (N : Nat) (hN : N = w.heap.size) (hs : a.eval s = .slice (some ⟨N, 0, none⟩) 0 0)
    (A : Option Addr) (c : Nat) (ps : List Pc) (hx : a.eval x = .slice A ps.length c) (hr : InP w A ps) (hn : ps.length ≤ 1048576)
    (h : ∀ a' c' w', w'.ownsRow w.heap.size 32 1 (.slice a' ps.length c') ps.length (svs ps) → Below w.heap.size w w' → wpList Try.prog ops Q rest (a.put o.dst (.slice a' ps.length c')) w') : wpList Try.prog ops Q (o :: rest) a (w.alloc (.cells #[] 32)) := by
  obtain ⟨i0, hi0, hz0, hz1, hz2⟩ := info_parts infosl
  have hO := (World.ownsRow_made (base := w.heap.size) (e := 32) (size := 1) w #[] 0 (Nat.le_refl _) (by unfold maxLen; omega) rfl)
  have hr' := hr.below ((Below.refl _ _).alloc (Nat.le_refl _) (.cells #[] 32))
  subst hN
  refine wpList_append_rd hgd s x 41 ho w.heap.size 32 i0 _ 1 24 Try.underlying41 hi0 hz0 hz1 hz2 rfl (by decide) _ 0 [] hs hO A ps.length c (svs ps) hx hr'.rd (svs_one _) (by simp only [maxLen]; omega) (by omega) (by simp) ?_
  intro a1 c1 w1 hown hg hat
  simp only [Nat.zero_add, List.nil_append] at hown hat ⊢
  refine h a1 c1 w1 hown ?_
  refine Below.grown ((Below.refl _ w).alloc (Nat.le_refl _) _) hg (by simp) ?_
  intro k hk
  simp [Value.ownBlock] at hk; omega
theorem wrL_bd (least most bits : Int) (l : List UInt8) : ∀ (sum : Int) (n : Nat) (lf : List UInt8), (wrL least most bits sum n lf l).2.2.1 ≤ n + l.length ∧ (wrL least most bits sum n lf l).1.flatten ++ (wrL least most bits sum n lf l).2.2.2 = lf ++ l ∧ (wrL least most bits sum n lf l).1.length ≤ l.length := by
  induction l with
  | nil => intro sum n lf; simp [wrL_nil]
  | cons z r ih =>
    intro sum n lf
    rw [wrL_step]
    split
    · obtain ⟨h1, h2, h3⟩ := ih 0 0 []
      refine ⟨by simp only [List.length_cons]; omega, ?_, by simp only [List.length_cons]; omega⟩
      rw [List.flatten_cons, List.append_assoc, h2]; simp
    · obtain ⟨h1, h2, h3⟩ := ih (roll1 sum z) (n + 1) (lf ++ [z])
      refine ⟨by simp only [List.length_cons]; omega, ?_, by simp only [List.length_cons]; omega⟩
      rw [h2]; simp
theorem flat_le {x : List UInt8} {l : List (List UInt8)} (h : x ∈ l) : x.length ≤ l.flatten.length := by
  induction l with
  | nil => cases h
  | cons y r ih =>
    rw [List.flatten_cons, List.length_append]
    rcases List.mem_cons.1 h with e | e
    · rw [e]; omega
    · have := ih e; omega
abbrev byP (ps : List Pc) : List (List UInt8) := ps.map fun p => p.2.2
/-- the pieces of two writes and of an end -/
theorem two_law (least most bits : Int) (la : List UInt8) (k : Nat) (ps qs : List Pc) (s1 s2 : Int) (n1 n2 : Nat) (l1 l2 : List UInt8) (EA : Option Addr) (ec : Nat) (h1 : wrL least most bits 0 0 [] (la.take k) = (byP ps, s1, n1, l1)) (h2 : wrL least most bits s1 n1 l1 (la.drop k) = (byP qs, s2, n2, l2))
    (fs : List Pc) (hf : fs = ps ++ qs ++ if l2 = [] then [] else [(EA, ec, l2)]) : runs 0 (byP fs) = cutsL least most bits la ∧ (byP fs).flatten = la := by
  have h3 := allP_two least most bits (la.take k) (la.drop k)
  rw [wrL_append, h1] at h3
  simp only [] at h3
  rw [h2, List.take_append_drop] at h3
  have h4 : byP fs = allP (byP ps ++ byP qs, s2, n2, l2) := by
    rw [hf]
    unfold allP byP
    by_cases h : l2 = []
    · simp [h]
    · simp [h]
  rw [h4]
  exact h3
/-- the i-th piece is what lies between the ends -/
theorem piece_at (la : List UInt8) (fs : List Pc) (cl : List Nat) (hr : runs 0 (byP fs) = cl) (hf : (byP fs).flatten = la) (i : Nat) (p : Pc) (hp : fs[i]? = some p) : cl[i]? = some (prv 0 cl i + p.2.2.length) ∧ p.2.2 = (la.drop (prv 0 cl i)).take p.2.2.length := by
  obtain ⟨h1, h2, h3⟩ := runs_at (byP fs) 0 i p.2.2 (by simp [byP, hp])
  rw [hr, hf] at h3
  rw [hr] at h1
  exact ⟨h1, h3⟩
theorem svs_at {ps : List Pc} {i : Nat} {p : Pc} (h : ps[i]? = some p) : (svs ps)[i]? = some (.slice p.1 p.2.2.length p.2.1) := by
  induction ps generalizing i with
  | nil => simp at h
  | cons y r ih =>
    cases i with
    | zero => simp at h; subst h; rfl
    | succ i => simp at h; simpa [svs] using ih h
theorem mod_k (x : Int) (an k : Nat) (han : an ≤ 1048576) (hk : (x % 18446744073709551616).toNat % (an + 1) = k) : wrap64 ((IntKind.u64.wrap x).tmod ((an : Int) + 1)) = (k : Int) := by
  have h1 : IntKind.u64.wrap x = x % 18446744073709551616 := rfl
  have h2 : x % 18446744073709551616 = ((x % 18446744073709551616).toNat : Int) := by omega
  rw [h1, h2, show (an : Int) + 1 = ((an + 1 : Nat) : Int) by omega, ← Int.ofNat_tmod, hk]
  have : k ≤ an := by rw [← hk]; have := Nat.mod_lt (x % 18446744073709551616).toNat (show 0 < an + 1 by omega); omega
  unfold wrap64
  omega
theorem InP.at {w : World} {O : Option Addr} {ps : List Pc} (h : InP w O ps) {i : Nat} {p : Pc} (hp : ps[i]? = some p) : ∃ b off, O = some ⟨b, off, none⟩ ∧ w.cell? ⟨b, off + i, none⟩ = some (.slice p.1 p.2.2.length p.2.1) := by
  obtain ⟨ad, he, hc⟩ := h.rd.2 (by have := (List.getElem?_eq_some_iff.1 hp).1; omega)
  obtain ⟨p0, hp0⟩ : ∃ p0, ps[0]? = some p0 := ⟨_, List.getElem?_eq_getElem (by have := (List.getElem?_eq_some_iff.1 hp).1; omega)⟩
  have c0 := hc 0 _ (svs_at hp0)
  have c1 := hc i _ (svs_at hp)
  obtain ⟨b, off, spot⟩ := ad
  have hspot : spot = none := by simpa [Addr.add] using World.cell?_spot c0
  subst hspot
  refine ⟨b, off, he, ?_⟩
  rwa [show (⟨b, off, none⟩ : Addr).add i = ⟨b, off + i, none⟩ from by unfold Addr.add; split <;> simp_all] at c1
theorem InP.of_own {w : World} {B : Nat} {O : Option Addr} {c : Nat} {ps : List Pc} (h : w.ownsRow B 32 1 (.slice O ps.length c) ps.length (svs ps)) (hp : ∀ p, p ∈ ps → In w p.1 p.2.2.length p.2.2) : InP w O ps :=
  ⟨Rd.of_own h, fun _ had => (own_lt h (own_addr h had)).2, hp⟩
theorem ApP.mono {F G : Nat → Prop} {O : Option Addr} {ps : List Pc} (h : ApP F O ps) (hg : ∀ k, G k → F k) : ApP G O ps := ⟨fun ad had e => h.1 ad had (hg _ e), fun p hp ad had e => h.2 p hp ad had (hg _ e)⟩
/-- a cutter and what is left in it -/
structure RollAt (B X : Nat) (least most bits : Int) (w : World) (LA : Option Addr) (lc : Nat) (lf : List UInt8) (sum : Int) (n : Nat) : Prop where
  blk : Blk w X 71 (rollX (.slice LA lf.length lc) least most bits sum n)
  own : w.ownsRow B 5 1 (.slice LA lf.length lc) lf.length (bys lf)
  le : B ≤ X
theorem RollAt.below {B X : Nat} {least most bits : Int} {w w' : World} {LA : Option Addr} {lc : Nat} {lf : List UInt8} {sum : Int} {n : Nat} (h : RollAt B X least most bits w LA lc lf sum n) (hb : Below w.heap.size w w') : RollAt B X least most bits w' LA lc lf sum n :=
  ⟨h.blk.below hb, own_below h.own hb, h.le⟩
theorem Write_roll (B D X : Nat) (least most bits sum : Int) (n : Nat) (LA : Option Addr) (lc : Nat) (lf : List UInt8) (A : Option Addr) (m c : Nat) (l : List UInt8) (w : World) (hR : RollAt B X least most bits w LA lc lf sum n) (hI : In w A m l) (hmc : m ≤ c)
    (hA : ∀ ad, A = some ad → D ≤ ad.block ∧ ad.block < w.heap.size) (hX : X < D) (hL : ∀ g, (Value.slice LA lf.length lc).ownBlock = some g → g < D) (hok : CutsOk least most bits) (hb : lf.length + m ≤ 17179869184) (hn : n + m ≤ 17179869184) :
    Calls Try.prog 14 #[.pointer (some ⟨X, 0, none⟩), .slice A m c] w fun e w' => ∃ (O : Option Addr) (oc : Nat) (ps : List Pc) (LA' : Option Addr) (lc' : Nat) (lf' : List UInt8) (sum' : Int) (n' : Nat), e = .returned (.slice O ps.length oc) ∧ ps.length ≤ m ∧ lf'.length ≤ lf.length + m ∧ n' ≤ n + m ∧
      Hid (wrL least most bits sum n lf l = (byP ps, sum', n', lf')) ∧ Hid (InP w' O ps) ∧ Hid (ApP (fun k => k = X ∨ some k = (Value.slice LA' lf'.length lc').ownBlock) O ps) ∧ Hid (RollAt B X least most bits w' LA' lc' lf' sum' n') ∧ Hid (Fr (fun k => k = X ∨ some k = (Value.slice LA lf.length lc).ownBlock) w w') := by
  refine (Write_any B X least most bits ⟨LA, lc, lf, sum, n, none, 0, []⟩ A m c l w (sp_start hR.blk hR.le hR.own) ⟨rfl, rfl, rfl⟩ hI hmc (fun ad had => ?_) hok (by show lf.length + m ≤ _; omega) (by show n + m ≤ _; omega)).mono ?_
  · obtain ⟨h1, h2⟩ := hA ad had
    exact ⟨h2, by omega, fun e => by have := hL _ e; omega⟩
  · rintro e w' ⟨s, rfl, hS, hF, _, _, hres⟩
    obtain ⟨h1, h2, h3⟩ := wrL_bd least most bits l sum n lf
    simp only [] at hres
    rw [hres] at h1 h2 h3
    simp only [List.length_map] at h1 h2 h3
    have hlen := congrArg List.length h2
    have hll := hI.len
    rw [List.length_append, List.length_append] at hlen
    obtain ⟨hP, hAp⟩ := sp_inp hS (fun p hp => by
      have : p.2.2.length ≤ (s.ps.map fun p => p.2.2).flatten.length := flat_le (List.mem_map.2 ⟨p, hp, rfl⟩)
      omega)
    exact ⟨s.O, s.oc, s.ps, s.LA, s.lc, s.left, s.sum, s.n, rfl, by omega, by omega, by omega, hres, hP, hAp, ⟨hS.cutter, hS.left, hR.le⟩, hF⟩
end Go.Proofs.Ytglkahonejblpaa
