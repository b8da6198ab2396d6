/-
  What Write holds in its loop, in parts: the cutter, what is left, the list that is answered, its pieces. Conditions: each lemma's own.
-/
import Derived.Test.YtglkahonejblpaaCutter
import Derived.Test.YtglkahonejblpaaCmp
namespace Go.Proofs.Ytglkahonejblpaa
open Go.RowKit

abbrev Pc := Option Addr × Nat × List UInt8
def svs : List Pc → List Value
  | [] => []
  | p :: r => .slice p.1 p.2.2.length p.2.1 :: svs r
theorem svs_append (l r : List Pc) : svs (l ++ r) = svs l ++ svs r := by
  induction l with
  | nil => rfl
  | cons y l ih => simp only [svs, List.cons_append, ih]
theorem svs_length (l : List Pc) : (svs l).length = l.length := by
  induction l with
  | nil => rfl
  | cons y l ih => simp only [svs, List.length_cons, ih]
theorem svs_one (l : List Pc) : ∀ u ∈ svs l, u.oneCell' = true := by
  induction l with
  | nil => intro u h; cases h
  | cons y r ih =>
    intro u h
    simp only [svs, List.mem_cons] at h
    rcases h with rfl | h
    · rfl
    · exact ih u h
structure CG where
  LA : Option Addr
  lc : Nat
  left : List UInt8
  sum : Int
  n : Nat
  O : Option Addr
  oc : Nat
  ps : List Pc
inductive Iy where
  | x | l | o | e (i : Nat)
def CG.lv (s : CG) : Value := .slice s.LA s.left.length s.lc
def pcC (B : Nat) (p : Pc) : Cmp := ownC B 5 1 (.slice p.1 p.2.2.length p.2.1) p.2.2.length (bys p.2.2)
def famC (B X : Nat) (least most bits : Int) (s : CG) : Iy → Cmp
  | .x => ⟨fun g => g = X, fun w => Blk w X 71 (rollX s.lv least most bits s.sum s.n)⟩
  | .l => ownC B 5 1 s.lv s.left.length (bys s.left)
  | .o => ownC B 32 1 (.slice s.O s.ps.length s.oc) s.ps.length (svs s.ps)
  | .e i => optC (pcC B) s.ps[i]?
section
variable {B X : Nat} {least most bits : Int} {w w' : World} {s : CG}
theorem SP.cutter (h : SP (famC B X least most bits s) B w) : Blk w X 71 (rollX s.lv least most bits s.sum s.n) := h.hold .x
theorem SP.left (h : SP (famC B X least most bits s) B w) : w.ownsRow B 5 1 s.lv s.left.length (bys s.left) := h.hold .l
theorem SP.out (h : SP (famC B X least most bits s) B w) : w.ownsRow B 32 1 (.slice s.O s.ps.length s.oc) s.ps.length (svs s.ps) := h.hold .o
theorem x_st (s : CG) : (famC B X least most bits s .x).stable := fun _ _ h k => Blk.same h (k X rfl)
/-- the roll has eaten -/
theorem SP.ate {sum' : Int} {n' : Nat} (h : SP (famC B X least most bits s) B w) (hX : Blk w' X 71 (rollX s.lv least most bits sum' n')) (hF : Fr (fun k => k = X) w w') : SP (famC B X least most bits { s with sum := sum', n := n' }) B w' := by
  refine h.upd (fun y => y = .x) hF (fun k hk => ⟨_, rfl, hk⟩) ?_ ?_ ?_
  · intro y hy
    cases y with
    | x => exact absurd rfl hy
    | _ => rfl
  · rintro y rfl
    exact ⟨hX, x_st { s with sum := sum', n := n' }, fun k hk => ⟨.inl ⟨_, rfl, hk⟩, by have hk : k = X := hk; rw [hk]; exact hX.lt⟩⟩
  · intro y z hy hz hyz
    exact absurd (hy.trans hz.symm) hyz
/-- bytes were put behind what is left -/
theorem SP.grew {LA' : Option Addr} {lc' : Nat} {left' : List UInt8} (h : SP (famC B X least most bits s) B w) (hX : Blk w' X 71 (rollX (.slice LA' left'.length lc') least most bits s.sum s.n)) (hL : w'.ownsRow B 5 1 (.slice LA' left'.length lc') left'.length (bys left'))
    (hF : Fr (fun k => k = X ∨ some k = s.lv.ownBlock) w w') (hat : ∀ g, (Value.slice LA' left'.length lc').ownBlock = some g → s.lv.ownBlock = some g ∨ w.heap.size ≤ g) : SP (famC B X least most bits { s with LA := LA', lc := lc', left := left' }) B w' := by
  refine h.upd (fun y => y = .x ∨ y = .l) hF (fun k hk => ?_) ?_ ?_ ?_
  · rcases hk with hk | hk
    · exact ⟨.x, .inl rfl, hk⟩
    · exact ⟨.l, .inr rfl, hk.symm⟩
  · intro y hy
    cases y with
    | x => exact absurd (.inl rfl) hy
    | l => exact absurd (.inr rfl) hy
    | _ => rfl
  · rintro y (rfl | rfl)
    · exact ⟨hX, x_st { s with LA := LA', lc := lc', left := left' }, fun k hk => ⟨.inl ⟨_, .inl rfl, hk⟩, by have hk : k = X := hk; rw [hk]; exact hX.lt⟩⟩
    · refine ⟨hL, ownC_st _ _ _ _ _ _, fun k hk => ⟨?_, (own_lt hL hk).2⟩⟩
      rcases hat k hk with h1 | h1
      · exact .inl ⟨.l, .inr rfl, h1⟩
      · exact .inr h1
  · rintro y z (rfl | rfl) (rfl | rfl) hyz k hk hk'
    · exact absurd rfl hyz
    · exact (own_bt hL hk').ne ⟨_, hX⟩ (by decide) hk
    · exact (own_bt hL hk).ne ⟨_, hX⟩ (by decide) hk'
    · exact absurd rfl hyz
/-- a piece is whole: it goes into the list that is answered, and nothing is left -/
theorem SP.whole {O' : Option Addr} {oc' : Nat} (h : SP (famC B X least most bits s) B w) (o : Obj) {w1 : World} (hO : w1.ownsRow B 32 1 (.slice O' (s.ps.length + 1) oc') (s.ps.length + 1) (svs (s.ps ++ [(s.LA, s.lc, s.left)]))) (hg : (w.alloc o).grownBy w1 (Value.slice s.O s.ps.length s.oc).ownBlock)
    (hat : (Value.slice O' (s.ps.length + 1) oc').ownBlock = (Value.slice s.O s.ps.length s.oc).ownBlock ∨ (Value.slice O' (s.ps.length + 1) oc').ownBlock = some (w.alloc o).heap.size) :
    SP (famC B X least most bits { s with LA := none, lc := 0, left := [], O := O', oc := oc', ps := s.ps ++ [(s.LA, s.lc, s.left)] }) B (w1.setCell ⟨X, 5, none⟩ (.slice none 0 0)) ∧ Fr (fun k => k = X ∨ (Value.slice s.O s.ps.length s.oc).ownBlock = some k) w (w1.setCell ⟨X, 5, none⟩ (.slice none 0 0)) := by
  have hlen : (s.ps ++ [(s.LA, s.lc, s.left)]).length = s.ps.length + 1 := by rw [List.length_append]; rfl
  have hXo : ∀ g, (Value.slice s.O s.ps.length s.oc).ownBlock = some g → g ≠ X := fun g hg e => h.sep .o .x (by simp) g hg e
  have hX1 : Blk w1 X 71 (rollX s.lv least most bits s.sum s.n) := (h.cutter.alloc o).same (hg.block X (h.cutter.alloc o).lt (fun e => hXo X e.symm rfl))
  have hF : Fr (fun k => k = X ∨ (Value.slice s.O s.ps.length s.oc).ownBlock = some k) w (w1.setCell ⟨X, 5, none⟩ (.slice none 0 0)) := (((Fr.refl _ w).alloc o).grown hg (fun g hg => .inl (.inr hg))).setCell (p := ⟨X, 5, none⟩) (.inl (.inl rfl)) _
  have hO2 := own_far hO (p := ⟨X, 5, none⟩) (own_ne hO hX1 (by decide)) (.slice none 0 0)
  have hX2 := hX1.set_ 5 (.slice none 0 0)
  have hLk : ∀ g, s.lv.ownBlock = some g → (w1.setCell ⟨X, 5, none⟩ (.slice none 0 0)).heap[g]? = w.heap[g]? := fun g hg => hF.block g (h.inb .l g hg).2 (by
    rintro (e | e)
    · exact h.sep .l .x (by simp) g hg e
    · exact h.sep .l .o (by simp) g hg e)
  have hL2 : (w1.setCell ⟨X, 5, none⟩ (.slice none 0 0)).ownsRow B 5 1 s.lv s.left.length (bys s.left) := own_same h.left hLk
  have hge : (famC B X least most bits { s with LA := none, lc := 0, left := [], O := O', oc := oc', ps := s.ps ++ [(s.LA, s.lc, s.left)] }) (.e s.ps.length) = pcC B (s.LA, s.lc, s.left) := by simp only [famC, snoc_at]; rfl
  have hO3 : ∀ k, ((famC B X least most bits { s with LA := none, lc := 0, left := [], O := O', oc := oc', ps := s.ps ++ [(s.LA, s.lc, s.left)] }) .o).S k → (Value.slice O' (s.ps.length + 1) oc').ownBlock = some k := fun k hk => by
    have hk : (Value.slice O' (s.ps ++ [(s.LA, s.lc, s.left)]).length oc').ownBlock = some k := hk
    rw [hlen] at hk
    exact hk
  have hE3 : ∀ k, ((famC B X least most bits { s with LA := none, lc := 0, left := [], O := O', oc := oc', ps := s.ps ++ [(s.LA, s.lc, s.left)] }) (.e s.ps.length)).S k → s.lv.ownBlock = some k := fun k hk => by rw [hge] at hk; exact hk
  have hL3 : ∀ k, ¬ ((famC B X least most bits { s with LA := none, lc := 0, left := [], O := O', oc := oc', ps := s.ps ++ [(s.LA, s.lc, s.left)] }) .l).S k := fun k hk => absurd hk (by simp [famC, ownC, CG.lv, Value.ownBlock])
  have hX3 : ∀ k, ((famC B X least most bits { s with LA := none, lc := 0, left := [], O := O', oc := oc', ps := s.ps ++ [(s.LA, s.lc, s.left)] }) .x).S k → k = X := fun k hk => hk
  have d1 : ∀ k, (Value.slice O' (s.ps.length + 1) oc').ownBlock = some k → k ≠ X := fun k hk => (own_bt hO2 hk).ne ⟨_, hX2⟩ (by decide)
  have d2 : ∀ k, s.lv.ownBlock = some k → k ≠ X := fun k hk => (own_bt hL2 hk).ne ⟨_, hX2⟩ (by decide)
  have d3 : ∀ k, (Value.slice O' (s.ps.length + 1) oc').ownBlock = some k → s.lv.ownBlock ≠ some k := fun k hk hk' => (own_bt hO2 hk).ne (own_bt hL2 hk') (by decide) rfl
  refine ⟨h.upd (fun y => y = .x ∨ y = .l ∨ y = .o ∨ y = .e s.ps.length) hF (fun k hk => ?_) ?_ ?_ ?_, hF⟩
  · rcases hk with hk | hk
    · exact ⟨.x, .inl rfl, hk⟩
    · exact ⟨.o, .inr (.inr (.inl rfl)), hk⟩
  · intro y hy
    cases y with
    | x => exact absurd (.inl rfl) hy
    | l => exact absurd (.inr (.inl rfl)) hy
    | o => exact absurd (.inr (.inr (.inl rfl))) hy
    | e j => simp only [famC, snoc_get (fun e => hy (.inr (.inr (.inr (by rw [e])))) : j ≠ s.ps.length)]
  · rintro y (rfl | rfl | rfl | rfl)
    · exact ⟨hX2, x_st { s with LA := none, lc := 0, left := [], O := O', oc := oc', ps := s.ps ++ [(s.LA, s.lc, s.left)] }, fun k hk => ⟨.inl ⟨_, .inl rfl, hk⟩, by have hk : k = X := hk; rw [hk]; exact hX2.lt⟩⟩
    · exact ⟨World.ownsRow_nil _ _ _ _, ownC_st _ _ _ _ _ _, fun k hk => absurd hk (by simp [famC, ownC, CG.lv, Value.ownBlock])⟩
    · refine ⟨by show World.ownsRow _ B 32 1 (.slice O' (s.ps ++ [(s.LA, s.lc, s.left)]).length oc') (s.ps ++ [(s.LA, s.lc, s.left)]).length (svs (s.ps ++ [(s.LA, s.lc, s.left)])); rw [hlen]; exact hO2, ownC_st _ _ _ _ _ _, fun k hk => ?_⟩
      have hk : (Value.slice O' (s.ps ++ [(s.LA, s.lc, s.left)]).length oc').ownBlock = some k := hk
      rw [hlen] at hk
      refine ⟨?_, (own_lt hO2 hk).2⟩
      rcases hat with h1 | h1
      · exact .inl ⟨.o, .inr (.inr (.inl rfl)), h1.symm.trans hk⟩
      · refine .inr ?_
        rw [h1] at hk
        injection hk with hk
        rw [← hk]; simp
    · rw [hge]
      exact ⟨hL2, ownC_st _ _ _ _ _ _, fun k hk => ⟨.inl ⟨.l, .inr (.inl rfl), hk⟩, (own_lt hL2 hk).2⟩⟩
  · rintro y z (rfl | rfl | rfl | rfl) (rfl | rfl | rfl | rfl) hyz k hk hk'
    · exact absurd rfl hyz
    · exact hL3 k hk'
    · exact d1 k (hO3 k hk') (hX3 k hk)
    · exact d2 k (hE3 k hk') (hX3 k hk)
    · exact hL3 k hk
    · exact absurd rfl hyz
    · exact hL3 k hk
    · exact hL3 k hk
    · exact d1 k (hO3 k hk) (hX3 k hk')
    · exact hL3 k hk'
    · exact absurd rfl hyz
    · exact d3 k (hO3 k hk) (hE3 k hk')
    · exact d2 k (hE3 k hk) (hX3 k hk')
    · exact hL3 k hk'
    · exact d3 k (hO3 k hk') (hE3 k hk)
    · exact absurd rfl hyz
end
end Go.Proofs.Ytglkahonejblpaa
