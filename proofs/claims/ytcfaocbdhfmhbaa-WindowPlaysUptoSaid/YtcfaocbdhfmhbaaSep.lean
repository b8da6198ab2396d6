
/-
  Memory in parts that share no block: what changes one part keeps the others; and the parts of the law WindowPlays: windows of both kinds, the list of pairs, the book. Conditions: none beyond each lemma's own.
-/
import Derived.Test.YtcfaocbdhfmhbaaBook
import Derived.Test.YtcfaocbdhfmhbaaRCopy
namespace Go.Proofs.Ytcfaocbdhfmhbaa
open Go.RowKit

structure Cmp where
  S : Nat → Prop
  P : World → Prop
def Cmp.stable (C : Cmp) : Prop := ∀ w w' : World, C.P w → (∀ g, C.S g → w'.heap[g]? = w.heap[g]?) → C.P w'
structure SP {ι : Type} (C : ι → Cmp) (B : Nat) (w : World) : Prop where
  hold : ∀ x, (C x).P w
  st : ∀ x, (C x).stable
  inb : ∀ x g, (C x).S g → B ≤ g ∧ g < w.heap.size
  sep : ∀ x y, x ≠ y → ∀ g, (C x).S g → ¬ (C y).S g
  le : B ≤ w.heap.size
section
variable {ι : Type} {C C' : ι → Cmp} {B : Nat} {w w' : World}
theorem SP.keep (h : SP C B w) (hb : Below w.heap.size w w') : SP C B w' :=
  ⟨fun x => h.st x w w' (h.hold x) (fun g hg => hb.block g (h.inb x g hg).2), h.st, fun x g hg => ⟨(h.inb x g hg).1, Nat.lt_of_lt_of_le (h.inb x g hg).2 hb.size⟩, h.sep, Nat.le_trans h.le hb.size⟩
theorem SP.upd {F : Nat → Prop} (h : SP C B w) (X : ι → Prop) (hF : Fr F w w') (hFX : ∀ g, F g → ∃ x, X x ∧ (C x).S g) (hC : ∀ y, ¬ X y → C' y = C y)
    (hX : ∀ x, X x → (C' x).P w' ∧ (C' x).stable ∧ ∀ g, (C' x).S g → ((∃ x', X x' ∧ (C x').S g) ∨ w.heap.size ≤ g) ∧ g < w'.heap.size)
    (hd : ∀ x y, X x → X y → x ≠ y → ∀ g, (C' x).S g → ¬ (C' y).S g) : SP C' B w' := by
  have hnF : ∀ y, ¬ X y → ∀ g, (C y).S g → ¬ F g := fun y hy g hg hf => by
    obtain ⟨x, hx, hxg⟩ := hFX g hf
    exact h.sep x y (fun e => hy (e ▸ hx)) g hxg hg
  have hone : ∀ x y, X x → ¬ X y → ∀ g, (C' x).S g → ¬ (C y).S g := fun x y hx hy g hg hg' => by
    rcases ((hX x hx).2.2 g hg).1 with ⟨x', hx', hg2⟩ | hge
    · exact h.sep x' y (fun e => hy (e ▸ hx')) g hg2 hg'
    · have := (h.inb y g hg').2; omega
  refine ⟨fun x => ?_, fun x => ?_, fun x g hg => ?_, fun x y hxy g hg hg' => ?_, Nat.le_trans h.le hF.size⟩
  · by_cases hx : X x
    · exact (hX x hx).1
    · rw [hC x hx]; exact h.st x w w' (h.hold x) (fun g hg => hF.block g (h.inb x g hg).2 (hnF x hx g hg))
  · by_cases hx : X x
    · exact (hX x hx).2.1
    · rw [hC x hx]; exact h.st x
  · by_cases hx : X x
    · obtain ⟨h1, h2⟩ := (hX x hx).2.2 g hg
      refine ⟨?_, h2⟩
      rcases h1 with ⟨x', _, hg2⟩ | hge
      · exact (h.inb x' g hg2).1
      · exact Nat.le_trans h.le hge
    · rw [hC x hx] at hg; exact ⟨(h.inb x g hg).1, Nat.lt_of_lt_of_le (h.inb x g hg).2 hF.size⟩
  · by_cases hx : X x <;> by_cases hy : X y
    · exact hd x y hx hy hxy g hg hg'
    · rw [hC y hy] at hg'; exact hone x y hx hy g hg hg'
    · rw [hC x hx] at hg; exact hone y x hy hx g hg' hg
    · rw [hC x hx] at hg; rw [hC y hy] at hg'; exact h.sep x y hxy g hg hg'
theorem SP.to_below {F : Nat → Prop} (h : SP C B w) (X : ι → Prop) (hF : Fr F w w') (hFX : ∀ g, F g → ∃ x, X x ∧ (C x).S g) : Below B w w' :=
  hF.below h.le (fun k hk => by obtain ⟨x, _, hx⟩ := hFX k hk; exact (h.inb x k hx).1)
end
/-! ### The parts -/
structure WG where
  b : Nat
  r : Option Nat
  size : Nat
  all : List UInt8
def winC (B : Nat) (g : WG) : Cmp := ⟨fun k => k = g.b ∨ g.r = some k, fun w => Win w B g.b g.r g.size g.all⟩
def refC (B : Nat) (g : WG) : Cmp := ⟨fun k => k = g.b ∨ g.r = some k, fun w => WinR w B g.b g.r g.size g.all⟩
def ownC (B : Nat) (t : TypeId) (size : Nat) (v : Value) (n : Nat) (xs : List Value) : Cmp := ⟨fun k => v.ownBlock = some k, fun w => w.ownsRow B t size v n xs⟩
def trivC : Cmp := ⟨fun _ => False, fun _ => True⟩
def optC {α : Type} (f : α → Cmp) : Option α → Cmp
  | some a => f a
  | none => trivC
theorem winC_st (B : Nat) (g : WG) : (winC B g).stable := fun _ _ h k => Win.keep h (k _ (.inl rfl)) (fun q hq => k q (.inr hq))
theorem refC_st (B : Nat) (g : WG) : (refC B g).stable := fun _ _ h k => WinR.keep h (k _ (.inl rfl)) (fun q hq => k q (.inr hq))
theorem ownC_st (B : Nat) (t : TypeId) (size : Nat) (v : Value) (n : Nat) (xs : List Value) : (ownC B t size v n xs).stable := fun _ _ h k => own_same h (fun g hg => k g hg)
theorem trivC_st : trivC.stable := fun _ _ _ _ => trivial
theorem optC_st {α : Type} {f : α → Cmp} (h : ∀ a, (f a).stable) : ∀ o, (optC f o).stable
  | some a => h a
  | none => trivC_st
inductive Ix where
  | p | h | t
  | w (i : Nat) | r (i : Nat) | e (i : Nat)
def pcs : List (Nat × Nat) → List Value
  | [] => []
  | (b, c) :: r => .pointer (some ⟨b, 0, none⟩) :: .pointer (some ⟨c, 0, none⟩) :: pcs r
theorem pcs_length (l : List (Nat × Nat)) : (pcs l).length = l.length * 2 := by
  induction l with
  | nil => rfl
  | cons y r ih => obtain ⟨b, c⟩ := y; simp only [pcs, List.length_cons, ih]; omega
theorem pcs_append (l r : List (Nat × Nat)) : pcs (l ++ r) = pcs l ++ pcs r := by
  induction l with
  | nil => rfl
  | cons y l ih => obtain ⟨b, c⟩ := y; simp only [pcs, List.cons_append, ih]
theorem pcs_one (l : List (Nat × Nat)) : ∀ u ∈ pcs l, u.oneCell' = true := by
  induction l with
  | nil => intro u h; cases h
  | cons y r ih =>
    obtain ⟨b, c⟩ := y
    intro u h
    simp only [pcs, List.mem_cons] at h
    rcases h with rfl | rfl | h
    · rfl
    · rfl
    · exact ih u h
theorem pcs_get {l : List (Nat × Nat)} {i b c : Nat} (h : l[i]? = some (b, c)) : (pcs l)[i * 2]? = some (.pointer (some ⟨b, 0, none⟩)) ∧ (pcs l)[i * 2 + 1]? = some (.pointer (some ⟨c, 0, none⟩)) := by
  induction l generalizing i with
  | nil => simp at h
  | cons z r ih =>
    obtain ⟨zb, zc⟩ := z
    cases i with
    | zero =>
      simp at h
      obtain ⟨rfl, rfl⟩ := h
      exact ⟨rfl, rfl⟩
    | succ i =>
      simp at h
      have := ih h
      rw [show (i + 1) * 2 = i * 2 + 1 + 1 by omega]
      simp only [pcs, List.getElem?_cons_succ]
      exact this
structure GS where
  L : Option Addr
  k : Nat
  lc : Nat
  ps : List (Nat × Nat)
  ws : List WG
  rs : List WG
  H : Option Addr
  m : Nat
  hc : Nat
  eh : List HE
  es : List HE
  t : Option (Option Addr × Nat × List UInt8)
def tmpC (B : Nat) (x : Option Addr × Nat × List UInt8) : Cmp := ownC B 5 1 (.slice x.1 x.2.2.length x.2.1) x.2.2.length (bys x.2.2)
def entC (B : Nat) (e : HE) : Cmp := ownC B 5 1 e.v e.xs.length (bys e.xs)
def fam (B : Nat) (s : GS) : Ix → Cmp
  | .p => ownC B 48 2 (.slice s.L s.k s.lc) s.k (pcs s.ps)
  | .h => ownC B 66 5 (.slice s.H s.m s.hc) s.m (hec s.eh)
  | .t => optC (tmpC B) s.t
  | .w i => optC (winC B) s.ws[i]?
  | .r i => optC (refC B) s.rs[i]?
  | .e i => optC (entC B) s.es[i]?
section
variable {B : Nat} {w w' : World} {s : GS}
theorem SP.win (h : SP (fam B s) B w) {i : Nat} {g : WG} (hi : s.ws[i]? = some g) : Win w B g.b g.r g.size g.all := by
  have := h.hold (.w i)
  simp only [fam, hi] at this
  exact this
theorem SP.ref (h : SP (fam B s) B w) {i : Nat} {g : WG} (hi : s.rs[i]? = some g) : WinR w B g.b g.r g.size g.all := by
  have := h.hold (.r i)
  simp only [fam, hi] at this
  exact this
theorem SP.pair (h : SP (fam B s) B w) : w.ownsRow B 48 2 (.slice s.L s.k s.lc) s.k (pcs s.ps) := h.hold .p
theorem SP.book (h : SP (fam B s) B w) : w.ownsRow B 66 5 (.slice s.H s.m s.hc) s.m (hec s.eh) := h.hold .h
theorem SP.tmp (h : SP (fam B s) B w) {A : Option Addr} {c : Nat} {xs : List UInt8} (ht : s.t = some (A, c, xs)) : w.ownsRow B 5 1 (.slice A xs.length c) xs.length (bys xs) := by
  have := h.hold .t
  simp only [fam, ht] at this
  exact this
theorem SP.bookOwn (h : SP (fam B s) B w) : BookOwn w B s.es := fun i e hi => by
  have := h.hold (.e i)
  simp only [fam, hi] at this
  exact this
theorem SP.bookSep (h : SP (fam B s) B w) : BookSep s.es := fun i j e e' hij hi hj g hg hg' => by
  have := h.sep (.e i) (.e j) (fun e => hij (by injection e)) g
  simp only [fam, hi, hj] at this
  exact this hg hg'
/-- a window of the program's changes; a list may be made beside -/
theorem SP.winUpd (h : SP (fam B s) B w) {i : Nat} {g g' : WG} (hi : s.ws[i]? = some g) (hW : Win w' B g'.b g'.r g'.size g'.all) (hb : g'.b = g.b) (hF : Fr (fun k => k = g.b ∨ some k = g.r) w w') (hA : ∀ k, g'.r = some k → g.r = some k ∨ w.heap.size ≤ k) :
    SP (fam B { s with ws := s.ws.set i g' }) B w' := by
  have hil : i < s.ws.length := (List.getElem?_eq_some_iff.1 hi).1
  have hfi : (fam B s (.w i)) = winC B g := by simp only [fam, hi]; rfl
  have hgi : (fam B { s with ws := s.ws.set i g' } (.w i)) = winC B g' := by simp only [fam, List.getElem?_set_self hil]; rfl
  refine h.upd (fun x => x = .w i) hF (fun k hk => ⟨_, rfl, ?_⟩) ?_ ?_ ?_
  · rw [hfi]; rcases hk with hk | hk
    · exact .inl hk
    · exact .inr hk.symm
  · intro y hy
    cases y with
    | w j =>
      have hij : i ≠ j := fun e => hy (by rw [e])
      simp only [fam, List.getElem?_set_ne hij]
    | _ => rfl
  · rintro x rfl
    rw [hgi]
    refine ⟨hW, winC_st B g', fun k hk => ?_⟩
    rcases hk with hk | hk
    · exact ⟨.inl ⟨_, rfl, by rw [hfi]; exact .inl (by rw [← hb]; exact hk)⟩, by rw [hk]; exact hW.lt.1⟩
    · refine ⟨?_, (hW.lt.2 k hk).2⟩
      rcases hA k hk with h1 | h1
      · exact .inl ⟨_, rfl, by rw [hfi]; exact .inr h1⟩
      · exact .inr h1
  · intro x y hx hy hxy
    exact absurd (hx.trans hy.symm) hxy
theorem SP.refUpd (h : SP (fam B s) B w) {i : Nat} {g g' : WG} (hi : s.rs[i]? = some g) (hW : WinR w' B g'.b g'.r g'.size g'.all) (hb : g'.b = g.b) (hF : Fr (fun k => k = g.b ∨ some k = g.r) w w') (hA : ∀ k, g'.r = some k → g.r = some k ∨ w.heap.size ≤ k) :
    SP (fam B { s with rs := s.rs.set i g' }) B w' := by
  have hil : i < s.rs.length := (List.getElem?_eq_some_iff.1 hi).1
  have hfi : (fam B s (.r i)) = refC B g := by simp only [fam, hi]; rfl
  have hgi : (fam B { s with rs := s.rs.set i g' } (.r i)) = refC B g' := by simp only [fam, List.getElem?_set_self hil]; rfl
  refine h.upd (fun x => x = .r i) hF (fun k hk => ⟨_, rfl, ?_⟩) ?_ ?_ ?_
  · rw [hfi]; rcases hk with hk | hk
    · exact .inl hk
    · exact .inr hk.symm
  · intro y hy
    cases y with
    | r j =>
      have hij : i ≠ j := fun e => hy (by rw [e])
      simp only [fam, List.getElem?_set_ne hij]
    | _ => rfl
  · rintro x rfl
    rw [hgi]
    refine ⟨hW, refC_st B g', fun k hk => ?_⟩
    rcases hk with hk | hk
    · exact ⟨.inl ⟨_, rfl, by rw [hfi]; exact .inl (by rw [← hb]; exact hk)⟩, by rw [hk]; exact hW.lt.1⟩
    · refine ⟨?_, (hW.lt.2 k hk).2⟩
      rcases hA k hk with h1 | h1
      · exact .inl ⟨_, rfl, by rw [hfi]; exact .inr h1⟩
      · exact .inr h1
  · intro x y hx hy hxy
    exact absurd (hx.trans hy.symm) hxy
/-- new memory of one's own is taken in -/
theorem SP.tmpNew (h : SP (fam B s) B w) (ht : s.t = none) (hb : Below w.heap.size w w') {A : Option Addr} {c : Nat} {xs : List UInt8} (hO : w'.ownsRow w.heap.size 5 1 (.slice A xs.length c) xs.length (bys xs)) :
    SP (fam B { s with t := some (A, c, xs) }) B w' := by
  refine h.upd (F := fun _ => False) (fun x => x = .t) (Fr.of_below hb) (fun k hk => hk.elim) ?_ ?_ ?_
  · intro y hy
    cases y with
    | t => exact absurd rfl hy
    | _ => rfl
  · rintro x rfl
    exact ⟨own_mono hO h.le, ownC_st _ _ _ _ _ _, fun k hk => ⟨.inr (own_lt hO hk).1, (own_lt hO hk).2⟩⟩
  · intro x y hx hy hxy
    exact absurd (hx.trans hy.symm) hxy
/-- the program's Copy: the window changes, a list is made -/
theorem SP.copied (h : SP (fam B s) B w) {i : Nat} {g g' : WG} (hi : s.ws[i]? = some g) (hW : Win w' B g'.b g'.r g'.size g'.all) (hb : g'.b = g.b) (hF : Fr (fun k => k = g.b ∨ some k = g.r) w w') (hA : ∀ k, g'.r = some k → g.r = some k ∨ w.heap.size ≤ k)
    {A : Option Addr} {c : Nat} {xs : List UInt8} (hO : w'.ownsRow w.heap.size 5 1 (.slice A xs.length c) xs.length (bys xs)) (hne : ∀ k, g'.r = some k → (Value.slice A xs.length c).ownBlock ≠ some k) :
    SP (fam B { s with ws := s.ws.set i g', t := some (A, c, xs) }) B w' := by
  have hil : i < s.ws.length := (List.getElem?_eq_some_iff.1 hi).1
  have hfi : (fam B s (.w i)) = winC B g := by simp only [fam, hi]; rfl
  have hgi : (fam B { s with ws := s.ws.set i g', t := some (A, c, xs) } (.w i)) = winC B g' := by simp only [fam, List.getElem?_set_self hil]; rfl
  have hdis : ∀ k, (winC B g').S k → ¬ (Value.slice A xs.length c).ownBlock = some k := fun k hk e => by
    rcases hk with hk | hk
    · have h1 := (own_lt hO e).1
      have h2 := (h.win hi).lt.1
      rw [hk, hb] at h1
      omega
    · exact hne k hk e
  refine h.upd (fun x => x = .w i ∨ x = .t) hF (fun k hk => ⟨_, .inl rfl, ?_⟩) ?_ ?_ ?_
  · rw [hfi]; rcases hk with hk | hk
    · exact .inl hk
    · exact .inr hk.symm
  · intro y hy
    cases y with
    | w j =>
      have hij : i ≠ j := fun e => hy (.inl (by rw [e]))
      simp only [fam, List.getElem?_set_ne hij]
    | t => exact absurd (.inr rfl) hy
    | _ => rfl
  · rintro x (rfl | rfl)
    · rw [hgi]
      refine ⟨hW, winC_st B g', fun k hk => ?_⟩
      rcases hk with hk | hk
      · exact ⟨.inl ⟨_, .inl rfl, by rw [hfi]; exact .inl (by rw [← hb]; exact hk)⟩, by rw [hk]; exact hW.lt.1⟩
      · refine ⟨?_, (hW.lt.2 k hk).2⟩
        rcases hA k hk with h1 | h1
        · exact .inl ⟨_, .inl rfl, by rw [hfi]; exact .inr h1⟩
        · exact .inr h1
    · exact ⟨own_mono hO h.le, ownC_st _ _ _ _ _ _, fun k hk => ⟨.inr (own_lt hO hk).1, (own_lt hO hk).2⟩⟩
  · rintro x y (rfl | rfl) (rfl | rfl) hxy k hk hk'
    · exact absurd rfl hxy
    · rw [hgi] at hk; exact hdis k hk hk'
    · rw [hgi] at hk'; exact hdis k hk' hk
    · exact absurd rfl hxy
/-- the list that was taken in is held as an entry of the book -/
theorem SP.held (h : SP (fam B s) B w) {A : Option Addr} {c : Nat} {xs : List UInt8} (ht : s.t = some (A, c, xs)) {x : HE} (hF : Fr (fun k => some k = (Value.slice A xs.length c).ownBlock) w w') (hO : w'.ownsRow B 5 1 x.v x.xs.length (bys x.xs))
    (hat : x.v.ownBlock = (Value.slice A xs.length c).ownBlock ∨ ∀ g, x.v.ownBlock = some g → w.heap.size ≤ g) : SP (fam B { s with es := s.es ++ [x], t := none }) B w' := by
  have hft : (fam B s .t) = tmpC B (A, c, xs) := by simp only [fam, ht]; rfl
  have hge : (fam B { s with es := s.es ++ [x], t := none } (.e s.es.length)) = entC B x := by
    have : (s.es ++ [x])[s.es.length]? = some x := by rw [List.getElem?_append_right (Nat.le_refl _), Nat.sub_self]; rfl
    simp only [fam, this]; rfl
  refine h.upd (fun y => y = .t ∨ y = .e s.es.length) hF (fun k hk => ⟨_, .inl rfl, by rw [hft]; exact hk.symm⟩) ?_ ?_ ?_
  · intro y hy
    cases y with
    | e j =>
      have hj : j ≠ s.es.length := fun e => hy (.inr (by rw [e]))
      have : (s.es ++ [x])[j]? = s.es[j]? := by
        by_cases hlt : j < s.es.length
        · rw [List.getElem?_append_left hlt]
        · rw [List.getElem?_eq_none (by simp; omega), List.getElem?_eq_none (by omega)]
      simp only [fam, this]
    | t => exact absurd (.inl rfl) hy
    | _ => rfl
  · rintro y (rfl | rfl)
    · exact ⟨trivial, trivC_st, fun k hk => hk.elim⟩
    · rw [hge]
      refine ⟨hO, ownC_st _ _ _ _ _ _, fun k hk => ⟨?_, (own_lt hO hk).2⟩⟩
      rcases hat with h1 | h1
      · exact .inl ⟨_, .inl rfl, by rw [hft]; exact h1.symm.trans hk⟩
      · exact .inr (h1 k hk)
  · rintro y z (rfl | rfl) (rfl | rfl) hyz k hk hk'
    · exact absurd rfl hyz
    · exact hk
    · exact hk'
    · exact absurd rfl hyz
/-- the book's list grows -/
theorem SP.bookUpd (h : SP (fam B s) B w) {H2 : Option Addr} {m2 hc2 : Nat} {eh2 : List HE} (o : Obj) (hO : w'.ownsRow B 66 5 (.slice H2 m2 hc2) m2 (hec eh2)) (hg : (w.alloc o).grownBy w' (Value.slice s.H s.m s.hc).ownBlock)
    (hat : (Value.slice H2 m2 hc2).ownBlock = (Value.slice s.H s.m s.hc).ownBlock ∨ (Value.slice H2 m2 hc2).ownBlock = some (w.alloc o).heap.size) : SP (fam B { s with H := H2, m := m2, hc := hc2, eh := eh2 }) B w' := by
  have hF : Fr (fun g => (Value.slice s.H s.m s.hc).ownBlock = some g) w w' := ((Fr.refl _ w).alloc o).grown hg (fun g hg => .inl hg)
  refine h.upd (fun y => y = .h) hF (fun k hk => ⟨_, rfl, hk⟩) ?_ ?_ ?_
  · intro y hy
    cases y with
    | h => exact absurd rfl hy
    | _ => rfl
  · rintro y rfl
    refine ⟨hO, ownC_st _ _ _ _ _ _, fun k hk => ⟨?_, (own_lt hO hk).2⟩⟩
    rcases hat with h1 | h1
    · exact .inl ⟨_, rfl, h1.symm.trans hk⟩
    · refine .inr ?_
      have hk : (Value.slice H2 m2 hc2).ownBlock = some k := hk
      rw [h1] at hk
      injection hk with hk
      rw [← hk]; simp
  · intro x y hx hy hxy
    exact absurd (hx.trans hy.symm) hxy
/-- the pairs' list grows -/
theorem SP.pairUpd (h : SP (fam B s) B w) {L2 : Option Addr} {k2 lc2 : Nat} {ps2 : List (Nat × Nat)} (o : Obj) (hO : w'.ownsRow B 48 2 (.slice L2 k2 lc2) k2 (pcs ps2)) (hg : (w.alloc o).grownBy w' (Value.slice s.L s.k s.lc).ownBlock)
    (hat : (Value.slice L2 k2 lc2).ownBlock = (Value.slice s.L s.k s.lc).ownBlock ∨ (Value.slice L2 k2 lc2).ownBlock = some (w.alloc o).heap.size) : SP (fam B { s with L := L2, k := k2, lc := lc2, ps := ps2 }) B w' := by
  have hF : Fr (fun g => (Value.slice s.L s.k s.lc).ownBlock = some g) w w' := ((Fr.refl _ w).alloc o).grown hg (fun g hg => .inl hg)
  refine h.upd (fun y => y = .p) hF (fun k hk => ⟨_, rfl, hk⟩) ?_ ?_ ?_
  · intro y hy
    cases y with
    | p => exact absurd rfl hy
    | _ => rfl
  · rintro y rfl
    refine ⟨hO, ownC_st _ _ _ _ _ _, fun k hk => ⟨?_, (own_lt hO hk).2⟩⟩
    rcases hat with h1 | h1
    · exact .inl ⟨_, rfl, h1.symm.trans hk⟩
    · refine .inr ?_
      have hk : (Value.slice L2 k2 lc2).ownBlock = some k := hk
      rw [h1] at hk
      injection hk with hk
      rw [← hk]; simp
  · intro x y hx hy hxy
    exact absurd (hx.trans hy.symm) hxy
theorem snoc_get {α : Type} {l : List α} {x : α} {j : Nat} (h : j ≠ l.length) : (l ++ [x])[j]? = l[j]? := by
  by_cases hlt : j < l.length
  · rw [List.getElem?_append_left hlt]
  · rw [List.getElem?_eq_none (by simp; omega), List.getElem?_eq_none (by omega)]
theorem snoc_at {α : Type} (l : List α) (x : α) : (l ++ [x])[l.length]? = some x := by rw [List.getElem?_append_right (Nat.le_refl _), Nat.sub_self]; rfl
/-- a new window -/
theorem SP.winNew (h : SP (fam B s) B w) (hb : Below w.heap.size w w') {g : WG} (hW : Win w' w.heap.size g.b g.r g.size g.all) : SP (fam B { s with ws := s.ws ++ [g] }) B w' := by
  have hge : (fam B { s with ws := s.ws ++ [g] } (.w s.ws.length)) = winC B g := by simp only [fam, snoc_at]; rfl
  refine h.upd (F := fun _ => False) (fun y => y = .w s.ws.length) (Fr.of_below hb) (fun k hk => hk.elim) ?_ ?_ ?_
  · intro y hy
    cases y with
    | w j => simp only [fam, snoc_get (fun e => hy (by rw [e]) : j ≠ s.ws.length)]
    | _ => rfl
  · rintro y rfl
    rw [hge]
    refine ⟨hW.mono h.le, winC_st B g, fun k hk => ?_⟩
    rcases hk with hk | hk
    · rw [hk]; exact ⟨.inr hW.base, hW.lt.1⟩
    · exact ⟨.inr (hW.lt.2 k hk).1, (hW.lt.2 k hk).2⟩
  · intro x y hx hy hxy
    exact absurd (hx.trans hy.symm) hxy
theorem SP.refNew (h : SP (fam B s) B w) (hb : Below w.heap.size w w') {g : WG} (hW : WinR w' w.heap.size g.b g.r g.size g.all) : SP (fam B { s with rs := s.rs ++ [g] }) B w' := by
  have hge : (fam B { s with rs := s.rs ++ [g] } (.r s.rs.length)) = refC B g := by simp only [fam, snoc_at]; rfl
  refine h.upd (F := fun _ => False) (fun y => y = .r s.rs.length) (Fr.of_below hb) (fun k hk => hk.elim) ?_ ?_ ?_
  · intro y hy
    cases y with
    | r j => simp only [fam, snoc_get (fun e => hy (by rw [e]) : j ≠ s.rs.length)]
    | _ => rfl
  · rintro y rfl
    rw [hge]
    refine ⟨hW.mono h.le, refC_st B g, fun k hk => ?_⟩
    rcases hk with hk | hk
    · rw [hk]; exact ⟨.inr hW.base, hW.lt.1⟩
    · exact ⟨.inr (hW.lt.2 k hk).1, (hW.lt.2 k hk).2⟩
  · intro x y hx hy hxy
    exact absurd (hx.trans hy.symm) hxy
/-- the list that was taken in is written -/
theorem SP.tmpFr (h : SP (fam B s) B w) {A : Option Addr} {c : Nat} {xs ys : List UInt8} (ht : s.t = some (A, c, xs)) (hl : ys.length = xs.length) (hF : Fr (fun k => some k = (Value.slice A xs.length c).ownBlock) w w') (hO : w'.ownsRow B 5 1 (.slice A xs.length c) xs.length (bys ys)) :
    SP (fam B { s with t := some (A, c, ys) }) B w' := by
  have hft : (fam B s .t) = tmpC B (A, c, xs) := by simp only [fam, ht]; rfl
  have hfb : (Value.slice A ys.length c).ownBlock = (Value.slice A xs.length c).ownBlock := by rw [hl]
  refine h.upd (fun y => y = .t) hF (fun k hk => ⟨_, rfl, by rw [hft]; exact hk.symm⟩) ?_ ?_ ?_
  · intro y hy
    cases y with
    | t => exact absurd rfl hy
    | _ => rfl
  · rintro y rfl
    refine ⟨by show w'.ownsRow B 5 1 (.slice A ys.length c) ys.length (bys ys); rw [hl]; exact hO, ownC_st _ _ _ _ _ _, fun k hk => ⟨.inl ⟨_, rfl, by rw [hft]; exact hfb.symm.trans hk⟩, (own_lt hO (hfb.symm.trans hk)).2⟩⟩
  · intro x y hx hy hxy
    exact absurd (hx.trans hy.symm) hxy
/-- .. and let go -/
theorem SP.tmpDrop (h : SP (fam B s) B w) : SP (fam B { s with t := none }) B w := by
  refine h.upd (F := fun _ => False) (fun y => y = .t) (Fr.refl _ w) (fun k hk => hk.elim) ?_ ?_ ?_
  · intro y hy
    cases y with
    | t => exact absurd rfl hy
    | _ => rfl
  · rintro y rfl
    exact ⟨trivial, trivC_st, fun k hk => hk.elim⟩
  · intro x y hx hy hxy
    exact absurd (hx.trans hy.symm) hxy
/-- what the law knows of all its parts -/
structure GJ (s : GS) (N : Nat) : Prop where
  lw : s.ws.length = s.k
  lr : s.rs.length = s.k
  lp : s.ps.length = s.k
  pr : ∀ (i : Nat) (g : WG), s.ws[i]? = some g → ∃ q, s.rs[i]? = some q ∧ s.ps[i]? = some (g.b, q.b) ∧ q.size = g.size ∧ q.all = g.all ∧ g.all.length ≤ N
  ee : s.eh = s.es
  le : s.es.length = s.m
  ok : ∀ (i : Nat) (e : HE), s.es[i]? = some e → e.ok ∧ e.N ≤ 1073741824
  t : s.t = none
theorem GJ.mono {N N' : Nat} (h : GJ s N) (hN : N ≤ N') : GJ s N' :=
  ⟨h.lw, h.lr, h.lp, fun i g hi => by obtain ⟨q, h1, h2, h3, h4, h5⟩ := h.pr i g hi; exact ⟨q, h1, h2, h3, h4, Nat.le_trans h5 hN⟩, h.ee, h.le, h.ok, h.t⟩
theorem GJ.at {N i : Nat} (h : GJ s N) (hi : i < s.k) : ∃ b c r1 r2 size all, s.ws[i]? = some ⟨b, r1, size, all⟩ ∧ s.rs[i]? = some ⟨c, r2, size, all⟩ ∧ s.ps[i]? = some (b, c) ∧ all.length ≤ N := by
  obtain ⟨g, hg⟩ : ∃ g, s.ws[i]? = some g := ⟨_, List.getElem?_eq_getElem (by rw [h.lw]; exact hi)⟩
  obtain ⟨q, h1, h2, h3, h4, h5⟩ := h.pr i g hg
  obtain ⟨b, r1, size, all⟩ := g
  obtain ⟨c, r2, size', all'⟩ := q
  simp only [] at h2 h3 h4 h5
  subst h3
  subst h4
  exact ⟨b, c, r1, r2, _, _, hg, h1, h2, h5⟩
theorem GJ.set {N N' i b c size : Nat} {r1 r2 q1 q2 : Option Nat} {all all' : List UInt8} (h : GJ s N) (h1 : s.ws[i]? = some ⟨b, r1, size, all⟩) (h2 : s.rs[i]? = some ⟨c, r2, size, all⟩) (h3 : s.ps[i]? = some (b, c)) (hN : N ≤ N') (hl : all'.length ≤ N') :
    GJ { s with ws := s.ws.set i ⟨b, q1, size, all'⟩, rs := s.rs.set i ⟨c, q2, size, all'⟩ } N' := by
  have hil : i < s.ws.length := (List.getElem?_eq_some_iff.1 h1).1
  have hir : i < s.rs.length := (List.getElem?_eq_some_iff.1 h2).1
  refine ⟨by simp only [List.length_set]; exact h.lw, by simp only [List.length_set]; exact h.lr, h.lp, fun j g hj => ?_, h.ee, h.le, h.ok, h.t⟩
  simp only at hj ⊢
  by_cases hij : i = j
  · subst hij
    rw [List.getElem?_set_self hil] at hj
    cases hj
    exact ⟨_, List.getElem?_set_self hir, h3, rfl, rfl, hl⟩
  · rw [List.getElem?_set_ne hij] at hj
    obtain ⟨q, h1, h2, h3, h4, h5⟩ := h.pr j g hj
    exact ⟨q, by rw [List.getElem?_set_ne hij]; exact h1, h2, h3, h4, Nat.le_trans h5 hN⟩
theorem GJ.entry {N m2 : Nat} {H2 : Option Addr} {hc2 : Nat} {x : HE} (h : GJ s N) (hx : x.ok ∧ x.N ≤ 1073741824) (hm : m2 = s.m + 1) : GJ { s with H := H2, m := m2, hc := hc2, eh := s.es ++ [x], es := s.es ++ [x], t := none } N := by
  refine ⟨h.lw, h.lr, h.lp, h.pr, rfl, by simp only [List.length_append, List.length_singleton, h.le, hm], fun i e hi => ?_, rfl⟩
  simp only at hi
  by_cases hie : i = s.es.length
  · subst hie
    rw [snoc_at] at hi
    cases hi
    exact hx
  · rw [snoc_get hie] at hi
    exact h.ok i e hi
end
end Go.Proofs.Ytcfaocbdhfmhbaa
