/-
  Cuts of any kind, legal or not: Cut, the document's Cut and Pieces, the iterator of Pieces. Conditions: the data lie in memory.
-/
import Derived.Test.YtglkahonejblpaaPcsN
import Derived.Test.YtglkahonejblpaaCkP
namespace Go.Proofs.Ytglkahonejblpaa
open Go.RowKit Go.Shelf

def piecesAny (least most bits : Int) (l : List UInt8) : List (List UInt8) := if CutsOk least most bits then piecesL least most bits l else []
def erOf (least most bits : Int) : Int := if CutsOk least most bits then 0 else 6
def CutR (cl : List Nat) (q : Nat) (ec : Int) (w : World) (e : Ending) (w' : World) : Prop := ∃ (L : Option Addr) (lc : Nat), e = .returned (.tuple #[.slice L q lc, .int .i64 ec]) ∧ w'.ownsRow w.heap.size 3 1 (.slice L q lc) q (nis cl) ∧ Below w.heap.size w w'
theorem Cut_gen (A : Option Addr) (m c : Nat) (l : List UInt8) (least most bits : Int) (cl : List Nat) (q : Nat) (ec : Int) (w : World) (hI : In w A m l) (hmc : m ≤ c) (hm : m ≤ 17179869184) (hcl : cutsAny least most bits l = cl) (hq : cl.length = q) (he : erOf least most bits = ec) :
    Calls Try.prog 18 #[.slice A m c, .agg #[.int .i64 least, .int .i64 most, .int .i64 bits]] w (CutR cl q ec w) := by
  subst hcl hq he
  exact (Cut_any A m c l least most bits w hI hmc hm).mono fun e w' h => h
theorem RCut_gen (A : Option Addr) (m c : Nat) (l : List UInt8) (least most bits : Int) (cl : List Nat) (q : Nat) (ec : Int) (w : World) (hI : In w A m l) (hmc : m ≤ c) (hm : m ≤ 1099511627776) (hcl : cutsAny least most bits l = cl) (hq : cl.length = q) (he : erOf least most bits = ec) :
    Calls Try.prog 24 #[.slice A m c, .agg #[.int .i64 least, .int .i64 most, .int .i64 bits]] w (CutR cl q ec w) := by
  subst hcl hq he
  unfold cutsAny erOf
  by_cases hok : CutsOk least most bits
  · rw [if_pos hok, if_pos hok]
    refine (RCut_yes A m c l least most bits w hI hmc hm hok).mono ?_
    rintro e w' ⟨L, lc, q, rfl, rfl, _, h1, h2⟩
    exact ⟨L, lc, rfl, h1, h2⟩
  · rw [if_neg hok, if_neg hok]
    refine (RCut_no A m c least most bits w hok).mono ?_
    rintro e w' ⟨rfl, h⟩
    exact ⟨none, 0, rfl, World.ownsRow_nil _ _ _ _, h⟩
theorem RPieces_gen (A : Option Addr) (m c : Nat) (l : List UInt8) (least most bits : Int) (w : World) (hI : In w A m l) (hmc : m ≤ c) (hm : m ≤ 549755813888) :
    Calls Try.prog 29 #[.slice A m c, .agg #[.int .i64 least, .int .i64 most, .int .i64 bits]] w (RPPost A m l (piecesAny least most bits l) w) := by
  unfold piecesAny
  by_cases hok : CutsOk least most bits
  · rw [if_pos hok]
    exact RPieces_any A m c l least most bits w hI hmc hm hok
  · rw [if_neg hok]
    refine (RPieces_no A m c least most bits w hok).mono ?_
    rintro e w' ⟨rfl, h⟩
    exact ⟨none, 0, [], rfl, rfl, World.ownsRow_nil _ _ _ _, (fun p hp => by cases hp), h⟩
theorem pieces1_gen (n : Nat) (hn : 3 ≤ n) (lp cb ob : Nat) (least most bits : Int) (A : Option Addr) (m c : Nat) (l : List UInt8) (J : Nat → World → Prop) (Jx : World → Prop) (W0 : World)
    (hC : Blk W0 cb 23 #[.int .i64 least, .int .i64 most, .int .i64 bits]) (hD : Blk W0 ob 32 #[.slice A m c]) (hI : In W0 A m l) (hmc : m ≤ c) (hm : m ≤ 17179869184) (h0 : J 0 W0)
    (hJf : ∀ k W W', J k W → Fr (fun g => W0.heap.size ≤ g ∧ g < W0.heap.size + 8) W W' → J k W') (hXf : ∀ W W', Jx W → Fr (fun g => W0.heap.size ≤ g ∧ g < W0.heap.size + 8) W W' → Jx W')
    (hY : ∀ k (x : List UInt8) (O : Option Addr) (oc : Nat) Wp W, J k Wp → (piecesAny least most bits l)[k]? = some x → W0.heap.size + 8 ≤ Wp.heap.size → Below Wp.heap.size Wp W → W.ownsRow Wp.heap.size 5 1 (.slice O x.length oc) x.length (bys x) →
      YieldAt Fence.wide (n - 1) Try.prog lp #[.slice O x.length oc] W fun e W' => (e = .returned (.bool true) ∧ J (k + 1) W' ∧ KeepAt (fun g => (W0.heap.size ≤ g ∧ g < W0.heap.size + 8) ∨ g = cb ∨ g = ob ∨ (0 < m ∧ ∃ ad, A = some ad ∧ g = ad.block)) W W') ∨
        (e = .returned (.bool false) ∧ Jx W' ∧ KeepAt (fun g => (W0.heap.size ≤ g ∧ g < W0.heap.size + 8) ∨ g = cb ∨ g = ob ∨ (0 < m ∧ ∃ ad, A = some ad ∧ g = ad.block)) W W')) :
    CallsIn Fence.wide n Try.prog 34 #[.func (.yield lp) #[] #[], .pointer (some ⟨cb, 0, none⟩), .pointer (some ⟨ob, 0, none⟩)] W0 fun e W' => (∃ v, e = .returned v) ∧ (J (piecesAny least most bits l).length W' ∨ Jx W') := by
  unfold piecesAny at hY ⊢
  by_cases hok : CutsOk least most bits
  · simp only [if_pos hok] at hY ⊢
    exact pieces1_lv n hn lp cb ob least most bits hok A m c l J Jx W0 hC hD hI hmc hm h0 hJf hXf hY
  · simp only [if_neg hok] at hY ⊢
    refine (pieces1_no n hn lp cb ob least most bits hok (J 0) W0 hC fun W hW => hJf 0 _ _ h0 (Fr.of_below hW)).mono ?_
    rintro e W' ⟨h1, h2⟩
    exact ⟨h1, .inl h2⟩
theorem pieces_len (least most bits : Int) (l : List UInt8) : (piecesAny least most bits l).length = (cutsAny least most bits l).length ∧ (piecesAny least most bits l).length ≤ l.length + 1 ∧ ∀ x, x ∈ piecesAny least most bits l → x.length ≤ l.length := by
  unfold piecesAny cutsAny
  by_cases hok : CutsOk least most bits
  · rw [if_pos hok, if_pos hok]
    obtain ⟨h1, h2⟩ := piecesL_runs least most bits l
    refine ⟨by rw [← h1, runs_length], ?_, fun x hx => by have := flat_le hx; rw [h2] at this; exact this⟩
    have h3 := (wrL_bd least most bits l 0 0 []).2.2
    unfold piecesL allP
    rw [List.length_append]
    split <;> simp <;> omega
  · rw [if_neg hok, if_neg hok]
    exact ⟨rfl, Nat.zero_le _, fun x hx => by cases hx⟩
end Go.Proofs.Ytglkahonejblpaa
