/- Apply once more: its result lies in new memory. -/
import Derived.Test.YtgclngoeglopcaaLawC
namespace Go.Proofs.Ytgclngoeglopcaa
open Go.RowKit

/-- a slice that reads as xs in every world that has the blocks from B on as they are now -/
def IntsF (B : Nat) (w : World) (v : Value) (xs : List Int) : Prop := ∀ W : World, (∀ b, B ≤ b → b < w.heap.size → W.heap[b]? = w.heap[b]?) → Ints W v xs
theorem IntsF.ints {B : Nat} {w : World} {v : Value} {xs : List Int} (h : IntsF B w v xs) : Ints w v xs := h w (fun _ _ _ => rfl)
theorem IntsF.set2 {B : Nat} {w : World} {v : Value} {xs : List Int} (h : IntsF B w v xs) {r : Nat} (hr : r < B) (i j : Nat) (u u' : Value) : Ints ((w.setCell ⟨r, i, none⟩ u).setCell ⟨r, j, none⟩ u') v xs :=
  h _ (fun b hb _ => heap_set2 w r i j b u u' (by omega))
def GRf (B : Nat) (w : World) (r : Int × List Int × List Int) (e : Ending) (w' : World) : Prop :=
  Below B w w' ∧ ∃ A0 n0 c0 A1 n1 c1, e = .returned (.tuple #[.agg #[.slice A0 n0 c0, .slice A1 n1 c1], .int .i64 r.1]) ∧ IntsF B w' (.slice A0 n0 c0) r.2.1 ∧ IntsF B w' (.slice A1 n1 c1) r.2.2
theorem apply_rf (vx vo : Value) (X O : List Int) (k : Int) (rows : Bool) (a v : Int) (w : World) (hX : Ints w vx X) (hO : Ints w vo O) (hl : X.length ≤ 1000) (hl' : O.length ≤ 1000) :
    Calls Try.prog 13 #[.agg #[vx, vo], .agg #[.int .i64 k, .bool rows, .int .i64 a, .int .i64 v]] w (GRf w.heap.size w (applyM X O k rows a v)) := by
  refine (apply_any vx vo X O k rows a v w hX hO hl hl').mono ?_
  rintro e w' ⟨hb, u, rfl, h⟩
  refine ⟨hb, ?_⟩
  by_cases h0 : (applyM X O k rows a v).1 = 0
  · rw [if_pos h0] at h
    obtain ⟨gx, go, rfl, _, b1, b2, h1, h2⟩ := h
    refine ⟨_, _, _, _, _, _, rfl, fun W hW => Ints.of_arr (t := 3) ?_, fun W hW => Ints.of_arr (t := 3) ?_⟩
    · exact (hW gx b1 h1.lt).trans h1
    · exact (hW go b2 h2.lt).trans h2
  · rw [if_neg h0] at h
    subst h
    rw [applyM_err _ _ _ _ _ _ h0]
    exact ⟨_, _, _, _, _, _, rfl, fun W _ => Ints.nil _, fun W _ => Ints.nil _⟩
end Go.Proofs.Ytgclngoeglopcaa
