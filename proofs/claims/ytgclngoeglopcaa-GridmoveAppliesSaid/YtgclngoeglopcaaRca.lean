/- The reference's columns and Apply in plain words. -/
import Derived.Test.YtgclngoeglopcaaRcl
import Derived.Test.YtgclngoeglopcaaRck
import Derived.Test.YtgclngoeglopcaaRtr
namespace Go.Proofs.Ytgclngoeglopcaa
open Go.RowKit
set_option linter.unusedVariables false

theorem colIx_of {l : List Int} (h : l.Nodup) {i : Nat} (hi : i < l.length) {y : Int} (hy : l[i] = y) : colIx l y = i := by
  subst hy
  unfold colIx
  rw [if_pos (List.getElem_mem hi)]
  have := h.idxOf_getElem i hi
  rw [this]
theorem remB_eq {X O : List Int} {a : Nat} (h : Vd X O) (ha : a < X.length) : remB X O (X.getD a 0) (O.getD a 0) = desOk X O a (X.getD a 0) (O.getD a 0) := by
  have hO : a < O.length := by have := h.len; omega
  have gX : X.getD a 0 = X[a] := by simp [List.getD_eq_getElem?_getD, ha]
  have gO : O.getD a 0 = O[a] := by simp [List.getD_eq_getElem?_getD, hO]
  rw [gX, gO]
  have hne := h.ne a ha hO
  have hlen := h.len
  unfold remB desOk
  by_cases h1 : X.length < 3 ∨ (X[a] - O[a] ≠ 1 ∧ O[a] - X[a] ≠ 1)
  · rw [if_pos h1]
    have : (decide (3 ≤ X.length) && decide (maxG X[a] O[a] = minG X[a] O[a] + 1)) = false := by
      rcases h1 with h1 | h1
      · simp; omega
      · have : ¬ maxG X[a] O[a] = minG X[a] O[a] + 1 := by unfold maxG minG; split <;> split <;> omega
        simp [this]
    rw [this]
    rfl
  · rw [if_neg h1]
    have h3 : decide (3 ≤ X.length) = true := by simp; omega
    have h4 : decide (maxG X[a] O[a] = minG X[a] O[a] + 1) = true := by
      simp only [decide_eq_true_eq]; unfold maxG minG; split <;> split <;> omega
    rw [h3, h4, Bool.true_and, Bool.true_and]
    have gx := h.pX.get ha
    have go := h.pO.get hO
    obtain ⟨i, hi, hix⟩ := h.pO.surj (j := X[a].toNat) (by omega)
    obtain ⟨j, hj, hjx⟩ := h.pX.surj (j := O[a].toNat) (by omega)
    replace hix : O[i] = X[a] := by rw [hix]; omega
    replace hjx : X[j] = O[a] := by rw [hjx]; omega
    rw [colIx_of h.pO.2 hi hix, colIx_of h.pX.2 hj hjx]
    by_cases e : i = j
    · subst e
      have : desAll a X[a] O[a] 0 X O ≠ true := fun hd => desAll_spec a X[a] O[a] X O 0 hlen hd i hj hi (fun e => by
        rw [Nat.zero_add] at e; subst e; exact hne hix.symm) ⟨hix, hjx⟩
      simp [Bool.eq_false_iff.2 this]
    · have : desAll a X[a] O[a] 0 X O = true := desAll_of a X[a] O[a] X O 0 hlen (fun k hk hk' _ => by
        rintro ⟨e1, e2⟩
        have h1 : k = i := h.pO.inj hk' hi (e1.trans hix.symm)
        have h2 : k = j := h.pX.inj hk hj (e2.trans hjx.symm)
        exact e (h1.symm.trans h2))
      rw [this]
      simp only [bne_iff_ne, ne_eq]
      omega

/-- what the reference's columns returns -/
def refColsM (X O : List Int) (k a v : Int) : Int × List Int × List Int :=
  if ¬ (1 ≤ k ∧ k ≤ 4) then (11, [], [])
  else if a < 0 ∨ limAt k X.length ≤ a ∨ v < 0 ∨ limVar k X.length ≤ v then (2, [], [])
  else colsL X O k a.toNat v.toNat

theorem refCols_any (vx vo : Value) (X O : List Int) (rows : Bool) (k a v : Int) (w : World) (hX : Ints w vx X) (hO : Ints w vo O) (hv : Vd X O) :
    Calls Try.prog 31 #[.agg #[vx, vo], .agg #[.int .i64 k, .bool rows, .int .i64 a, .int .i64 v]] w (GRf w.heap.size w (refColsM X O k a v)) := by
  unfold refColsM
  by_cases hk : 1 ≤ k ∧ k ≤ 4
  rotate_left
  · rw [if_pos hk]
    exact refColsK vx vo X O rows k a v w hX hO (by omega)
  rw [if_neg (by simpa using hk)]
  by_cases hr : a < 0 ∨ limAt k X.length ≤ a ∨ v < 0 ∨ limVar k X.length ≤ v
  · rw [if_pos hr]
    obtain rfl | rfl | rfl | rfl : k = 1 ∨ k = 2 ∨ k = 3 ∨ k = 4 := by omega
    · exact refColsR1 vx vo X O rows a v w hX hO hv (by simpa [limAt, limVar] using hr)
    · exact refColsR2 vx vo X O rows a v w hX hO hv (by simpa [limAt, limVar] using hr)
    · exact refColsR3 vx vo X O rows a v w hX hO hv (by simpa [limAt, limVar] using hr)
    · exact refColsR4 vx vo X O rows a v w hX hO hv (by simpa [limAt, limVar] using hr)
  · rw [if_neg hr]
    have h2 := hv.two
    have h40 := hv.most
    obtain rfl | rfl | rfl | rfl : k = 1 ∨ k = 2 ∨ k = 3 ∨ k = 4 := by omega
    · simp [limAt, limVar] at hr
      refine (refCols1 vx vo X O rows a v w hX hO hv (by omega) (by omega) (by omega) (by omega)).mono ?_
      rintro e w' ⟨g, rfl, ⟨A0, n0, c0, A1, n1, c1, rfl, h0, h1⟩, hb⟩
      exact ⟨hb, _, _, _, _, _, _, rfl, h0.intsF, h1.intsF⟩
    · simp [limAt, limVar] at hr
      have e : colsL X O 2 a.toNat v.toNat = if commB (X.getD a.toNat 0) (O.getD a.toNat 0) (X.getD (a.toNat + 1) 0) (O.getD (a.toNat + 1) 0) = true then (0, swapL X a.toNat, swapL O a.toNat) else (6, [], []) := rfl
      rw [e]
      split
      · rename_i hB; exact refCols2Y vx vo X O rows a v w hX hO hv (by omega) (by omega) (by omega) (by omega) hB
      · rename_i hB; exact refCols2N vx vo X O rows a v w hX hO hv (by omega) (by omega) (by omega) (by omega) (by simpa using hB)
    · simp [limAt, limVar] at hr
      have e : colsL X O 3 a.toNat v.toNat = if remB X O (X.getD a.toNat 0) (O.getD a.toNat 0) = true then (0, delL X a.toNat (minG (X.getD a.toNat 0) (O.getD a.toNat 0)), delL O a.toNat (minG (X.getD a.toNat 0) (O.getD a.toNat 0))) else (6, [], []) := by
        rw [remB_eq hv (by omega)]; rfl
      rw [e]
      split
      · rename_i hB; exact refCols3Y vx vo X O rows a v w hX hO hv (by omega) (by omega) (by omega) (by omega) hB
      · rename_i hB; exact refCols3N vx vo X O rows a v w hX hO hv (by omega) (by omega) (by omega) (by omega) (by simpa using hB)
    · simp [limAt, limVar] at hr
      by_cases hf : X.length = 40
      · have e : colsL X O 4 a.toNat v.toNat = (5, [], []) := by simp [colsL, hf]
        rw [e]
        exact refCols4F vx vo X O rows a v w hX hO hv (by omega) (by omega) (by omega) (by omega) (by omega)
      · by_cases hp : v.toNat % 2 = 0
        · have e : colsL X O 4 a.toNat v.toNat = (0, addL X a.toNat (v.toNat / 2 : Nat) false ((v.toNat / 2 : Nat) + 1 : Int), addL O a.toNat (v.toNat / 2 : Nat) true ((v.toNat / 2 : Nat) : Int)) := by simp [colsL, hf, hp]
          rw [e]
          exact refCols4A vx vo X O rows a v w hX hO hv (by omega) (by omega) (by omega) (by omega) (by omega) hp
        · have hp' : v.toNat % 2 = 1 := by omega
          have e : colsL X O 4 a.toNat v.toNat = (0, addL X a.toNat (v.toNat / 2 : Nat) true ((v.toNat / 2 : Nat) : Int), addL O a.toNat (v.toNat / 2 : Nat) false ((v.toNat / 2 : Nat) + 1 : Int)) := by simp [colsL, hf, hp']
          rw [e]
          exact refCols4B vx vo X O rows a v w hX hO hv (by omega) (by omega) (by omega) (by omega) (by omega) hp'

def refApplyM (X O : List Int) (k : Int) (rows : Bool) (a v : Int) : Int × List Int × List Int :=
  if rows = false then refColsM X O k a v
  else if (refColsM (tr X) (tr O) k a v).1 = 0 then (0, tr (refColsM (tr X) (tr O) k a v).2.1, tr (refColsM (tr X) (tr O) k a v).2.2)
  else ((refColsM (tr X) (tr O) k a v).1, [], [])
theorem refApplyM_eq {X O : List Int} {k a v : Int} {rows : Bool} (h : Vd X O) : refApplyM X O k rows a v = applyM X O k rows a v := by
  have h2 := h.two
  have hz := limAt_zero (k := k) (n := X.length) (by omega)
  unfold applyM
  rw [if_neg (by rw [(validB_iff X O).2 h]; simp)]
  by_cases hk : 1 ≤ k ∧ k ≤ 4
  rotate_left
  · rw [if_pos (hz.2 hk)]
    simp only [refApplyM, refColsM, if_pos hk]
    cases rows <;> simp
  rw [if_neg (by rw [hz]; simpa using hk)]
  by_cases hr : a < 0 ∨ limAt k X.length ≤ a ∨ v < 0 ∨ limVar k X.length ≤ v
  · rw [if_pos hr]
    simp only [refApplyM, refColsM, if_neg (show ¬ ¬ (1 ≤ k ∧ k ≤ 4) by simpa using hk), tr_length, if_pos hr]
    cases rows <;> simp
  · rw [if_neg hr]
    have ha : a.toNat < limAt k X.length := by omega
    simp only [refApplyM, refColsM, if_neg (show ¬ ¬ (1 ≤ k ∧ k ≤ 4) by simpa using hk), tr_length, if_neg hr]
    rw [colsM_eq h2 h.len hk ha, colsM_eq (X := tr X) (O := tr O) (by rw [tr_length]; exact h2) (by rw [tr_length, tr_length]; exact h.len) hk (by rw [tr_length]; exact ha)]
end Go.Proofs.Ytgclngoeglopcaa
