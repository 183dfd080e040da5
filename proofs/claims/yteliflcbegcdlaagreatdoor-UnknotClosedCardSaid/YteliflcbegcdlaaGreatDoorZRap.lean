/- The reference's columns and Apply in plain words. -/
/- The reference's Apply. -/
import Derived.Test.YteliflcbegcdlaaGreatDoorZRcl
import Derived.Test.YteliflcbegcdlaaGreatDoorZRck
import Derived.Test.YteliflcbegcdlaaGreatDoorZRtr
import Derived.Test.YteliflcbegcdlaaGreatDoorZTurn
namespace Go.Proofs.YteliflcbegcdlaaGreatDoor
open Go.RowKit
set_option linter.unusedVariables false
theorem colIx_of {l : List Int} (h : l.Nodup) {i : Nat} (hi : i < l.length) {y : Int} (hy : l[i] = y) : colIx l y = i := by
  subst hy
  unfold colIx
  rw [if_pos (List.getElem_mem hi)]
  have := h.idxOf_getElem i hi
  rw [this]
theorem remB_eq {X O : List Int} {a : Nat} (h : Vd X O) (ha : a < X.length) : remB X O (X.getD a 0) (O.getD a 0) = desOk X O a (X.getD a 0) (O.getD a 0) := by
  have hO : a < O.length := by have := h.len; omega
  have gX : X.getD a 0 = X[a] := by simp [List.getD_eq_getElem?_getD, ha]
  have gO : O.getD a 0 = O[a] := by simp [List.getD_eq_getElem?_getD, hO]
  rw [gX, gO]
  have hne := h.ne a ha hO
  have hlen := h.len
  unfold remB desOk
  by_cases h1 : X.length < 3 ∨ (X[a] - O[a] ≠ 1 ∧ O[a] - X[a] ≠ 1)
  · rw [if_pos h1]
    have : (decide (3 ≤ X.length) && decide (maxG X[a] O[a] = minG X[a] O[a] + 1)) = false := by
      rcases h1 with h1 | h1
      · simp; omega
      · have : ¬ maxG X[a] O[a] = minG X[a] O[a] + 1 := by unfold maxG minG; split <;> split <;> omega
        simp [this]
    rw [this]
    rfl
  · rw [if_neg h1]
    have h3 : decide (3 ≤ X.length) = true := by simp; omega
    have h4 : decide (maxG X[a] O[a] = minG X[a] O[a] + 1) = true := by
      simp only [decide_eq_true_eq]; unfold maxG minG; split <;> split <;> omega
    rw [h3, h4, Bool.true_and, Bool.true_and]
    have gx := h.pX.get ha
    have go := h.pO.get hO
    obtain ⟨i, hi, hix⟩ := h.pO.surj (j := X[a].toNat) (by omega)
    obtain ⟨j, hj, hjx⟩ := h.pX.surj (j := O[a].toNat) (by omega)
    replace hix : O[i] = X[a] := by rw [hix]; omega
    replace hjx : X[j] = O[a] := by rw [hjx]; omega
    rw [colIx_of h.pO.2 hi hix, colIx_of h.pX.2 hj hjx]
    by_cases e : i = j
    · subst e
      have : desAll a X[a] O[a] 0 X O ≠ true := fun hd => desAll_spec a X[a] O[a] X O 0 hlen hd i hj hi (fun e => by
        rw [Nat.zero_add] at e; subst e; exact hne hix.symm) ⟨hix, hjx⟩
      simp [Bool.eq_false_iff.2 this]
    · have : desAll a X[a] O[a] 0 X O = true := desAll_of a X[a] O[a] X O 0 hlen (fun k hk hk' _ => by
        rintro ⟨e1, e2⟩
        have h1 : k = i := h.pO.inj hk' hi (e1.trans hix.symm)
        have h2 : k = j := h.pX.inj hk hj (e2.trans hjx.symm)
        exact e (h1.symm.trans h2))
      rw [this]
      simp only [bne_iff_ne, ne_eq]
      omega
/-- what the reference's columns returns -/
def refColsM (X O : List Int) (k a v : Int) : Int × List Int × List Int :=
  if ¬ (1 ≤ k ∧ k ≤ 4) then (11, [], [])
  else if a < 0 ∨ limAt k X.length ≤ a ∨ v < 0 ∨ limVar k X.length ≤ v then (2, [], [])
  else colsL X O k a.toNat v.toNat
theorem refCols_any (vx vo : Value) (X O : List Int) (rows : Bool) (k a v : Int) (w : World) (hX : Ints w vx X) (hO : Ints w vo O) (hv : Vd X O) :
    Calls Tryz.prog 66 #[.agg #[vx, vo], .agg #[.int .i64 k, .bool rows, .int .i64 a, .int .i64 v]] w (GRf w.heap.size w (refColsM X O k a v)) := by
  unfold refColsM
  by_cases hk : 1 ≤ k ∧ k ≤ 4
  rotate_left
  · rw [if_pos hk]
    exact refColsK vx vo X O rows k a v w hX hO (by omega)
  rw [if_neg (by simpa using hk)]
  by_cases hr : a < 0 ∨ limAt k X.length ≤ a ∨ v < 0 ∨ limVar k X.length ≤ v
  · rw [if_pos hr]
    obtain rfl | rfl | rfl | rfl : k = 1 ∨ k = 2 ∨ k = 3 ∨ k = 4 := by omega
    · exact refColsR1 vx vo X O rows a v w hX hO hv (by simpa [limAt, limVar] using hr)
    · exact refColsR2 vx vo X O rows a v w hX hO hv (by simpa [limAt, limVar] using hr)
    · exact refColsR3 vx vo X O rows a v w hX hO hv (by simpa [limAt, limVar] using hr)
    · exact refColsR4 vx vo X O rows a v w hX hO hv (by simpa [limAt, limVar] using hr)
  · rw [if_neg hr]
    have h2 := hv.two
    have h40 := hv.most
    obtain rfl | rfl | rfl | rfl : k = 1 ∨ k = 2 ∨ k = 3 ∨ k = 4 := by omega
    · simp [limAt, limVar] at hr
      refine (refCols1 vx vo X O rows a v w hX hO hv (by omega) (by omega) (by omega) (by omega)).mono ?_
      rintro e w' ⟨g, rfl, ⟨A0, n0, c0, A1, n1, c1, rfl, h0, h1⟩, hb⟩
      exact ⟨hb, _, _, _, _, _, _, rfl, h0.intsF, h1.intsF⟩
    · simp [limAt, limVar] at hr
      have e : colsL X O 2 a.toNat v.toNat = if commB (X.getD a.toNat 0) (O.getD a.toNat 0) (X.getD (a.toNat + 1) 0) (O.getD (a.toNat + 1) 0) = true then (0, swapL X a.toNat, swapL O a.toNat) else (6, [], []) := rfl
      rw [e]
      split
      · rename_i hB; exact refCols2Y vx vo X O rows a v w hX hO hv (by omega) (by omega) (by omega) (by omega) hB
      · rename_i hB; exact refCols2N vx vo X O rows a v w hX hO hv (by omega) (by omega) (by omega) (by omega) (by simpa using hB)
    · simp [limAt, limVar] at hr
      have e : colsL X O 3 a.toNat v.toNat = if remB X O (X.getD a.toNat 0) (O.getD a.toNat 0) = true then (0, delL X a.toNat (minG (X.getD a.toNat 0) (O.getD a.toNat 0)), delL O a.toNat (minG (X.getD a.toNat 0) (O.getD a.toNat 0))) else (6, [], []) := by
        rw [remB_eq hv (by omega)]; rfl
      rw [e]
      split
      · rename_i hB; exact refCols3Y vx vo X O rows a v w hX hO hv (by omega) (by omega) (by omega) (by omega) hB
      · rename_i hB; exact refCols3N vx vo X O rows a v w hX hO hv (by omega) (by omega) (by omega) (by omega) (by simpa using hB)
    · simp [limAt, limVar] at hr
      by_cases hf : X.length = 40
      · have e : colsL X O 4 a.toNat v.toNat = (5, [], []) := by simp [colsL, hf]
        rw [e]
        exact refCols4F vx vo X O rows a v w hX hO hv (by omega) (by omega) (by omega) (by omega) (by omega)
      · by_cases hp : v.toNat % 2 = 0
        · have e : colsL X O 4 a.toNat v.toNat = (0, addL X a.toNat (v.toNat / 2 : Nat) false ((v.toNat / 2 : Nat) + 1 : Int), addL O a.toNat (v.toNat / 2 : Nat) true ((v.toNat / 2 : Nat) : Int)) := by simp [colsL, hf, hp]
          rw [e]
          exact refCols4A vx vo X O rows a v w hX hO hv (by omega) (by omega) (by omega) (by omega) (by omega) hp
        · have hp' : v.toNat % 2 = 1 := by omega
          have e : colsL X O 4 a.toNat v.toNat = (0, addL X a.toNat (v.toNat / 2 : Nat) true ((v.toNat / 2 : Nat) : Int), addL O a.toNat (v.toNat / 2 : Nat) false ((v.toNat / 2 : Nat) + 1 : Int)) := by simp [colsL, hf, hp']
          rw [e]
          exact refCols4B vx vo X O rows a v w hX hO hv (by omega) (by omega) (by omega) (by omega) (by omega) hp'
def refApplyM (X O : List Int) (k : Int) (rows : Bool) (a v : Int) : Int × List Int × List Int :=
  if rows = false then refColsM X O k a v
  else if (refColsM (tr X) (tr O) k a v).1 = 0 then (0, tr (refColsM (tr X) (tr O) k a v).2.1, tr (refColsM (tr X) (tr O) k a v).2.2)
  else ((refColsM (tr X) (tr O) k a v).1, [], [])
theorem refApplyM_eq {X O : List Int} {k a v : Int} {rows : Bool} (h : Vd X O) : refApplyM X O k rows a v = applyM X O k rows a v := by
  have h2 := h.two
  have hz := limAt_zero (k := k) (n := X.length) (by omega)
  unfold applyM
  rw [if_neg (by rw [(validB_iff X O).2 h]; simp)]
  by_cases hk : 1 ≤ k ∧ k ≤ 4
  rotate_left
  · rw [if_pos (hz.2 hk)]
    simp only [refApplyM, refColsM, if_pos hk]
    cases rows <;> simp
  rw [if_neg (by rw [hz]; simpa using hk)]
  by_cases hr : a < 0 ∨ limAt k X.length ≤ a ∨ v < 0 ∨ limVar k X.length ≤ v
  · rw [if_pos hr]
    simp only [refApplyM, refColsM, if_neg (show ¬ ¬ (1 ≤ k ∧ k ≤ 4) by simpa using hk), tr_length, if_pos hr]
    cases rows <;> simp
  · rw [if_neg hr]
    have ha : a.toNat < limAt k X.length := by omega
    simp only [refApplyM, refColsM, if_neg (show ¬ ¬ (1 ≤ k ∧ k ≤ 4) by simpa using hk), tr_length, if_neg hr]
    rw [colsM_eq h2 h.len hk ha, colsM_eq (X := tr X) (O := tr O) (by rw [tr_length]; exact h2) (by rw [tr_length, tr_length]; exact h.len) hk (by rw [tr_length]; exact ha)]
end Go.Proofs.YteliflcbegcdlaaGreatDoor

namespace Go.Proofs.YteliflcbegcdlaaGreatDoor
open Go.RowKit
set_option linter.unusedVariables false
theorem refColsM_vd {X O : List Int} {k a v : Int} (h : Vd X O) (h0 : (refColsM X O k a v).1 = 0) : Vd (refColsM X O k a v).2.1 (refColsM X O k a v).2.2 := by
  unfold refColsM at h0 ⊢
  by_cases hk : 1 ≤ k ∧ k ≤ 4
  rotate_left
  · rw [if_pos hk] at h0; cases h0
  rw [if_neg (by simpa using hk)] at h0 ⊢
  by_cases hr : a < 0 ∨ limAt k X.length ≤ a ∨ v < 0 ∨ limVar k X.length ≤ v
  · rw [if_pos hr] at h0; cases h0
  rw [if_neg hr] at h0 ⊢
  exact colsL_vd h hk (by omega) (by omega) h0
set_option maxHeartbeats 1000000 in
theorem refApplyC (vx vo : Value) (X O : List Int) (k a v : Int) (w : World) (hX : Ints w vx X) (hO : Ints w vo O) (hv : Vd X O) :
    Calls Tryz.prog 43 #[.agg #[vx, vo], .agg #[.int .i64 k, .bool false, .int .i64 a, .int .i64 v]] w (GRd w.heap.size w (refApplyM X O k false a v)) := by
  have E := Lib.hid (show refColsM X O k a v = refApplyM X O k false a v from rfl)
  have hX0 := hX
  have hO0 := hO
  obtain ⟨A, c, rfl, hc, hh⟩ := hX
  obtain ⟨A', c', rfl, hc', hh'⟩ := hO
  clear hh hh'
  go_enter Tryz.func43, Tryz.ntmps43
  go_upto_region 2 with fail
  have hW : Arr (((w.alloc (.cells #[.slice A X.length c, .slice A' O.length c'] 24)).alloc (.cells #[.int .i64 k, .bool false, .int .i64 a, .int .i64 v] 85)).alloc (.cells #[.slice none 0 0, .slice none 0 0] 24)) w.heap.size 24 [.slice A X.length c, .slice A' O.length c'] ∧ Arr (((w.alloc (.cells #[.slice A X.length c, .slice A' O.length c'] 24)).alloc (.cells #[.int .i64 k, .bool false, .int .i64 a, .int .i64 v] 85)).alloc (.cells #[.slice none 0 0, .slice none 0 0] 24)) (w.heap.size + 1) 85 [.int .i64 k, .bool false, .int .i64 a, .int .i64 v] ∧ Arr (((w.alloc (.cells #[.slice A X.length c, .slice A' O.length c'] 24)).alloc (.cells #[.int .i64 k, .bool false, .int .i64 a, .int .i64 v] 85)).alloc (.cells #[.slice none 0 0, .slice none 0 0] 24)) (w.heap.size + 2) 24 [.slice none 0 0, .slice none 0 0] ∧ Below w.heap.size w (((w.alloc (.cells #[.slice A X.length c, .slice A' O.length c'] 24)).alloc (.cells #[.int .i64 k, .bool false, .int .i64 a, .int .i64 v] 85)).alloc (.cells #[.slice none 0 0, .slice none 0 0] 24)) :=
    ⟨((Arr.new _ _ [_, _]).alloc _).alloc _, (Arr.newAt (w.alloc _) _ [_, _, _, _] _ (by simp)).alloc _, Arr.newAt ((w.alloc _).alloc _) _ [_, _] _ (by simp), (((Below.refl _ _).alloc (Nat.le_refl _) _).alloc (by simp) _).alloc (by simp <;> omega) _⟩
  generalize (((w.alloc (.cells #[.slice A X.length c, .slice A' O.length c'] 24)).alloc (.cells #[.int .i64 k, .bool false, .int .i64 a, .int .i64 v] 85)).alloc (.cells #[.slice none 0 0, .slice none 0 0] 24)) = w5 at hW ⊢
  obtain ⟨p0, p1, p2, hbw5⟩ := hW
  have y0 := p0.cell 0
  have y1 := p0.cell 1
  have z0 := p1.cell 0
  have z1 := p1.cell 1
  have z2 := p1.cell 2
  have z3 := p1.cell 3
  go_wp2_with fail
  refine (refCols_any _ _ X O false k a v _ (hX0.below hbw5) (hO0.below hbw5) hv).mono ?_
  rw [E.out]
  rintro e w7 ⟨hb7, A0, n0, c0, A1, n1, c1, rfl, i0, i1⟩
  have q2 := p2.below hb7 p2.lt
  have hby := hbw5.trans (hb7.mono hbw5.size)
  have l2 := p2.lt
  have s0 := q2.cell 0
  have s1 := q2.cell 1
  have s2 := q2.frozen 0
  have s3 := q2.frozen 1
  have hres := Lib.hid ((q2.set 0 (.slice A0 n0 c0)).set 1 (.slice A1 n1 c1))
  generalize refApplyM X O k false a v = R at *
  clear hb7 E
  go_wp2_with fail
  refine bodyPost_ret (v := .tuple #[.agg #[.slice A0 n0 c0, .slice A1 n1 c1], .int .i64 R.1]) (results_ct Tryz.results43 _ _ (w.heap.size + 2) 24 _ _ rfl hres.out Tryz.underlying24 rfl info_grid) rfl ?_
  exact ⟨bset2 (r := w.heap.size + 2) hby (by omega), _, _, _, _, _, _, rfl, i0.set2 l2 _ _ _ _, i1.set2 l2 _ _ _ _⟩
set_option maxHeartbeats 4000000 in
theorem refApplyR (vx vo : Value) (X O : List Int) (k a v : Int) (w : World) (hX : Ints w vx X) (hO : Ints w vo O) (hv : Vd X O) :
    Calls Tryz.prog 43 #[.agg #[vx, vo], .agg #[.int .i64 k, .bool true, .int .i64 a, .int .i64 v]] w (GRd w.heap.size w (refApplyM X O k true a v)) := by
  have hfin := Lib.hid (show refApplyM X O k true a v = if (refColsM (tr X) (tr O) k a v).1 = 0 then (0, tr (refColsM (tr X) (tr O) k a v).2.1, tr (refColsM (tr X) (tr O) k a v).2.2) else ((refColsM (tr X) (tr O) k a v).1, [], []) from rfl)
  have HRR := Lib.hid (fun h0 => refColsM_vd (k := k) (a := a) (v := v) (tr_vd hv) h0)
  have hX0 := hX
  have hO0 := hO
  obtain ⟨A, c, rfl, hc, hh⟩ := hX
  obtain ⟨A', c', rfl, hc', hh'⟩ := hO
  clear hh hh'
  go_enter Tryz.func43, Tryz.ntmps43
  go_upto_region 3 with fail
  have hW : Arr (((w.alloc (.cells #[.slice A X.length c, .slice A' O.length c'] 24)).alloc (.cells #[.int .i64 k, .bool true, .int .i64 a, .int .i64 v] 85)).alloc (.cells #[.slice none 0 0, .slice none 0 0] 24)) w.heap.size 24 [.slice A X.length c, .slice A' O.length c'] ∧ Arr (((w.alloc (.cells #[.slice A X.length c, .slice A' O.length c'] 24)).alloc (.cells #[.int .i64 k, .bool true, .int .i64 a, .int .i64 v] 85)).alloc (.cells #[.slice none 0 0, .slice none 0 0] 24)) (w.heap.size + 1) 85 [.int .i64 k, .bool true, .int .i64 a, .int .i64 v] ∧ Arr (((w.alloc (.cells #[.slice A X.length c, .slice A' O.length c'] 24)).alloc (.cells #[.int .i64 k, .bool true, .int .i64 a, .int .i64 v] 85)).alloc (.cells #[.slice none 0 0, .slice none 0 0] 24)) (w.heap.size + 2) 24 [.slice none 0 0, .slice none 0 0] ∧ Below w.heap.size w (((w.alloc (.cells #[.slice A X.length c, .slice A' O.length c'] 24)).alloc (.cells #[.int .i64 k, .bool true, .int .i64 a, .int .i64 v] 85)).alloc (.cells #[.slice none 0 0, .slice none 0 0] 24)) :=
    ⟨((Arr.new _ _ [_, _]).alloc _).alloc _, (Arr.newAt (w.alloc _) _ [_, _, _, _] _ (by simp)).alloc _, Arr.newAt ((w.alloc _).alloc _) _ [_, _] _ (by simp), (((Below.refl _ _).alloc (Nat.le_refl _) _).alloc (by simp) _).alloc (by simp <;> omega) _⟩
  generalize (((w.alloc (.cells #[.slice A X.length c, .slice A' O.length c'] 24)).alloc (.cells #[.int .i64 k, .bool true, .int .i64 a, .int .i64 v] 85)).alloc (.cells #[.slice none 0 0, .slice none 0 0] 24)) = w5 at hW ⊢
  obtain ⟨p0, p1, p2, hbw5⟩ := hW
  have y0 := p0.cell 0
  have y1 := p0.cell 1
  have z0 := p1.cell 0
  have z1 := p1.cell 1
  have z2 := p1.cell 2
  have z3 := p1.cell 3
  have HC := Lib.hid (fun vx vo W hx ho => refCols_any vx vo (tr X) (tr O) true k a v W hx ho (tr_vd hv))
  have HT := Lib.hid (fun W (hS : W.cell? ⟨w.heap.size, 0, none⟩ = some (.slice A X.length c) ∧ W.cell? ⟨w.heap.size, 1, none⟩ = some (.slice A' O.length c') ∧ W.cell? ⟨w.heap.size + 1, 0, none⟩ = some (.int .i64 k) ∧ W.cell? ⟨w.heap.size + 1, 1, none⟩ = some (.bool true) ∧ W.cell? ⟨w.heap.size + 1, 2, none⟩ = some (.int .i64 a) ∧ W.cell? ⟨w.heap.size + 1, 3, none⟩ = some (.int .i64 v) ∧ Below w5.heap.size w5 W) => refTranspose_any (.slice A X.length c) (.slice A' O.length c') X O W (hX0.below (hbw5.trans (Below.mono hS.2.2.2.2.2.2 hbw5.size))) (hO0.below (hbw5.trans (Below.mono hS.2.2.2.2.2.2 hbw5.size))) hv.len (by have := hv.most; omega) hv.pX.1 (by rw [hv.len]; exact hv.pO.1))
  have HJ := Lib.hid (fun W W' (hS : W.cell? ⟨w.heap.size, 0, none⟩ = some (.slice A X.length c) ∧ W.cell? ⟨w.heap.size, 1, none⟩ = some (.slice A' O.length c') ∧ W.cell? ⟨w.heap.size + 1, 0, none⟩ = some (.int .i64 k) ∧ W.cell? ⟨w.heap.size + 1, 1, none⟩ = some (.bool true) ∧ W.cell? ⟨w.heap.size + 1, 2, none⟩ = some (.int .i64 a) ∧ W.cell? ⟨w.heap.size + 1, 3, none⟩ = some (.int .i64 v) ∧ Below w5.heap.size w5 W) (hb : Below W.heap.size W W') => Below.trans hS.2.2.2.2.2.2 (hb.mono hS.2.2.2.2.2.2.size))
  have KS := Lib.hid (fun W (hb : Below w5.heap.size w5 W) => (⟨(hb.cell p0.lt).trans y0, (hb.cell p0.lt).trans y1, (hb.cell p1.lt).trans z0, (hb.cell p1.lt).trans z1, (hb.cell p1.lt).trans z2, (hb.cell p1.lt).trans z3, hb⟩ : W.cell? ⟨w.heap.size, 0, none⟩ = some (.slice A X.length c) ∧ W.cell? ⟨w.heap.size, 1, none⟩ = some (.slice A' O.length c') ∧ W.cell? ⟨w.heap.size + 1, 0, none⟩ = some (.int .i64 k) ∧ W.cell? ⟨w.heap.size + 1, 1, none⟩ = some (.bool true) ∧ W.cell? ⟨w.heap.size + 1, 2, none⟩ = some (.int .i64 a) ∧ W.cell? ⟨w.heap.size + 1, 3, none⟩ = some (.int .i64 v) ∧ Below w5.heap.size w5 W))
  clear hv
  generalize refColsM (tr X) (tr O) k a v = R at *
  go_cut [6, 7] (fun s8 s9 wx => RowMid w.heap.size wx s8 s9 R ∧ Below w.heap.size w wx)
  case first =>
    go_region_held3 (fun w' => w'.cell? ⟨w.heap.size, 0, none⟩ = some (.slice A X.length c) ∧ w'.cell? ⟨w.heap.size, 1, none⟩ = some (.slice A' O.length c') ∧ w'.cell? ⟨w.heap.size + 1, 0, none⟩ = some (.int .i64 k) ∧ w'.cell? ⟨w.heap.size + 1, 1, none⟩ = some (.bool true) ∧ w'.cell? ⟨w.heap.size + 1, 2, none⟩ = some (.int .i64 a) ∧ w'.cell? ⟨w.heap.size + 1, 3, none⟩ = some (.int .i64 v) ∧ Below w5.heap.size w5 w') ((refine KS.out _ ?_; repeat (first | exact Below.refl _ _ | exact hb8 | exact hb10 | refine Below.drew ?_ | refine Below.alloc ?_ (by first | exact hb10.size | exact hb8.size | exact Nat.le_refl _) _ | refine Below.setCell ?_ (by first | exact hb8.size | exact Nat.le_refl _) _)))
      (first
        | (go_at_call 67; refine (HT.out _ (by assumption)).mono ?_; rintro e w7 ⟨v7, rfl, ⟨gx, go, rfl, e1, e2, e3, a1, a2⟩, hb7⟩; have hb8 := HJ.out _ _ (by assumption) hb7; (first | have hz7 := allocked hb7 | have hz7 := allockedD hb7 | skip); clear hb7; have hi1 := Ints.of_arr a1; have hi2 := Ints.of_arr a2; clear e1 e2 e3 a1 a2)
        | (go_at_call 66; refine (HC.out _ _ _ (by first | exact hi1 | exact hi1.alloc _) (by first | exact hi2 | exact hi2.alloc _)).mono ?_; rintro e w9 ⟨hb9, A0, n0, c0, A1, n1, c1, rfl, hin0, hin1⟩; have hb10 := HJ.out _ _ (by assumption) hb9; (first | have hz9 := Arr.below hz7 hb9 hz7.lt | have hz9 := allocked hb9 | skip); (first | (have x0 := Arr.cell hz9 0; have x1 := Arr.cell hz9 1; have x2 := Arr.frozen hz9 0; have x3 := Arr.frozen hz9 1) | skip); clear hb9))
    · go_wp2_with fail
      go_meet
      exact ⟨⟨w9.heap.size, _, _, rfl, rfl, Arr.new w9 _ [_, _], (p2.below hb10 p2.lt).alloc _, fun h0 => ⟨hin0 _ (fun b _ hb => Below.heap_alloc _ _ _ hb), hin1 _ (fun b _ hb => Below.heap_alloc _ _ _ hb)⟩⟩, hbw5.trans ((hb10.alloc hb10.size _).mono hbw5.size)⟩
    · go_wp2_with fail
      go_meet
      exact ⟨⟨w7.heap.size, _, _, rfl, rfl, (hz9.set 0 _).set 1 _, (p2.below hb10 p2.lt).far2 (r := w7.heap.size) (by have := p2.lt; have := hb8.size; omega), fun h0 => ⟨hin0 _ (fun b hb _ => heap_set2 _ _ _ _ _ _ _ (by simp at hb; omega)), hin1 _ (fun b hb _ => heap_set2 _ _ _ _ _ _ _ (by simp at hb; omega))⟩⟩, hbw5.trans ((bset2 (r := w7.heap.size) hb10 hb8.size).mono hbw5.size)⟩
    · go_wp2_with fail
      go_meet
      exact ⟨⟨w5.heap.size, _, _, rfl, rfl, (hz9.set 0 _).set 1 _, (p2.below hb10 p2.lt).far2 (r := w5.heap.size) (by have := p2.lt; omega), fun h0 => ⟨hin0 _ (fun b hb _ => heap_set2 _ _ _ _ _ _ _ (by have := hz7.lt; omega)), hin1 _ (fun b hb _ => heap_set2 _ _ _ _ _ _ _ (by have := hz7.lt; omega))⟩⟩, hbw5.trans ((bset2 (r := w5.heap.size) hb10 (Nat.le_refl _)).mono hbw5.size)⟩
  case rest =>
    clear y0 y1 z0 z1 z2 z3 p0 p1 p2 HC HT HJ KS
    obtain ⟨⟨g, v0, v1, rfl, rfl, hg, hr, hin⟩, hbw⟩ := hcut
    obtain ⟨R1, R2, R3⟩ := R
    simp only at hin HRR hfin
    have s0 := hr.cell 0
    have s1 := hr.cell 1
    have s2 := hr.frozen 0
    have s3 := hr.frozen 1
    have t0 := hg.cell 0
    have t1 := hg.cell 1
    by_cases h0 : R1 = 0
    · subst h0
      have hfin := Lib.hid (hfin.out.trans (if_pos rfl))
      have HV := Lib.hid (HRR.out rfl)
      obtain ⟨i1, i2⟩ := hin rfl
      obtain ⟨D0, k0, rfl, _, _⟩ := id i1
      obtain ⟨D1, k1, rfl, _, _⟩ := id i2
      clear hin
      go_wp2_with fail
      refine (refTranspose_any _ _ R2 R3 _ i1 i2 HV.out.len (by have := HV.out.most; omega) HV.out.pX.1 (by rw [HV.out.len]; exact HV.out.pO.1)).mono ?_
      rintro e w7 ⟨v7, rfl, ⟨gx, go, rfl, e1, e2, e3, a1, a2⟩, hb7⟩
      have hr' := hr.below hb7 hr.lt
      have hbw' := hbw.trans (hb7.mono hbw.size)
      have hlt := hr.lt
      clear s0 s1 s2 s3
      have s0 := hr'.cell 0
      have s1 := hr'.cell 1
      have s2 := hr'.frozen 0
      have s3 := hr'.frozen 1
      have hres := Lib.hid ((hr'.set 0 (.slice (some ⟨gx, 0, none⟩) (tr R2).length (tr R2).length)).set 1 (.slice (some ⟨go, 0, none⟩) (tr R3).length (tr R3).length))
      go_wp2_with fail
      refine bodyPost_ret (v := .tuple #[.agg #[.slice (some ⟨gx, 0, none⟩) (tr R2).length (tr R2).length, .slice (some ⟨go, 0, none⟩) (tr R3).length (tr R3).length], .int .i64 0]) (results_ct Tryz.results43 _ _ (w.heap.size + 2) 24 _ _ rfl hres.out Tryz.underlying24 rfl info_grid) rfl ?_
      rw [hfin.out]
      exact ⟨bset2 (r := w.heap.size + 2) hbw' (by omega), _, _, _, _, _, _, rfl, Ints.of_arr (a1.far2 (r := w.heap.size + 2) (by omega)), Ints.of_arr (a2.far2 (r := w.heap.size + 2) (by omega))⟩
    · have hfin := Lib.hid (hfin.out.trans (if_neg h0))
      have hb0 : (R1 != 0) = true := by simpa using h0
      clear h0
      have hres := Lib.hid ((hr.set 0 (.slice none 0 0)).set 1 (.slice none 0 0))
      go_wp2_with fail
      refine bodyPost_ret (v := .tuple #[.agg #[.slice none 0 0, .slice none 0 0], .int .i64 R1]) (results_ct Tryz.results43 _ _ (w.heap.size + 2) 24 _ _ rfl hres.out Tryz.underlying24 rfl info_grid) rfl ?_
      rw [hfin.out]
      exact ⟨bset2 (r := w.heap.size + 2) hbw (by omega), _, _, _, _, _, _, rfl, Ints.nil _, Ints.nil _⟩
theorem refApply_any (vx vo : Value) (X O : List Int) (k : Int) (rows : Bool) (a v : Int) (w : World) (hX : Ints w vx X) (hO : Ints w vo O) (hv : Vd X O) :
    Calls Tryz.prog 43 #[.agg #[vx, vo], .agg #[.int .i64 k, .bool rows, .int .i64 a, .int .i64 v]] w (GRd w.heap.size w (applyM X O k rows a v)) := by
  rw [← refApplyM_eq hv]
  cases rows
  · exact refApplyC vx vo X O k a v w hX hO hv
  · exact refApplyR vx vo X O k a v w hX hO hv
end Go.Proofs.YteliflcbegcdlaaGreatDoor
