/- Plain facts: Apply on valid grids, columns and rows alike; moves can be undone. -/
/- turned: the law's own transposition. -/
/- grid.translate. -/
/- grid.Shift. -/
/- Apply once more: its result lies in new memory. -/
import Derived.Test.YteigjfdgijaifaaDoorZLawC
import Derived.Test.YteigjfdgijaifaaDoorZReloc
import Derived.Deep.RegionHeld3
import Derived.Deep.DeepCutAuto
import Derived.Outline
namespace Go.Proofs.YteigjfdgijaifaaDoor
set_option linter.unusedVariables false
open Go.RowKit

/-- the list, or the transposed one -/
def vw (rows : Bool) (l : List Int) : List Int := if rows = true then tr l else l
theorem vw_length (rows : Bool) (l : List Int) : (vw rows l).length = l.length := by unfold vw; split; exact tr_length l; rfl
theorem vw_vw {rows : Bool} {l : List Int} (h : Pm l) : vw rows (vw rows l) = l := by cases rows; rfl; exact tr_tr h
theorem vw_vd {rows : Bool} {X O : List Int} (h : Vd X O) : Vd (vw rows X) (vw rows O) := by cases rows; exact h; exact tr_vd h

def inRange (k a v : Int) (n : Nat) : Prop := (1 ≤ k ∧ k ≤ 4) ∧ (0 ≤ a ∧ a < limAt k n) ∧ (0 ≤ v ∧ v < limVar k n)

theorem colsL_err (X O : List Int) (k : Int) (a v : Nat) (h : (colsL X O k a v).1 ≠ 0) : (colsL X O k a v).2 = ([], []) := by
  unfold colsL at *
  revert h
  repeat' split
  all_goals simp

theorem applyM_vw {X O : List Int} {k a v : Int} {rows : Bool} (h : Vd X O) (hr : inRange k a v X.length) :
    applyM X O k rows a v = if (colsL (vw rows X) (vw rows O) k a.toNat v.toNat).1 = 0 then (0, vw rows (colsL (vw rows X) (vw rows O) k a.toNat v.toNat).2.1, vw rows (colsL (vw rows X) (vw rows O) k a.toNat v.toNat).2.2) else ((colsL (vw rows X) (vw rows O) k a.toNat v.toNat).1, [], []) := by
  obtain ⟨hk, ⟨a0, a1⟩, v0, v1⟩ := hr
  have hk0 : ¬ limAt k X.length = 0 := by rw [limAt_zero (by have := h.two; omega)]; simp; omega
  have hv : validB X O = true := (validB_iff X O).2 h
  unfold applyM
  rw [if_neg (by simp [hv]), if_neg hk0, if_neg (by omega)]
  cases rows with
  | false =>
    rw [if_pos rfl, colsM_eq h.two h.len hk (by omega)]
    show _ = if (colsL X O k a.toNat v.toNat).1 = 0 then (0, (colsL X O k a.toNat v.toNat).2.1, (colsL X O k a.toNat v.toNat).2.2) else ((colsL X O k a.toNat v.toNat).1, [], [])
    split
    · rename_i h0
      rw [← h0]
    · rename_i h0
      have := colsL_err _ _ _ _ _ h0
      rw [← this]
  | true =>
    rw [if_neg (by simp), colsM_eq (by rw [tr_length]; exact h.two) (by rw [tr_length, tr_length]; exact h.len) hk (by rw [tr_length]; omega)]
    rfl

theorem applyM_inv {X O X1 O1 : List Int} {k a v : Int} {rows : Bool} (h : applyM X O k rows a v = (0, X1, O1)) :
    Vd X O ∧ inRange k a v X.length ∧ ∃ Y P, colsL (vw rows X) (vw rows O) k a.toNat v.toNat = (0, Y, P) ∧ X1 = vw rows Y ∧ O1 = vw rows P := by
  have hv : validB X O = true := by
    cases hv : validB X O with
    | true => rfl
    | false => unfold applyM at h; rw [if_pos hv] at h; simp at h
  have hvd := (validB_iff X O).1 hv
  have hr : inRange k a v X.length := by
    unfold applyM at h
    rw [if_neg (by simp [hv])] at h
    split at h
    · simp at h
    · rename_i h1
      split at h
      · simp at h
      · rename_i h2
        rw [limAt_zero (by have := hvd.two; omega)] at h1
        exact ⟨Decidable.not_not.1 h1, by omega, by omega⟩
  refine ⟨hvd, hr, ?_⟩
  rw [applyM_vw hvd hr] at h
  split at h
  · rename_i h0
    generalize colsL (vw rows X) (vw rows O) k a.toNat v.toNat = R at *
    obtain ⟨c, Y, P⟩ := R
    simp only at h0 h
    injection h with _ h
    injection h with h1 h2
    exact ⟨Y, P, by rw [h0], h1.symm, h2.symm⟩
  · rename_i h0
    injection h with h _
    exact absurd h h0

theorem applyM_of {X O Y P : List Int} {k a v : Int} {rows : Bool} (h : Vd X O) (hr : inRange k a v X.length) (hc : colsL (vw rows X) (vw rows O) k a.toNat v.toNat = (0, Y, P)) : applyM X O k rows a v = (0, vw rows Y, vw rows P) := by
  rw [applyM_vw h hr, hc]
  rfl

theorem applyM_res_vd {X O X1 O1 : List Int} {k a v : Int} {rows : Bool} (h : applyM X O k rows a v = (0, X1, O1)) : Vd X1 O1 := by
  obtain ⟨hv, hr, Y, P, hc, rfl, rfl⟩ := applyM_inv h
  have := colsL_vd (a := a.toNat) (v := v.toNat) (vw_vd (rows := rows) hv) hr.1 (by rw [vw_length]; have := hr.2.1; omega) (by rw [vw_length]; have := hr.2.2; omega) (by rw [hc])
  rw [hc] at this
  exact vw_vd this

/-- a move that undoes a move of columns undoes it for rows too -/
theorem undo_lift {X O X1 O1 : List Int} {k a v k' a' v' : Int} {rows : Bool} (h : applyM X O k rows a v = (0, X1, O1))
    (hu : ∀ Y P Y1 P1 : List Int, Vd Y P → Y.length = X.length → inRange k a v Y.length → colsL Y P k a.toNat v.toNat = (0, Y1, P1) → inRange k' a' v' Y1.length ∧ colsL Y1 P1 k' a'.toNat v'.toNat = (0, Y, P)) :
    applyM X1 O1 k' rows a' v' = (0, X, O) := by
  have hv1 := applyM_res_vd h
  obtain ⟨hv, hr, Y, P, hc, rfl, rfl⟩ := applyM_inv h
  have hY : Vd Y P := by
    have := colsL_vd (a := a.toNat) (v := v.toNat) (vw_vd (rows := rows) hv) hr.1 (by rw [vw_length]; have := hr.2.1; omega) (by rw [vw_length]; have := hr.2.2; omega) (by rw [hc])
    rw [hc] at this
    exact this
  obtain ⟨h1, h2⟩ := hu (vw rows X) (vw rows O) Y P (vw_vd hv) (vw_length _ _) (by rw [vw_length]; exact hr) hc
  have := applyM_of (rows := rows) hv1 (by rw [vw_length]; exact h1) (by rw [vw_vw hY.pX, vw_vw hY.pO]; exact h2)
  rw [this, vw_vw hv.pX, vw_vw hv.pO]

theorem ext_get {l m : List Int} (hl : l.length = m.length) (h : ∀ j (h1 : j < l.length) (h2 : j < m.length), l[j] = m[j]) : l = m := List.ext_getElem hl h

theorem swapL_swapL (X : List Int) (a : Nat) (ha : a + 1 < X.length) : swapL (swapL X a) a = X := by
  apply List.ext_getElem?
  intro j
  rw [swapL_get _ a j (by rw [swapL_length]; exact ha), swapL_get X a _ ha]
  congr 1
  repeat' split
  all_goals omega
theorem getD_get? (l : List Int) (i : Nat) : l.getD i 0 = (l[i]?).getD 0 := List.getD_eq_getElem?_getD
theorem commB_symm (x o x2 o2 : Int) : commB x2 o2 x o = commB x o x2 o2 := by
  unfold commB commIv
  generalize minG x o = l
  generalize maxG x o = h
  generalize minG x2 o2 = l2
  generalize maxG x2 o2 = h2
  by_cases c : l = l2 ∨ l = h2 ∨ h = l2 ∨ h = h2
  · rw [if_pos c, if_pos (by omega)]
  · rw [if_neg c, if_neg (by omega)]
    rw [Bool.eq_iff_iff]
    simp only [decide_eq_true_eq]
    omega

theorem undo_swap {X O X1 O1 : List Int} {a v : Int} {rows : Bool} (h : applyM X O 2 rows a v = (0, X1, O1)) : applyM X1 O1 2 rows a v = (0, X, O) := by
  refine undo_lift h (fun Y P Y1 P1 hv _ hr hc => ?_)
  have ha : a.toNat + 1 < Y.length := by have := hr.2.1; simp [limAt] at this; omega
  have hap : a.toNat + 1 < P.length := by have := hv.len; omega
  unfold colsL at hc
  rw [if_neg (by decide), if_pos rfl] at hc
  split at hc
  · rename_i hcb
    injection hc with _ hc
    injection hc with e1 e2
    subst e1 e2
    refine ⟨by rw [swapL_length]; exact hr, ?_⟩
    unfold colsL
    rw [if_neg (by decide), if_pos rfl]
    have : commB ((swapL Y a.toNat).getD a.toNat 0) ((swapL P a.toNat).getD a.toNat 0) ((swapL Y a.toNat).getD (a.toNat + 1) 0) ((swapL P a.toNat).getD (a.toNat + 1) 0) = true := by
      rw [getD_get?, getD_get?, getD_get?, getD_get?, swapL_get _ _ _ ha, swapL_get _ _ _ hap, swapL_get _ _ _ ha, swapL_get _ _ _ hap, if_pos rfl, if_neg (by omega), if_pos rfl, ← getD_get?, ← getD_get?, ← getD_get?, ← getD_get?, commB_symm]
      exact hcb
    rw [if_pos this, swapL_swapL _ _ ha, swapL_swapL _ _ hap]
  · simp at hc

theorem lowr_upr (r x : Int) (t : Bool) : lowr r (upr r t x) = x := by
  unfold lowr upr
  split <;> split <;> (try rename_i h1 h2) <;> omega
theorem delL_addL (X : List Int) (a : Nat) (r y : Int) (t : Bool) (ha : a ≤ X.length) : delL (addL X a r t y) a r = X := by
  apply List.ext_getElem?
  intro j
  rw [delL_get _ a j r (by rw [addL_length _ _ _ _ _ ha]; omega), addL_get X a _ r t y ha]
  rw [if_neg (by split <;> omega)]
  have : (if (if j < a then j else j + 1) < a then (if j < a then j else j + 1) else (if j < a then j else j + 1) - 1) = j := by
    repeat' split
    all_goals omega
  rw [this]
  cases X[j]? with
  | none => rfl
  | some x => simp [lowr_upr]

theorem desAll_of (a : Nat) (x o : Int) : ∀ (X O : List Int) (i : Nat), X.length = O.length → (∀ k (h : k < X.length) (h' : k < O.length), i + k ≠ a → ¬ (O[k] = x ∧ X[k] = o)) → desAll a x o i X O = true := by
  intro X
  induction X with
  | nil => intro O i _ _; cases O <;> rfl
  | cons p ps ih =>
    intro O i hl hh
    cases O with
    | nil => simp at hl
    | cons q qs =>
      rw [desAll, Bool.and_eq_true]
      refine ⟨?_, ih qs (i + 1) (by simpa using hl) (fun k h h' hne => ?_)⟩
      · have := hh 0 (by simp) (by simp)
        simp only [List.getElem_cons_zero] at this
        by_cases h1 : i = a
        · simp [h1]
        by_cases h2 : q = x
        · by_cases h3 : p = o
          · exact absurd ⟨h2, h3⟩ (this (by omega))
          · simp [h3]
        · simp [h2]
      · have := hh (k + 1) (by simpa using h) (by simpa using h') (by omega)
        simpa using this

theorem addL_self (X : List Int) (a : Nat) (r y : Int) (t : Bool) (ha : a ≤ X.length) : (addL X a r t y).getD a 0 = y := by
  rw [getD_get?, addL_get _ _ _ _ _ _ ha, if_pos rfl]; rfl

theorem undo_sta {X O X1 O1 : List Int} {a v : Int} {rows : Bool} (h : applyM X O 4 rows a v = (0, X1, O1)) : applyM X1 O1 3 rows a 0 = (0, X, O) := by
  refine undo_lift h (fun Y P Y1 P1 hv _ hr hc => ?_)
  have hlen := hv.len
  have ha : a.toNat ≤ Y.length := by have := hr.2.1; simp [limAt] at this; omega
  have hv2 : v.toNat < 2 * Y.length := by have := hr.2.2; simp [limVar] at this; omega
  unfold colsL at hc
  rw [if_neg (by decide), if_neg (by decide), if_neg (by decide)] at hc
  split at hc
  · simp at hc
  rename_i h40
  injection hc with _ hc
  injection hc with e1 e2
  have hst : ∃ st, decide (v.toNat % 2 = 0) = st := ⟨_, rfl⟩
  obtain ⟨st, hst⟩ := hst
  have hrr : ∃ r, v.toNat / 2 = r := ⟨_, rfl⟩
  obtain ⟨r, hrr⟩ := hrr
  rw [hst, hrr] at e1 e2
  have hrl : r < Y.length := by omega
  have hvd := addL_vd (st := st) hv h40 ha hrl
  rw [e1, e2] at hvd
  have gx : Y1.getD a.toNat 0 = if st = true then (r : Int) + 1 else r := by rw [← e1]; exact addL_self _ _ _ _ _ ha
  have go : P1.getD a.toNat 0 = if st = true then (r : Int) else r + 1 := by rw [← e2]; exact addL_self _ _ _ _ _ (by omega)
  have hl1 : Y1.length = Y.length + 1 := by rw [← e1]; exact addL_length _ _ _ _ _ ha
  have hl2 : P1.length = P.length + 1 := by rw [← e2]; exact addL_length _ _ _ _ _ (by omega)
  refine ⟨⟨by omega, by have := hr.2.1; simp [limAt] at this ⊢; omega, by simp [limVar]⟩, ?_⟩
  have hmin : minG (Y1.getD a.toNat 0) (P1.getD a.toNat 0) = r := by
    rw [gx, go]; unfold minG
    cases st <;> simp <;> omega
  have hok : desOk Y1 P1 a.toNat (Y1.getD a.toNat 0) (P1.getD a.toNat 0) = true := by
    unfold desOk
    rw [Bool.and_eq_true, Bool.and_eq_true]
    refine ⟨⟨by simp; have := hv.two; omega, ?_⟩, desAll_of _ _ _ _ _ _ hvd.len (fun k h h' hne hh => ?_)⟩
    · rw [hmin, gx, go]; unfold maxG
      cases st <;> simp <;> omega
    · rw [gx, go] at hh
      have hx := hv.ne
      subst e1 e2
      rcases addL_at Y ha h with ⟨q1, _⟩ | ⟨q1, c, h1, p1, e3⟩
      · omega
      · rcases addL_at P (by omega) h' with ⟨q2, _⟩ | ⟨q2, d, h2, p2, e4⟩
        · omega
        · have : c = d := by rw [p1, p2]
          subst this
          have hne2 := hx c h1 h2
          rw [e3, e4] at hh
          unfold upr at hh
          revert hh
          cases st <;> simp <;> repeat' split
          all_goals omega
  unfold colsL
  rw [if_neg (by decide), if_neg (by decide), if_pos rfl, if_pos hok, hmin]
  subst e1 e2
  rw [delL_addL _ _ _ _ _ ha, delL_addL _ _ _ _ _ (by omega)]

theorem upr_lowr {r x : Int} (t : Bool) (h1 : t = true → x ≠ r) (h2 : t = false → x ≠ r + 1) : upr r t (lowr r x) = x := by
  unfold lowr upr
  cases t
  · have := h2 rfl
    simp; repeat' split
    all_goals omega
  · have := h1 rfl
    simp; repeat' split
    all_goals omega
theorem addL_delL {X : List Int} {a : Nat} {r y : Int} {t : Bool} (ha : a < X.length) (hy : X[a] = y) (h : ∀ c (hc : c < X.length), c ≠ a → (t = true → X[c] ≠ r) ∧ (t = false → X[c] ≠ r + 1)) : addL (delL X a r) a r t y = X := by
  apply List.ext_getElem?
  intro j
  rw [addL_get _ a j r t y (by rw [delL_length _ _ _ ha]; omega)]
  by_cases e : j = a
  · subst e
    rw [if_pos rfl, List.getElem?_eq_getElem ha, hy]
  · rw [if_neg e, delL_get _ a _ r ha]
    have : (if (if j < a then j else j - 1) < a then (if j < a then j else j - 1) else (if j < a then j else j - 1) + 1) = j := by
      repeat' split
      all_goals omega
    rw [this]
    by_cases hj : j < X.length
    · rw [List.getElem?_eq_getElem hj]
      simp only [Option.map_some]
      rw [upr_lowr t (h j hj e).1 (h j hj e).2]
    · rw [List.getElem?_eq_none (by omega)]; rfl

theorem undo_des {X O X1 O1 : List Int} {a v : Int} {rows : Bool} (h : applyM X O 3 rows a v = (0, X1, O1)) : ∃ u : Nat, u < 2 * X1.length ∧ applyM X1 O1 4 rows a u = (0, X, O) := by
  have hvd := applyM_res_vd h
  obtain ⟨hv0, hr0, Y0, P0, hc0, hX1, hO1⟩ := applyM_inv h
  have key : ∀ Y P Y1 P1 : List Int, Vd Y P → inRange 3 a v Y.length → colsL Y P 3 a.toNat v.toNat = (0, Y1, P1) → ∃ u : Nat, u < 2 * Y1.length ∧ inRange 4 a u Y1.length ∧ colsL Y1 P1 4 a.toNat ((u : Int)).toNat = (0, Y, P) := by
    intro Y P Y1 P1 hv hr hc
    have hlen := hv.len
    have ha : a.toNat < Y.length := by have := hr.2.1; simp [limAt] at this; omega
    have hap : a.toNat < P.length := by omega
    unfold colsL at hc
    rw [if_neg (by decide), if_neg (by decide), if_pos rfl] at hc
    split at hc
    · rename_i hok
      injection hc with _ hc
      injection hc with e1 e2
      have gx : Y.getD a.toNat 0 = Y[a.toNat] := by simp [List.getD_eq_getElem?_getD, ha]
      have go : P.getD a.toNat 0 = P[a.toNat] := by simp [List.getD_eq_getElem?_getD, hap]
      rw [gx, go] at hok e1 e2
      simp only [desOk, Bool.and_eq_true, decide_eq_true_eq] at hok
      obtain ⟨⟨h3, hm⟩, hall⟩ := hok
      have bx := hv.pX.get ha
      have bo := hv.pO.get hap
      have hlow : (minG Y[a.toNat] P[a.toNat] = Y[a.toNat] ∧ P[a.toNat] = Y[a.toNat] + 1) ∨ (minG Y[a.toNat] P[a.toNat] = P[a.toNat] ∧ Y[a.toNat] = P[a.toNat] + 1) := by
        unfold minG maxG at *
        revert hm
        repeat' split
        all_goals omega
      generalize minG Y[a.toNat] P[a.toNat] = low at *
      have hl1 : Y1.length = Y.length - 1 := by rw [← e1]; exact delL_length _ _ _ ha
      have hl2 : P1.length = P.length - 1 := by rw [← e2]; exact delL_length _ _ _ hap
      have h40 : Y1.length ≠ 40 := by have := hv.most; omega
      have dx : ∀ c (hc : c < Y.length), c ≠ a.toNat → Y[c] ≠ Y[a.toNat] := fun c hc hne e => hne (hv.pX.inj hc ha e)
      have dp : ∀ c (hc : c < P.length), c ≠ a.toNat → P[c] ≠ P[a.toNat] := fun c hc hne e => hne (hv.pO.inj hc hap e)
      rcases hlow with ⟨m1, m2⟩ | ⟨m1, m2⟩
      · -- the X is below: variant 2 low + 1
        refine ⟨2 * low.toNat + 1, by omega, ⟨by omega, ⟨by have := hr.2.1; omega, by have := hr.2.1; simp [limAt] at this ⊢; omega⟩, by simp [limVar]; omega⟩, ?_⟩
        unfold colsL
        rw [if_neg (by decide), if_neg (by decide), if_neg (by decide), if_neg h40]
        simp only [Int.toNat_natCast]
        rw [show (2 * low.toNat + 1) / 2 = low.toNat from by omega, show decide ((2 * low.toNat + 1) % 2 = 0) = false from decide_eq_false (by omega), ← e1, ← e2]
        simp only [Bool.false_eq_true, if_false]
        rw [show ((low.toNat : Nat) : Int) = low from by omega]
        rw [addL_delL (t := (true != false)) ha (by omega) (fun c hc hne => ⟨fun _ => by have := dx c hc hne; omega, fun h => by simp at h⟩), addL_delL (t := (false != false)) hap (by omega) (fun c hc hne => ⟨fun h => by simp at h, fun _ => by have := dp c hc hne; omega⟩)]
      · refine ⟨2 * low.toNat, by omega, ⟨by omega, ⟨by have := hr.2.1; omega, by have := hr.2.1; simp [limAt] at this ⊢; omega⟩, by simp [limVar]; omega⟩, ?_⟩
        unfold colsL
        rw [if_neg (by decide), if_neg (by decide), if_neg (by decide), if_neg h40]
        simp only [Int.toNat_natCast]
        rw [show (2 * low.toNat) / 2 = low.toNat from by omega, show decide ((2 * low.toNat) % 2 = 0) = true from by simp, ← e1, ← e2]
        simp only [if_true]
        rw [show ((low.toNat : Nat) : Int) = low from by omega]
        rw [addL_delL (t := (true != true)) ha (by omega) (fun c hc hne => ⟨fun h => by simp at h, fun _ => by have := dx c hc hne; omega⟩), addL_delL (t := (false != true)) hap (by omega) (fun c hc hne => ⟨fun _ => by have := dp c hc hne; omega, fun h => by simp at h⟩)]
    · simp at hc
  have hY : Vd Y0 P0 := by
    have := colsL_vd (a := a.toNat) (v := v.toNat) (vw_vd (rows := rows) hv0) hr0.1 (by rw [vw_length]; have := hr0.2.1; omega) (by rw [vw_length]; have := hr0.2.2; omega) (by rw [hc0])
    rw [hc0] at this
    exact this
  obtain ⟨u, h1, h2, h3⟩ := key _ _ _ _ (vw_vd hv0) (by rw [vw_length]; exact hr0) hc0
  subst hX1 hO1
  rw [vw_length]
  refine ⟨u, h1, ?_⟩
  have := applyM_of (rows := rows) hvd (by rw [vw_length]; exact h2) (by rw [vw_vw hY.pX, vw_vw hY.pO]; exact h3)
  rw [this, vw_vw hv0.pX, vw_vw hv0.pO]

/-- i translations -/
def rotN (X : List Int) (i : Nat) : List Int := X.drop i ++ X.take i
theorem rotN_length (X : List Int) (i : Nat) : (rotN X i).length = X.length := by simp [rotN]; omega
theorem rotL_rotN (X : List Int) {i : Nat} (h : i < X.length) : rotL (rotN X i) = rotN X (i + 1) := by
  unfold rotL rotN
  have e1 : (X.drop i ++ X.take i).drop 1 = X.drop (i + 1) ++ X.take i := by
    rw [List.drop_append_of_le_length (by rw [List.length_drop]; omega), List.drop_drop]
  have e2 : (X.drop i ++ X.take i).take 1 = [X[i]] := by
    rw [List.drop_eq_getElem_cons h]; rfl
  rw [e1, e2, List.take_succ_eq_append_getElem h, List.append_assoc]
theorem rotN_vd {X O : List Int} (h : Vd X O) : ∀ i, i ≤ X.length → Vd (rotN X i) (rotN O i) := by
  intro i
  induction i with
  | zero => intro _; simpa [rotN] using h
  | succ i ih =>
    intro hi
    have := rotL_vd (ih (by omega))
    rw [rotL_rotN X (by omega), rotL_rotN O (by have := h.len; omega)] at this
    exact this
theorem rotN_full (X : List Int) : rotN X X.length = X := by simp [rotN]
/-- the i-th translation of a grid -/
def rotV (rows : Bool) (X : List Int) (i : Nat) : List Int := vw rows (rotN (vw rows X) i)
theorem rotV_step {X O : List Int} {rows : Bool} {a v : Int} (h : Vd X O) (hr : inRange 1 a v X.length) {i : Nat} (hi : i < X.length) : applyM (rotV rows X i) (rotV rows O i) 1 rows a v = (0, rotV rows X (i + 1), rotV rows O (i + 1)) := by
  have hlen := h.len
  have hv := rotN_vd (vw_vd (rows := rows) h) i (by rw [vw_length]; omega)
  have hl : (rotV rows X i).length = X.length := by unfold rotV; rw [vw_length, rotN_length, vw_length]
  refine applyM_of (rows := rows) (vw_vd hv) ?_ ?_
  · show inRange 1 a v (rotV rows X i).length
    rw [hl]; exact hr
  · unfold rotV
    rw [vw_vw hv.pX, vw_vw hv.pO]
    unfold colsL
    rw [if_pos rfl, rotL_rotN _ (by rw [vw_length]; exact hi), rotL_rotN _ (by rw [vw_length]; omega)]
theorem rotV_full {X : List Int} {rows : Bool} (h : Pm X) : rotV rows X X.length = X := by
  unfold rotV
  have := rotN_full (vw rows X)
  rw [vw_length] at this
  rw [this, vw_vw h]
theorem rotV_one {X O X1 O1 : List Int} {a v : Int} {rows : Bool} (h : applyM X O 1 rows a v = (0, X1, O1)) : X1 = rotV rows X 1 ∧ O1 = rotV rows O 1 := by
  obtain ⟨hv, hr, _⟩ := applyM_inv h
  have hz : ∀ l, Pm l → rotV rows l 0 = l := fun l hl => by unfold rotV rotN; simp [vw_vw hl]
  have := rotV_step (rows := rows) (a := a) (v := v) hv hr (i := 0) (by have := hv.two; omega)
  rw [hz X hv.pX, hz O hv.pO, h] at this
  injection this with _ h1
  injection h1 with h1 h2
  exact ⟨h1, h2⟩
end Go.Proofs.YteigjfdgijaifaaDoor

namespace Go.Proofs.YteigjfdgijaifaaDoor
open Go.RowKit
set_option linter.unusedVariables false

theorem mid_of2 {g gx go : Nat} (w wx : World) (vx vo : Value) (n m : Nat)
    (h0 : wx.heap[w.heap.size]? = some (.cells #[vx, vo] 26 (0, 0))) (h1 : wx.heap[w.heap.size + 1]? = some (.cells #[.slice none 0 0, .slice none 0 0] 26 (0, 0)))
    (hg : wx.heap[g]? = some (.cells #[.slice (some ⟨gx, 0, none⟩) n n, .slice (some ⟨go, 0, none⟩) m m] 26 (0, 0)))
    (hx : wx.heap[gx]? = some (.cells (rowOf (List.replicate n (Value.int IntKind.i64 0))) 3 (0, 0))) (ho : wx.heap[go]? = some (.cells (rowOf (List.replicate m (Value.int IntKind.i64 0))) 3 (0, 0)))
    (e1 : gx ≠ go) (e2 : g ≠ gx) (e3 : g ≠ go) (e4 : w.heap.size + 2 ≤ g) (e5 : w.heap.size + 2 ≤ gx) (e6 : w.heap.size + 2 ≤ go) :
    Mid w.heap.size wx (.pointer (some ⟨g, 0, none⟩)) (.slice (some ⟨gx, 0, none⟩) n n) (.slice (some ⟨go, 0, none⟩) m m) vx vo (List.replicate n 0) (List.replicate m 0) := by
  refine ⟨g, gx, go, rfl, by rw [List.length_replicate], by rw [List.length_replicate], e1, e2, e3, e4, e5, e6, ?_, ?_, ?_, h0, _, _, h1⟩
  · simp only [List.length_replicate]; exact hg
  · rw [ints_zero]; exact hx
  · rw [ints_zero]; exact ho
theorem Mid3.drew {B : Nat} {w : World} {g gx go : Nat} {vx vo : Value} {X O : List Int} (h : Mid3 B w g gx go vx vo X O) : Mid3 B w.drew g gx go vx vo X O := h
theorem relStep_mvT (b : Bool) (i : Nat) {x : Int} (acc : List Int) (h : 0 ≤ x) : relStep mvT b i x acc = acc.set x.toNat i := by
  unfold relStep; exact if_pos h

end Go.Proofs.YteigjfdgijaifaaDoor

namespace Go.Proofs.YteigjfdgijaifaaDoor
open Go.RowKit
set_option linter.unusedVariables false

def mvTr (n cols rows : Int) (c r : Int) (_ : Bool) : Int × Int := ((c + cols) % n, (r + rows) % n)
def trl (cols rows : Nat) (l : List Int) : List Int := reloc (mvTr l.length cols rows) true l.length l
theorem relStep_mvTr (n cols rows i : Nat) (x : Int) (acc : List Int) (h : 0 < n) : relStep (mvTr n cols rows) true i x acc = acc.set ((i + cols) % n) ((x + rows) % n) := by
  unfold relStep
  have e : (mvTr n cols rows i x true).1 = ((i + cols) % n : Nat) := by simp [mvTr]
  rw [if_pos (by rw [e]; omega), e]
  rfl

set_option maxHeartbeats 2000000 in
theorem translate_any (vx vo : Value) (X O : List Int) (cols rows : Nat) (w : World) (hX : Ints w vx X) (hO : Ints w vo O) (hlen : X.length = O.length) (hn : X.length ≤ 1000) (hp : 0 < X.length) (hcl : cols ≤ 1000) (hrw : rows ≤ 1000) (rX : Rows X.length X) (rO : Rows X.length O) :
    Calls Tryd.prog 34 #[.agg #[vx, vo], .int .i64 cols, .int .i64 rows] w fun e w' => ∃ v, e = .returned v ∧ NewGrid w.heap.size w' v (trl cols rows X) (trl cols rows O) ∧ Below w.heap.size w w' := by
  obtain ⟨i0, hi0, hz0, hz1, hz2⟩ := info_parts info_int
  have hmk := fun W => run_make_one (P := Tryd.prog) 24 3 i0 (.int .i64 0) Tryd.underlying24 hi0 hz0 hz1 rfl (by rw [hz2]; decide) X.length (by omega) W
  clear hi0 hz0 hz1 hz2
  have HL := Lib.hid hlen
  clear hlen
  have hX0 := hX
  have hO0 := hO
  obtain ⟨A, c, rfl, hc, hh⟩ := hX
  obtain ⟨A', c', rfl, hc', hh'⟩ := hO
  clear hh hh'
  go_enter Tryd.func34, Tryd.ntmps34
  go_upto_region 2 with fail
  have hW : ((w.alloc (.cells #[.slice A X.length c, .slice A' O.length c'] 26)).alloc (.cells #[.slice none 0 0, .slice none 0 0] 26)).heap[w.heap.size]? = some (.cells #[.slice A X.length c, .slice A' O.length c'] 26 (0, 0)) ∧ ((w.alloc (.cells #[.slice A X.length c, .slice A' O.length c'] 26)).alloc (.cells #[.slice none 0 0, .slice none 0 0] 26)).heap[w.heap.size + 1]? = some (.cells #[.slice none 0 0, .slice none 0 0] 26 (0, 0)) ∧ Below w.heap.size w ((w.alloc (.cells #[.slice A X.length c, .slice A' O.length c'] 26)).alloc (.cells #[.slice none 0 0, .slice none 0 0] 26)) ∧ ((w.alloc (.cells #[.slice A X.length c, .slice A' O.length c'] 26)).alloc (.cells #[.slice none 0 0, .slice none 0 0] 26)).heap.size = w.heap.size + 2 :=
    ⟨(Arr.new _ _ [_, _]).alloc _, Arr.newAt (w.alloc _) _ [_, _] _ (by simp), ((Below.refl _ _).alloc (Nat.le_refl _) _).alloc (by simp) _, by simp⟩
  generalize ((w.alloc (.cells #[.slice A X.length c, .slice A' O.length c'] 26)).alloc (.cells #[.slice none 0 0, .slice none 0 0] 26)) = w2 at hW ⊢
  obtain ⟨hw0, hw1, hb2, hs2⟩ := hW
  have HW0 := Lib.hid hw0
  have HW1 := Lib.hid hw1
  have HS2 := Lib.hid hs2
  clear hw0 hw1 hs2
  go_cut [8, 15, 17] (fun s8 s15 s17 wx => Mid w.heap.size wx s8 s15 s17 (.slice A X.length c) (.slice A' O.length c') (List.replicate X.length 0) (List.replicate X.length 0) ∧ Below w.heap.size w wx)
  case first =>
    go_region
    all_goals
      go_wp2_with fail
      go_meet
      have hs2 := HS2.out
      have hw0 := HW0.out
      have hw1 := HW1.out
      refine ⟨?_, ?_⟩
      rotate_left
      · repeat (first | exact hb2 | refine Below.alloc ?_ (by simp [hs2] <;> omega) _ | refine Below.drew ?_)
      exact mid_of2 w _ _ _ X.length X.length (by simp only [heap_push, heap_drew, Array.getElem?_push, Array.size_push]; repeat (first | rw [if_pos trivial] | rw [if_neg (by omega)] | exact hw0 | exact hw1)) (by simp only [heap_push, heap_drew, Array.getElem?_push, Array.size_push]; repeat (first | rw [if_pos trivial] | rw [if_neg (by omega)] | exact hw0 | exact hw1)) (by simp only [heap_push, heap_drew, Array.getElem?_push, Array.size_push]; repeat (first | rw [if_pos trivial] | rw [if_neg (by omega)] | exact hw0 | exact hw1)) (by simp only [heap_push, heap_drew, Array.getElem?_push, Array.size_push]; repeat (first | rw [if_pos trivial] | rw [if_neg (by omega)] | exact hw0 | exact hw1)) (by simp only [heap_push, heap_drew, Array.getElem?_push, Array.size_push]; repeat (first | rw [if_pos trivial] | rw [if_neg (by omega)] | exact hw0 | exact hw1)) (by omega) (by omega) (by omega) (by omega) (by omega) (by omega)
  case rest =>
    clear hmk
    obtain ⟨⟨g, gx, go, rfl, e14, e16, hm⟩, hb⟩ := hcut
    clear e14 e16
    go_wp2_with fail
    go_loopw [20] (fun i wr => ∃ (k : Nat) (aX aO : List Int), k ≤ X.length ∧ i = .int .i64 k ∧ Mid3 w.heap.size wr g gx go (.slice A X.length c) (.slice A' O.length c') aX aO ∧ Below w.heap.size w wr ∧
      Hid (aX.length = X.length ∧ aO.length = X.length ∧ trl cols rows X = relTo (mvTr X.length cols rows) true k (X.drop k) aX ∧ trl cols rows O = relTo (mvTr X.length cols rows) true k (O.drop k) aO)) (fun i _ => X.length - (intOf i).toNat)
    case atStart =>
      exact ⟨0, _, _, Nat.zero_le _, rfl, hm, hb, by simp, by simp, rfl, by simp only [trl, reloc, HL.out, List.drop_zero]⟩
    case round =>
      obtain ⟨k, aX, aO, hk, rfl, hm', hb', H⟩ := hrel
      clear hb hm
      by_cases hlt : k < X.length
      · obtain ⟨b, o, rfl, hbl, hcell⟩ := hX0.at_ hlt
        have hltO : k < O.length := by have := HL.out; omega
        obtain ⟨b', o', rfl, hbl', hcell'⟩ := hO0.at_ hltO
        have hcX := (hb'.cell (p := ⟨b, o + k, none⟩) hbl).trans hcell
        have rx := rX.get hlt
        have ro := rO.get hltO
        rw [relTo_drop _ true X aX hlt, relTo_drop _ true O aO hltO, relStep_mvTr _ _ _ _ _ _ hp, relStep_mvTr _ _ _ _ _ _ hp] at H
        generalize X[k] = x at *
        generalize O[k] = y at *
        clear hcell
        obtain ⟨x, rfl⟩ := Int.eq_ofNat_of_zero_le rx.1
        obtain ⟨y, rfl⟩ := Int.eq_ofNat_of_zero_le ro.1
        have hq : (k + cols) % X.length < X.length := Nat.mod_lt _ hp
        have hx1 : (k + cols) % X.length < aX.length := by have := H.out.1; omega
        have hy1 : (k + cols) % X.length < aO.length := by have := H.out.2.1; omega
        have zn : ((X.length : Int) == 0) = false := beq_eq_false_iff_ne.2 (by omega)
        have zn2 : ¬ ((X.length : Int) = 0) := by omega
        have zn3 : ¬ (X = []) := by intro h; rw [h] at hp; simp at hp
        have zn4 : ¬ (X.length = 0) := by omega
        have w5 := hm'.2.2.2.2.1
        have w6 := hm'.2.2.2.2.2.1
        have n3 := hm'.2.1.symm
        have n4 := hm'.2.2.1.symm
        have n5 : gx ≠ w.heap.size := by omega
        have n6 : go ≠ w.heap.size := by omega
        have n7 : gx ≠ b := by omega
        have n10 : go ≠ b' := by omega
        go_wp2_with fail
        have eq10 : ((k : Int) + cols) % (X.length : Int) = (((k + cols) % X.length : Nat) : Int) := by simp
        rw [eq10]
        clear eq10
        generalize (k + cols) % X.length = q at *
        have z0 := hm'.2.2.2.2.2.2.2.2.2.1.cell 0
        have z1 := hm'.2.2.2.2.2.2.1.cell 0
        have z2 := (hm'.2.2.2.2.2.2.2.1.cell q).trans (ints_get _ hx1)
        have z3 := hm'.2.2.2.2.2.2.2.1.frozen q
        have z4 : IntKind.i64.wrap ((x : Int) + rows) = (x : Int) + rows := IntWalk.i64_in _ (by omega)
        have z5 : (q : Int) < (aX.length : Int) := by omega
        have z6 : (k : Int) < (X.length : Int) := by omega
        have z7 : (k : Int) < (O.length : Int) := by omega
        go_region_held3 (fun w' => w'.cell? ⟨w.heap.size, 0, none⟩ = some (.slice (some ⟨b, o, none⟩) X.length c) ∧ w'.cell? ⟨g, 0, none⟩ = some (.slice (some ⟨gx, 0, none⟩) aX.length aX.length) ∧ w'.cell? ⟨b, o + k, none⟩ = some (.int .i64 (x : Int))) (go_keep) (first | fail)
        clear z0 z1 z2 z3 z4 z5 z6 z7
        rw [show ((x : Int) + rows).tmod (X.length : Int) = ((x : Int) + rows) % (X.length : Int) from Int.tmod_eq_emod_of_nonneg (by omega)]
        have hm2 := (hm'.setX q (((x : Int) + rows) % (X.length : Int))).drew
        have hb2 := (hb'.setCell (p := ⟨gx, q, none⟩) (by show w.heap.size ≤ gx; omega) (.int .i64 (((x : Int) + rows) % (X.length : Int)))).drew
        have hcO := (hb2.cell (p := ⟨b', o' + k, none⟩) hbl').trans hcell'
        generalize (wr.setCell ⟨gx, q, none⟩ (.int .i64 (((x : Int) + rows) % (X.length : Int)))).drew = wr2 at *
        clear hm' hb' hcX hcell'
        go_wp2_with fail
        have z0 := hm2.2.2.2.2.2.2.2.2.2.1.cell 1
        have z1 := hm2.2.2.2.2.2.2.1.cell 1
        have z2 := (hm2.2.2.2.2.2.2.2.2.1.cell q).trans (ints_get _ hy1)
        have z3 := hm2.2.2.2.2.2.2.2.2.1.frozen q
        have z4 : IntKind.i64.wrap ((y : Int) + rows) = (y : Int) + rows := IntWalk.i64_in _ (by omega)
        have z5 : (q : Int) < (aO.length : Int) := by omega
        have z6 : (k : Int) < (X.length : Int) := by omega
        have z7 : (k : Int) < (O.length : Int) := by omega
        go_region_held3 (fun w' => w'.cell? ⟨w.heap.size, 1, none⟩ = some (.slice (some ⟨b', o', none⟩) O.length c') ∧ w'.cell? ⟨g, 1, none⟩ = some (.slice (some ⟨go, 0, none⟩) aO.length aO.length) ∧ w'.cell? ⟨b', o' + k, none⟩ = some (.int .i64 (y : Int))) (go_keep) (first | fail)
        clear z0 z1 z2 z3 z4 z5 z6 z7
        rw [show ((y : Int) + rows).tmod (X.length : Int) = ((y : Int) + rows) % (X.length : Int) from Int.tmod_eq_emod_of_nonneg (by omega)]
        go_wp2_with fail
        go_roundw
        case rel => exact ⟨k + 1, _, _, by omega, by go_num, (hm2.setO q (((y : Int) + rows) % (X.length : Int))).drew, (hb2.setCell (p := ⟨go, q, none⟩) (by show w.heap.size ≤ go; omega) _).drew, by simp [H.out.1], by simp [H.out.2.1], H.out.2.2.1, H.out.2.2.2⟩
        case measure => simp [intOf]; omega
      · obtain rfl : k = X.length := by omega
        obtain ⟨hl1, hl2, hr1, hr2⟩ := H.out
        rw [List.drop_length] at hr1
        rw [HL.out, List.drop_length] at hr2
        have hg0 := hm'.2.2.2.2.2.2.1.cell 0
        have hg1 := hm'.2.2.2.2.2.2.1.cell 1
        obtain ⟨e1, e2, e3, e4, e5, e6, q1, q2, q3, q4, a, b, q5⟩ := hm'
        have hz0 := q5.cell 0
        have hz1 := q5.cell 1
        have hz2 := q5.frozen 0
        have hz3 := q5.frozen 1
        have R1 := Lib.hid hr1
        have R2 := Lib.hid hr2
        have hres := Lib.hid ((q5.set 0 (.slice (some ⟨gx, 0, none⟩) aX.length aX.length)).set 1 (.slice (some ⟨go, 0, none⟩) aO.length aO.length))
        clear hr1 hr2 hl1 hl2 q1 q4 q5 hX0 hO0
        go_wp2_with fail
        refine bodyPost_ret (v := .agg #[.slice (some ⟨gx, 0, none⟩) aX.length aX.length, .slice (some ⟨go, 0, none⟩) aO.length aO.length]) (results_c Tryd.results34 _ _ (w.heap.size + 1) 26 _ _ rfl hres.out Tryd.underlying26 rfl info_grid) rfl ⟨_, rfl, ?_, ?_⟩
        · rw [R1.out, R2.out]
          exact ⟨gx, go, rfl, e1, by omega, by omega, q2.far2 (r := w.heap.size + 1) (by omega), q3.far2 (r := w.heap.size + 1) (by omega)⟩
        · exact bset2 (r := w.heap.size + 1) hb' (by omega)
end Go.Proofs.YteigjfdgijaifaaDoor

namespace Go.Proofs.YteigjfdgijaifaaDoor
open Go.RowKit
set_option linter.unusedVariables false

/-- Shift as a function: an error, or the translated grid -/
def shiftM (X O : List Int) (cols rows : Int) : Int × List Int × List Int :=
  if validB X O = false then (1, [], []) else (0, trl (cols % X.length).toNat (rows % X.length).toNat X, trl (cols % X.length).toNat (rows % X.length).toNat O)
theorem tmod_shift (c : Int) (n : Nat) (h : 0 < n) : (c.tmod n + n).tmod n = ((c % n).toNat : Int) ∧ -(n : Int) < c.tmod n ∧ c.tmod n < n ∧ (c % n).toNat < n := by
  have h1 := Int.emod_nonneg c (show (n : Int) ≠ 0 by omega)
  have h2 := Int.emod_lt_of_pos c (show (0 : Int) < n by omega)
  have h3 : c.tmod n = c % n ∨ (c.tmod n = c % n - n ∧ c % n ≠ 0) ∨ (c % n = 0 ∧ c.tmod n = 0) := by
    rw [Int.tmod_eq_emod]
    split
    · exact .inl (by omega)
    · rename_i hd
      have : c % n ≠ 0 := fun h => hd (.inr (Int.dvd_of_emod_eq_zero h))
      exact .inr (.inl ⟨by simp, this⟩)
  have h4 : (c.tmod n + n).tmod n = (c.tmod n + n) % n := Int.tmod_eq_emod_of_nonneg (by omega)
  refine ⟨?_, by omega, by omega, by omega⟩
  rw [h4]
  rcases h3 with h3 | ⟨h3, _⟩ | ⟨h3, h5⟩
  · rw [h3, Int.add_emod_right, Int.emod_eq_of_lt h1 h2]; omega
  · rw [h3, show c % n - n + n = c % n from by omega, Int.emod_eq_of_lt h1 h2]; omega
  · rw [h5, h3]; simp

set_option maxHeartbeats 2000000 in
theorem shift_any (vx vo : Value) (X O : List Int) (cols rows : Int) (w : World) (hX : Ints w vx X) (hO : Ints w vo O) (hl : X.length ≤ 1000) (hl' : O.length ≤ 1000) :
    Calls Tryd.prog 18 #[.agg #[vx, vo], .int .i64 cols, .int .i64 rows] w (GRes w.heap.size w (shiftM X O cols rows)) := by
  have hX0 := hX
  have hO0 := hO
  obtain ⟨A, c, rfl, hc, hh⟩ := hX
  obtain ⟨A', c', rfl, hc', hh'⟩ := hO
  clear hh hh'
  go_enter Tryd.func18, Tryd.ntmps18
  go_wp2_with fail
  have hW : Arr ((w.alloc (.cells #[.slice A X.length c, .slice A' O.length c'] 26)).alloc (.cells #[.slice none 0 0, .slice none 0 0] 26)) w.heap.size 26 [.slice A X.length c, .slice A' O.length c'] ∧ Arr ((w.alloc (.cells #[.slice A X.length c, .slice A' O.length c'] 26)).alloc (.cells #[.slice none 0 0, .slice none 0 0] 26)) (w.heap.size + 1) 26 [.slice none 0 0, .slice none 0 0] ∧ Below w.heap.size w ((w.alloc (.cells #[.slice A X.length c, .slice A' O.length c'] 26)).alloc (.cells #[.slice none 0 0, .slice none 0 0] 26)) :=
    ⟨(Arr.new _ _ [_, _]).alloc _, Arr.newAt (w.alloc _) _ [_, _] _ (by simp), ((Below.refl _ _).alloc (Nat.le_refl _) _).alloc (by simp) _⟩
  generalize ((w.alloc (.cells #[.slice A X.length c, .slice A' O.length c'] 26)).alloc (.cells #[.slice none 0 0, .slice none 0 0] 26)) = w4 at hW ⊢
  obtain ⟨q0, q1, hb4⟩ := hW
  refine (valid_any _ _ X O _ (hX0.below hb4) (hO0.below hb4) hl hl').mono ?_
  rintro e w5 ⟨rfl, hb5⟩
  have hbw5 := hb4.trans (hb5.mono hb4.size)
  have p0 := q0.below hb5 q0.lt
  have p1 := q1.below hb5 q1.lt
  clear q0 q1 hb5 hb4
  have y0 := p0.cell 0
  have y1 := p0.cell 1
  have y2 := p1.cell 0
  have y3 := p1.cell 1
  have y4 := p1.frozen 0
  have y5 := p1.frozen 1
  have l1 := p1.lt
  cases hv : validB X O with
  | false =>
    have hfin := Lib.hid (show shiftM X O cols rows = (1, [], []) by unfold shiftM; rw [if_pos hv])
    clear hv
    have hzr := Lib.hid ((p1.set 0 (.slice none 0 0)).set 1 (.slice none 0 0))
    go_wp2_with fail
    refine bodyPost_ret (v := .tuple #[.agg #[.slice none 0 0, .slice none 0 0], .int .i64 1]) (results_ct Tryd.results18 _ _ (w.heap.size + 1) 26 _ _ rfl hzr.out Tryd.underlying26 rfl info_grid) rfl ?_
    rw [hfin.out]
    exact GRes.err (by decide) (bset2 (r := w.heap.size + 1) hbw5 (by omega))
  | true =>
    have vf := (validB_iff X O).1 hv
    have hfin := Lib.hid (show shiftM X O cols rows = (0, trl (cols % X.length).toNat (rows % X.length).toNat X, trl (cols % X.length).toNat (rows % X.length).toNat O) by unfold shiftM; rw [if_neg (by simp [hv])])
    clear hv
    have hn2 := vf.two
    obtain ⟨ec, ec1, ec2, ec3⟩ := tmod_shift cols X.length (by omega)
    obtain ⟨er, er1, er2, er3⟩ := tmod_shift rows X.length (by omega)
    generalize (cols % (X.length : Int)).toNat = pc at *
    generalize (rows % (X.length : Int)).toNat = pr at *
    have wc : IntKind.i64.wrap (cols.tmod X.length + X.length) = cols.tmod X.length + X.length := IntWalk.i64_in _ (by omega)
    have wr : IntKind.i64.wrap (rows.tmod X.length + X.length) = rows.tmod X.length + X.length := IntWalk.i64_in _ (by omega)
    have zn : ((X.length : Int) == 0) = false := beq_eq_false_iff_ne.2 (by omega)
    have zn2 : ¬ ((X.length : Int) = 0) := by omega
    have zn3 : ¬ (X = []) := by intro h; rw [h] at hn2; simp at hn2
    have zn4 : ¬ (X.length = 0) := by omega
    have HT := Lib.hid (fun W (hS : W.cell? ⟨w.heap.size, 0, none⟩ = some (.slice A X.length c) ∧ W.cell? ⟨w.heap.size, 1, none⟩ = some (.slice A' O.length c') ∧ Below w.heap.size w W) => translate_any (.slice A X.length c) (.slice A' O.length c') X O pc pr W (hX0.below hS.2.2) (hO0.below hS.2.2) vf.len hl (by omega) (by omega) (by omega) vf.pX.1 (by have := vf.pO.1; rw [← vf.len] at this; exact this))
    have KS0 := Lib.hid (show w5.drew.cell? ⟨w.heap.size, 0, none⟩ = some (.slice A X.length c) ∧ w5.drew.cell? ⟨w.heap.size, 1, none⟩ = some (.slice A' O.length c') ∧ Below w.heap.size w w5.drew from ⟨y0, y1, hbw5.drew⟩)
    have HJ := Lib.hid (fun W W' (hS : W.cell? ⟨w.heap.size, 0, none⟩ = some (.slice A X.length c) ∧ W.cell? ⟨w.heap.size, 1, none⟩ = some (.slice A' O.length c') ∧ Below w.heap.size w W) (hb : Below W.heap.size W W') => (⟨(hb.cell (block_lt_of_cell hS.1)).trans hS.1, (hb.cell (block_lt_of_cell hS.2.1)).trans hS.2.1, hS.2.2.trans (hb.mono hS.2.2.size)⟩ : W'.cell? ⟨w.heap.size, 0, none⟩ = some (.slice A X.length c) ∧ W'.cell? ⟨w.heap.size, 1, none⟩ = some (.slice A' O.length c') ∧ Below w.heap.size w W'))
    have KS2 := Lib.hid (fun W u u' (hS : W.cell? ⟨w.heap.size, 0, none⟩ = some (.slice A X.length c) ∧ W.cell? ⟨w.heap.size, 1, none⟩ = some (.slice A' O.length c') ∧ Below w.heap.size w W) => (⟨(World.cell?_of_block (heap_set2 W (w.heap.size + 1) 0 1 w.heap.size u u' (by omega))).trans hS.1, (World.cell?_of_block (heap_set2 W (w.heap.size + 1) 0 1 w.heap.size u u' (by omega))).trans hS.2.1, bset2 (r := w.heap.size + 1) hS.2.2 (by omega)⟩ : ((W.setCell ⟨w.heap.size + 1, 0, none⟩ u).setCell ⟨w.heap.size + 1, 1, none⟩ u').cell? ⟨w.heap.size, 0, none⟩ = some (.slice A X.length c) ∧ ((W.setCell ⟨w.heap.size + 1, 0, none⟩ u).setCell ⟨w.heap.size + 1, 1, none⟩ u').cell? ⟨w.heap.size, 1, none⟩ = some (.slice A' O.length c') ∧ Below w.heap.size w ((W.setCell ⟨w.heap.size + 1, 0, none⟩ u).setCell ⟨w.heap.size + 1, 1, none⟩ u')))
    go_wp2_with fail
    go_region_held3 (fun w' => w'.cell? ⟨w.heap.size, 0, none⟩ = some (.slice A X.length c) ∧ w'.cell? ⟨w.heap.size, 1, none⟩ = some (.slice A' O.length c') ∧ Below w.heap.size w w') (first | exact KS0.out | exact hS7 | exact KS2.out _ _ _ hS7)
      (first
        | (go_at_call 34; refine (HT.out _ (by assumption)).mono ?_; rintro e w7 ⟨v7, rfl, ⟨gx, go, rfl, q1, q2, q3, a1, a2⟩, hb7⟩; have hS7 := HJ.out _ _ (by assumption) hb7; have hr := (Arr.drew p1).below hb7 (Arr.drew p1).lt; have s0 := hr.cell 0; have s1 := hr.cell 1; have s2 := hr.frozen 0; have s3 := hr.frozen 1; clear hb7))
    have hres := Lib.hid ((hr.set 0 (.slice (some ⟨gx, 0, none⟩) (trl pc pr X).length (trl pc pr X).length)).set 1 (.slice (some ⟨go, 0, none⟩) (trl pc pr O).length (trl pc pr O).length))
    go_wp2_with fail
    refine bodyPost_ret (v := .tuple #[.agg #[.slice (some ⟨gx, 0, none⟩) (trl pc pr X).length (trl pc pr X).length, .slice (some ⟨go, 0, none⟩) (trl pc pr O).length (trl pc pr O).length], .int .i64 0]) (results_ct Tryd.results18 _ _ (w.heap.size + 1) 26 _ _ rfl hres.out Tryd.underlying26 rfl info_grid) rfl ?_
    rw [hfin.out]
    have hbs := hbw5.size
    have q2' : w5.heap.size ≤ gx := q2
    have q3' : w5.heap.size ≤ go := q3
    exact GRes.ok (bset2 (r := w.heap.size + 1) hS7.2.2 (by omega)) ⟨gx, go, rfl, q1, by omega, by omega, a1.far2 (r := w.heap.size + 1) (by omega), a2.far2 (r := w.heap.size + 1) (by omega)⟩
end Go.Proofs.YteigjfdgijaifaaDoor

namespace Go.Proofs.YteigjfdgijaifaaDoor
set_option linter.unusedVariables false
open Go.RowKit

/-- a slice that reads as xs in every world that has the blocks from B on as they are now -/
def IntsF (B : Nat) (w : World) (v : Value) (xs : List Int) : Prop := ∀ W : World, (∀ b, B ≤ b → b < w.heap.size → W.heap[b]? = w.heap[b]?) → Ints W v xs
theorem IntsF.ints {B : Nat} {w : World} {v : Value} {xs : List Int} (h : IntsF B w v xs) : Ints w v xs := h w (fun _ _ _ => rfl)
theorem IntsF.set2 {B : Nat} {w : World} {v : Value} {xs : List Int} (h : IntsF B w v xs) {r : Nat} (hr : r < B) (i j : Nat) (u u' : Value) : Ints ((w.setCell ⟨r, i, none⟩ u).setCell ⟨r, j, none⟩ u') v xs :=
  h _ (fun b hb _ => heap_set2 w r i j b u u' (by omega))
def GRf (B : Nat) (w : World) (r : Int × List Int × List Int) (e : Ending) (w' : World) : Prop :=
  Below B w w' ∧ ∃ A0 n0 c0 A1 n1 c1, e = .returned (.tuple #[.agg #[.slice A0 n0 c0, .slice A1 n1 c1], .int .i64 r.1]) ∧ IntsF B w' (.slice A0 n0 c0) r.2.1 ∧ IntsF B w' (.slice A1 n1 c1) r.2.2
theorem apply_rf (vx vo : Value) (X O : List Int) (k : Int) (rows : Bool) (a v : Int) (w : World) (hX : Ints w vx X) (hO : Ints w vo O) (hl : X.length ≤ 1000) (hl' : O.length ≤ 1000) :
    Calls Tryd.prog 11 #[.agg #[vx, vo], .agg #[.int .i64 k, .bool rows, .int .i64 a, .int .i64 v]] w (GRf w.heap.size w (applyM X O k rows a v)) := by
  refine (apply_any vx vo X O k rows a v w hX hO hl hl').mono ?_
  rintro e w' ⟨hb, u, rfl, h⟩
  refine ⟨hb, ?_⟩
  by_cases h0 : (applyM X O k rows a v).1 = 0
  · rw [if_pos h0] at h
    obtain ⟨gx, go, rfl, _, b1, b2, h1, h2⟩ := h
    refine ⟨_, _, _, _, _, _, rfl, fun W hW => Ints.of_arr (t := 3) ?_, fun W hW => Ints.of_arr (t := 3) ?_⟩
    · exact (hW gx b1 h1.lt).trans h1
    · exact (hW go b2 h2.lt).trans h2
  · rw [if_neg h0] at h
    subst h
    rw [applyM_err _ _ _ _ _ _ h0]
    exact ⟨_, _, _, _, _, _, rfl, fun W _ => Ints.nil _, fun W _ => Ints.nil _⟩
end Go.Proofs.YteigjfdgijaifaaDoor
