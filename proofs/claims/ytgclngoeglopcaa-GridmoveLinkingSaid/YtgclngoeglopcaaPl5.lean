/- Plain facts: Apply on valid grids, columns and rows alike; moves can be undone. -/
import Derived.Test.YtgclngoeglopcaaPl4
import Derived.Test.YtgclngoeglopcaaLawC
namespace Go.Proofs.Ytgclngoeglopcaa
open Go.RowKit

/-- the list, or the transposed one -/
def vw (rows : Bool) (l : List Int) : List Int := if rows = true then tr l else l
theorem vw_length (rows : Bool) (l : List Int) : (vw rows l).length = l.length := by unfold vw; split; exact tr_length l; rfl
theorem vw_vw {rows : Bool} {l : List Int} (h : Pm l) : vw rows (vw rows l) = l := by cases rows; rfl; exact tr_tr h
theorem vw_vd {rows : Bool} {X O : List Int} (h : Vd X O) : Vd (vw rows X) (vw rows O) := by cases rows; exact h; exact tr_vd h

def inRange (k a v : Int) (n : Nat) : Prop := (1 ≤ k ∧ k ≤ 4) ∧ (0 ≤ a ∧ a < limAt k n) ∧ (0 ≤ v ∧ v < limVar k n)

theorem colsL_err (X O : List Int) (k : Int) (a v : Nat) (h : (colsL X O k a v).1 ≠ 0) : (colsL X O k a v).2 = ([], []) := by
  unfold colsL at *
  revert h
  repeat' split
  all_goals simp

theorem applyM_vw {X O : List Int} {k a v : Int} {rows : Bool} (h : Vd X O) (hr : inRange k a v X.length) :
    applyM X O k rows a v = if (colsL (vw rows X) (vw rows O) k a.toNat v.toNat).1 = 0 then (0, vw rows (colsL (vw rows X) (vw rows O) k a.toNat v.toNat).2.1, vw rows (colsL (vw rows X) (vw rows O) k a.toNat v.toNat).2.2) else ((colsL (vw rows X) (vw rows O) k a.toNat v.toNat).1, [], []) := by
  obtain ⟨hk, ⟨a0, a1⟩, v0, v1⟩ := hr
  have hk0 : ¬ limAt k X.length = 0 := by rw [limAt_zero (by have := h.two; omega)]; simp; omega
  have hv : validB X O = true := (validB_iff X O).2 h
  unfold applyM
  rw [if_neg (by simp [hv]), if_neg hk0, if_neg (by omega)]
  cases rows with
  | false =>
    rw [if_pos rfl, colsM_eq h.two h.len hk (by omega)]
    show _ = if (colsL X O k a.toNat v.toNat).1 = 0 then (0, (colsL X O k a.toNat v.toNat).2.1, (colsL X O k a.toNat v.toNat).2.2) else ((colsL X O k a.toNat v.toNat).1, [], [])
    split
    · rename_i h0
      rw [← h0]
    · rename_i h0
      have := colsL_err _ _ _ _ _ h0
      rw [← this]
  | true =>
    rw [if_neg (by simp), colsM_eq (by rw [tr_length]; exact h.two) (by rw [tr_length, tr_length]; exact h.len) hk (by rw [tr_length]; omega)]
    rfl

theorem applyM_inv {X O X1 O1 : List Int} {k a v : Int} {rows : Bool} (h : applyM X O k rows a v = (0, X1, O1)) :
    Vd X O ∧ inRange k a v X.length ∧ ∃ Y P, colsL (vw rows X) (vw rows O) k a.toNat v.toNat = (0, Y, P) ∧ X1 = vw rows Y ∧ O1 = vw rows P := by
  have hv : validB X O = true := by
    cases hv : validB X O with
    | true => rfl
    | false => unfold applyM at h; rw [if_pos hv] at h; simp at h
  have hvd := (validB_iff X O).1 hv
  have hr : inRange k a v X.length := by
    unfold applyM at h
    rw [if_neg (by simp [hv])] at h
    split at h
    · simp at h
    · rename_i h1
      split at h
      · simp at h
      · rename_i h2
        rw [limAt_zero (by have := hvd.two; omega)] at h1
        exact ⟨Decidable.not_not.1 h1, by omega, by omega⟩
  refine ⟨hvd, hr, ?_⟩
  rw [applyM_vw hvd hr] at h
  split at h
  · rename_i h0
    generalize colsL (vw rows X) (vw rows O) k a.toNat v.toNat = R at *
    obtain ⟨c, Y, P⟩ := R
    simp only at h0 h
    injection h with _ h
    injection h with h1 h2
    exact ⟨Y, P, by rw [h0], h1.symm, h2.symm⟩
  · rename_i h0
    injection h with h _
    exact absurd h h0

theorem applyM_of {X O Y P : List Int} {k a v : Int} {rows : Bool} (h : Vd X O) (hr : inRange k a v X.length) (hc : colsL (vw rows X) (vw rows O) k a.toNat v.toNat = (0, Y, P)) : applyM X O k rows a v = (0, vw rows Y, vw rows P) := by
  rw [applyM_vw h hr, hc]
  rfl

theorem applyM_res_vd {X O X1 O1 : List Int} {k a v : Int} {rows : Bool} (h : applyM X O k rows a v = (0, X1, O1)) : Vd X1 O1 := by
  obtain ⟨hv, hr, Y, P, hc, rfl, rfl⟩ := applyM_inv h
  have := colsL_vd (a := a.toNat) (v := v.toNat) (vw_vd (rows := rows) hv) hr.1 (by rw [vw_length]; have := hr.2.1; omega) (by rw [vw_length]; have := hr.2.2; omega) (by rw [hc])
  rw [hc] at this
  exact vw_vd this

/-- a move that undoes a move of columns undoes it for rows too -/
theorem undo_lift {X O X1 O1 : List Int} {k a v k' a' v' : Int} {rows : Bool} (h : applyM X O k rows a v = (0, X1, O1))
    (hu : ∀ Y P Y1 P1 : List Int, Vd Y P → Y.length = X.length → inRange k a v Y.length → colsL Y P k a.toNat v.toNat = (0, Y1, P1) → inRange k' a' v' Y1.length ∧ colsL Y1 P1 k' a'.toNat v'.toNat = (0, Y, P)) :
    applyM X1 O1 k' rows a' v' = (0, X, O) := by
  have hv1 := applyM_res_vd h
  obtain ⟨hv, hr, Y, P, hc, rfl, rfl⟩ := applyM_inv h
  have hY : Vd Y P := by
    have := colsL_vd (a := a.toNat) (v := v.toNat) (vw_vd (rows := rows) hv) hr.1 (by rw [vw_length]; have := hr.2.1; omega) (by rw [vw_length]; have := hr.2.2; omega) (by rw [hc])
    rw [hc] at this
    exact this
  obtain ⟨h1, h2⟩ := hu (vw rows X) (vw rows O) Y P (vw_vd hv) (vw_length _ _) (by rw [vw_length]; exact hr) hc
  have := applyM_of (rows := rows) hv1 (by rw [vw_length]; exact h1) (by rw [vw_vw hY.pX, vw_vw hY.pO]; exact h2)
  rw [this, vw_vw hv.pX, vw_vw hv.pO]

theorem ext_get {l m : List Int} (hl : l.length = m.length) (h : ∀ j (h1 : j < l.length) (h2 : j < m.length), l[j] = m[j]) : l = m := List.ext_getElem hl h

theorem swapL_swapL (X : List Int) (a : Nat) (ha : a + 1 < X.length) : swapL (swapL X a) a = X := by
  apply List.ext_getElem?
  intro j
  rw [swapL_get _ a j (by rw [swapL_length]; exact ha), swapL_get X a _ ha]
  congr 1
  repeat' split
  all_goals omega
theorem getD_get? (l : List Int) (i : Nat) : l.getD i 0 = (l[i]?).getD 0 := List.getD_eq_getElem?_getD
theorem commB_symm (x o x2 o2 : Int) : commB x2 o2 x o = commB x o x2 o2 := by
  unfold commB commIv
  generalize minG x o = l
  generalize maxG x o = h
  generalize minG x2 o2 = l2
  generalize maxG x2 o2 = h2
  by_cases c : l = l2 ∨ l = h2 ∨ h = l2 ∨ h = h2
  · rw [if_pos c, if_pos (by omega)]
  · rw [if_neg c, if_neg (by omega)]
    rw [Bool.eq_iff_iff]
    simp only [decide_eq_true_eq]
    omega

theorem undo_swap {X O X1 O1 : List Int} {a v : Int} {rows : Bool} (h : applyM X O 2 rows a v = (0, X1, O1)) : applyM X1 O1 2 rows a v = (0, X, O) := by
  refine undo_lift h (fun Y P Y1 P1 hv _ hr hc => ?_)
  have ha : a.toNat + 1 < Y.length := by have := hr.2.1; simp [limAt] at this; omega
  have hap : a.toNat + 1 < P.length := by have := hv.len; omega
  unfold colsL at hc
  rw [if_neg (by decide), if_pos rfl] at hc
  split at hc
  · rename_i hcb
    injection hc with _ hc
    injection hc with e1 e2
    subst e1 e2
    refine ⟨by rw [swapL_length]; exact hr, ?_⟩
    unfold colsL
    rw [if_neg (by decide), if_pos rfl]
    have : commB ((swapL Y a.toNat).getD a.toNat 0) ((swapL P a.toNat).getD a.toNat 0) ((swapL Y a.toNat).getD (a.toNat + 1) 0) ((swapL P a.toNat).getD (a.toNat + 1) 0) = true := by
      rw [getD_get?, getD_get?, getD_get?, getD_get?, swapL_get _ _ _ ha, swapL_get _ _ _ hap, swapL_get _ _ _ ha, swapL_get _ _ _ hap, if_pos rfl, if_neg (by omega), if_pos rfl, ← getD_get?, ← getD_get?, ← getD_get?, ← getD_get?, commB_symm]
      exact hcb
    rw [if_pos this, swapL_swapL _ _ ha, swapL_swapL _ _ hap]
  · simp at hc

theorem lowr_upr (r x : Int) (t : Bool) : lowr r (upr r t x) = x := by
  unfold lowr upr
  split <;> split <;> (try rename_i h1 h2) <;> omega
theorem delL_addL (X : List Int) (a : Nat) (r y : Int) (t : Bool) (ha : a ≤ X.length) : delL (addL X a r t y) a r = X := by
  apply List.ext_getElem?
  intro j
  rw [delL_get _ a j r (by rw [addL_length _ _ _ _ _ ha]; omega), addL_get X a _ r t y ha]
  rw [if_neg (by split <;> omega)]
  have : (if (if j < a then j else j + 1) < a then (if j < a then j else j + 1) else (if j < a then j else j + 1) - 1) = j := by
    repeat' split
    all_goals omega
  rw [this]
  cases X[j]? with
  | none => rfl
  | some x => simp [lowr_upr]

theorem desAll_of (a : Nat) (x o : Int) : ∀ (X O : List Int) (i : Nat), X.length = O.length → (∀ k (h : k < X.length) (h' : k < O.length), i + k ≠ a → ¬ (O[k] = x ∧ X[k] = o)) → desAll a x o i X O = true := by
  intro X
  induction X with
  | nil => intro O i _ _; cases O <;> rfl
  | cons p ps ih =>
    intro O i hl hh
    cases O with
    | nil => simp at hl
    | cons q qs =>
      rw [desAll, Bool.and_eq_true]
      refine ⟨?_, ih qs (i + 1) (by simpa using hl) (fun k h h' hne => ?_)⟩
      · have := hh 0 (by simp) (by simp)
        simp only [List.getElem_cons_zero] at this
        by_cases h1 : i = a
        · simp [h1]
        by_cases h2 : q = x
        · by_cases h3 : p = o
          · exact absurd ⟨h2, h3⟩ (this (by omega))
          · simp [h3]
        · simp [h2]
      · have := hh (k + 1) (by simpa using h) (by simpa using h') (by omega)
        simpa using this

theorem addL_self (X : List Int) (a : Nat) (r y : Int) (t : Bool) (ha : a ≤ X.length) : (addL X a r t y).getD a 0 = y := by
  rw [getD_get?, addL_get _ _ _ _ _ _ ha, if_pos rfl]; rfl

theorem undo_sta {X O X1 O1 : List Int} {a v : Int} {rows : Bool} (h : applyM X O 4 rows a v = (0, X1, O1)) : applyM X1 O1 3 rows a 0 = (0, X, O) := by
  refine undo_lift h (fun Y P Y1 P1 hv _ hr hc => ?_)
  have hlen := hv.len
  have ha : a.toNat ≤ Y.length := by have := hr.2.1; simp [limAt] at this; omega
  have hv2 : v.toNat < 2 * Y.length := by have := hr.2.2; simp [limVar] at this; omega
  unfold colsL at hc
  rw [if_neg (by decide), if_neg (by decide), if_neg (by decide)] at hc
  split at hc
  · simp at hc
  rename_i h40
  injection hc with _ hc
  injection hc with e1 e2
  have hst : ∃ st, decide (v.toNat % 2 = 0) = st := ⟨_, rfl⟩
  obtain ⟨st, hst⟩ := hst
  have hrr : ∃ r, v.toNat / 2 = r := ⟨_, rfl⟩
  obtain ⟨r, hrr⟩ := hrr
  rw [hst, hrr] at e1 e2
  have hrl : r < Y.length := by omega
  have hvd := addL_vd (st := st) hv h40 ha hrl
  rw [e1, e2] at hvd
  have gx : Y1.getD a.toNat 0 = if st = true then (r : Int) + 1 else r := by rw [← e1]; exact addL_self _ _ _ _ _ ha
  have go : P1.getD a.toNat 0 = if st = true then (r : Int) else r + 1 := by rw [← e2]; exact addL_self _ _ _ _ _ (by omega)
  have hl1 : Y1.length = Y.length + 1 := by rw [← e1]; exact addL_length _ _ _ _ _ ha
  have hl2 : P1.length = P.length + 1 := by rw [← e2]; exact addL_length _ _ _ _ _ (by omega)
  refine ⟨⟨by omega, by have := hr.2.1; simp [limAt] at this ⊢; omega, by simp [limVar]⟩, ?_⟩
  have hmin : minG (Y1.getD a.toNat 0) (P1.getD a.toNat 0) = r := by
    rw [gx, go]; unfold minG
    cases st <;> simp <;> omega
  have hok : desOk Y1 P1 a.toNat (Y1.getD a.toNat 0) (P1.getD a.toNat 0) = true := by
    unfold desOk
    rw [Bool.and_eq_true, Bool.and_eq_true]
    refine ⟨⟨by simp; have := hv.two; omega, ?_⟩, desAll_of _ _ _ _ _ _ hvd.len (fun k h h' hne hh => ?_)⟩
    · rw [hmin, gx, go]; unfold maxG
      cases st <;> simp <;> omega
    · rw [gx, go] at hh
      have hx := hv.ne
      subst e1 e2
      rcases addL_at Y ha h with ⟨q1, _⟩ | ⟨q1, c, h1, p1, e3⟩
      · omega
      · rcases addL_at P (by omega) h' with ⟨q2, _⟩ | ⟨q2, d, h2, p2, e4⟩
        · omega
        · have : c = d := by rw [p1, p2]
          subst this
          have hne2 := hx c h1 h2
          rw [e3, e4] at hh
          unfold upr at hh
          revert hh
          cases st <;> simp <;> repeat' split
          all_goals omega
  unfold colsL
  rw [if_neg (by decide), if_neg (by decide), if_pos rfl, if_pos hok, hmin]
  subst e1 e2
  rw [delL_addL _ _ _ _ _ ha, delL_addL _ _ _ _ _ (by omega)]

theorem upr_lowr {r x : Int} (t : Bool) (h1 : t = true → x ≠ r) (h2 : t = false → x ≠ r + 1) : upr r t (lowr r x) = x := by
  unfold lowr upr
  cases t
  · have := h2 rfl
    simp; repeat' split
    all_goals omega
  · have := h1 rfl
    simp; repeat' split
    all_goals omega
theorem addL_delL {X : List Int} {a : Nat} {r y : Int} {t : Bool} (ha : a < X.length) (hy : X[a] = y) (h : ∀ c (hc : c < X.length), c ≠ a → (t = true → X[c] ≠ r) ∧ (t = false → X[c] ≠ r + 1)) : addL (delL X a r) a r t y = X := by
  apply List.ext_getElem?
  intro j
  rw [addL_get _ a j r t y (by rw [delL_length _ _ _ ha]; omega)]
  by_cases e : j = a
  · subst e
    rw [if_pos rfl, List.getElem?_eq_getElem ha, hy]
  · rw [if_neg e, delL_get _ a _ r ha]
    have : (if (if j < a then j else j - 1) < a then (if j < a then j else j - 1) else (if j < a then j else j - 1) + 1) = j := by
      repeat' split
      all_goals omega
    rw [this]
    by_cases hj : j < X.length
    · rw [List.getElem?_eq_getElem hj]
      simp only [Option.map_some]
      rw [upr_lowr t (h j hj e).1 (h j hj e).2]
    · rw [List.getElem?_eq_none (by omega)]; rfl

theorem undo_des {X O X1 O1 : List Int} {a v : Int} {rows : Bool} (h : applyM X O 3 rows a v = (0, X1, O1)) : ∃ u : Nat, u < 2 * X1.length ∧ applyM X1 O1 4 rows a u = (0, X, O) := by
  have hvd := applyM_res_vd h
  obtain ⟨hv0, hr0, Y0, P0, hc0, hX1, hO1⟩ := applyM_inv h
  have key : ∀ Y P Y1 P1 : List Int, Vd Y P → inRange 3 a v Y.length → colsL Y P 3 a.toNat v.toNat = (0, Y1, P1) → ∃ u : Nat, u < 2 * Y1.length ∧ inRange 4 a u Y1.length ∧ colsL Y1 P1 4 a.toNat ((u : Int)).toNat = (0, Y, P) := by
    intro Y P Y1 P1 hv hr hc
    have hlen := hv.len
    have ha : a.toNat < Y.length := by have := hr.2.1; simp [limAt] at this; omega
    have hap : a.toNat < P.length := by omega
    unfold colsL at hc
    rw [if_neg (by decide), if_neg (by decide), if_pos rfl] at hc
    split at hc
    · rename_i hok
      injection hc with _ hc
      injection hc with e1 e2
      have gx : Y.getD a.toNat 0 = Y[a.toNat] := by simp [List.getD_eq_getElem?_getD, ha]
      have go : P.getD a.toNat 0 = P[a.toNat] := by simp [List.getD_eq_getElem?_getD, hap]
      rw [gx, go] at hok e1 e2
      simp only [desOk, Bool.and_eq_true, decide_eq_true_eq] at hok
      obtain ⟨⟨h3, hm⟩, hall⟩ := hok
      have bx := hv.pX.get ha
      have bo := hv.pO.get hap
      have hlow : (minG Y[a.toNat] P[a.toNat] = Y[a.toNat] ∧ P[a.toNat] = Y[a.toNat] + 1) ∨ (minG Y[a.toNat] P[a.toNat] = P[a.toNat] ∧ Y[a.toNat] = P[a.toNat] + 1) := by
        unfold minG maxG at *
        revert hm
        repeat' split
        all_goals omega
      generalize minG Y[a.toNat] P[a.toNat] = low at *
      have hl1 : Y1.length = Y.length - 1 := by rw [← e1]; exact delL_length _ _ _ ha
      have hl2 : P1.length = P.length - 1 := by rw [← e2]; exact delL_length _ _ _ hap
      have h40 : Y1.length ≠ 40 := by have := hv.most; omega
      have dx : ∀ c (hc : c < Y.length), c ≠ a.toNat → Y[c] ≠ Y[a.toNat] := fun c hc hne e => hne (hv.pX.inj hc ha e)
      have dp : ∀ c (hc : c < P.length), c ≠ a.toNat → P[c] ≠ P[a.toNat] := fun c hc hne e => hne (hv.pO.inj hc hap e)
      rcases hlow with ⟨m1, m2⟩ | ⟨m1, m2⟩
      · -- the X is below: variant 2 low + 1
        refine ⟨2 * low.toNat + 1, by omega, ⟨by omega, ⟨by have := hr.2.1; omega, by have := hr.2.1; simp [limAt] at this ⊢; omega⟩, by simp [limVar]; omega⟩, ?_⟩
        unfold colsL
        rw [if_neg (by decide), if_neg (by decide), if_neg (by decide), if_neg h40]
        simp only [Int.toNat_natCast]
        rw [show (2 * low.toNat + 1) / 2 = low.toNat from by omega, show decide ((2 * low.toNat + 1) % 2 = 0) = false from decide_eq_false (by omega), ← e1, ← e2]
        simp only [Bool.false_eq_true, if_false]
        rw [show ((low.toNat : Nat) : Int) = low from by omega]
        rw [addL_delL (t := (true != false)) ha (by omega) (fun c hc hne => ⟨fun _ => by have := dx c hc hne; omega, fun h => by simp at h⟩), addL_delL (t := (false != false)) hap (by omega) (fun c hc hne => ⟨fun h => by simp at h, fun _ => by have := dp c hc hne; omega⟩)]
      · refine ⟨2 * low.toNat, by omega, ⟨by omega, ⟨by have := hr.2.1; omega, by have := hr.2.1; simp [limAt] at this ⊢; omega⟩, by simp [limVar]; omega⟩, ?_⟩
        unfold colsL
        rw [if_neg (by decide), if_neg (by decide), if_neg (by decide), if_neg h40]
        simp only [Int.toNat_natCast]
        rw [show (2 * low.toNat) / 2 = low.toNat from by omega, show decide ((2 * low.toNat) % 2 = 0) = true from by simp, ← e1, ← e2]
        simp only [if_true]
        rw [show ((low.toNat : Nat) : Int) = low from by omega]
        rw [addL_delL (t := (true != true)) ha (by omega) (fun c hc hne => ⟨fun h => by simp at h, fun _ => by have := dx c hc hne; omega⟩), addL_delL (t := (false != true)) hap (by omega) (fun c hc hne => ⟨fun _ => by have := dp c hc hne; omega, fun h => by simp at h⟩)]
    · simp at hc
  have hY : Vd Y0 P0 := by
    have := colsL_vd (a := a.toNat) (v := v.toNat) (vw_vd (rows := rows) hv0) hr0.1 (by rw [vw_length]; have := hr0.2.1; omega) (by rw [vw_length]; have := hr0.2.2; omega) (by rw [hc0])
    rw [hc0] at this
    exact this
  obtain ⟨u, h1, h2, h3⟩ := key _ _ _ _ (vw_vd hv0) (by rw [vw_length]; exact hr0) hc0
  subst hX1 hO1
  rw [vw_length]
  refine ⟨u, h1, ?_⟩
  have := applyM_of (rows := rows) hvd (by rw [vw_length]; exact h2) (by rw [vw_vw hY.pX, vw_vw hY.pO]; exact h3)
  rw [this, vw_vw hv0.pX, vw_vw hv0.pO]

/-- i translations -/
def rotN (X : List Int) (i : Nat) : List Int := X.drop i ++ X.take i
theorem rotN_length (X : List Int) (i : Nat) : (rotN X i).length = X.length := by simp [rotN]; omega
theorem rotL_rotN (X : List Int) {i : Nat} (h : i < X.length) : rotL (rotN X i) = rotN X (i + 1) := by
  unfold rotL rotN
  have e1 : (X.drop i ++ X.take i).drop 1 = X.drop (i + 1) ++ X.take i := by
    rw [List.drop_append_of_le_length (by rw [List.length_drop]; omega), List.drop_drop]
  have e2 : (X.drop i ++ X.take i).take 1 = [X[i]] := by
    rw [List.drop_eq_getElem_cons h]; rfl
  rw [e1, e2, List.take_succ_eq_append_getElem h, List.append_assoc]
theorem rotN_vd {X O : List Int} (h : Vd X O) : ∀ i, i ≤ X.length → Vd (rotN X i) (rotN O i) := by
  intro i
  induction i with
  | zero => intro _; simpa [rotN] using h
  | succ i ih =>
    intro hi
    have := rotL_vd (ih (by omega))
    rw [rotL_rotN X (by omega), rotL_rotN O (by have := h.len; omega)] at this
    exact this
theorem rotN_full (X : List Int) : rotN X X.length = X := by simp [rotN]
/-- the i-th translation of a grid -/
def rotV (rows : Bool) (X : List Int) (i : Nat) : List Int := vw rows (rotN (vw rows X) i)
theorem rotV_step {X O : List Int} {rows : Bool} {a v : Int} (h : Vd X O) (hr : inRange 1 a v X.length) {i : Nat} (hi : i < X.length) : applyM (rotV rows X i) (rotV rows O i) 1 rows a v = (0, rotV rows X (i + 1), rotV rows O (i + 1)) := by
  have hlen := h.len
  have hv := rotN_vd (vw_vd (rows := rows) h) i (by rw [vw_length]; omega)
  have hl : (rotV rows X i).length = X.length := by unfold rotV; rw [vw_length, rotN_length, vw_length]
  refine applyM_of (rows := rows) (vw_vd hv) ?_ ?_
  · show inRange 1 a v (rotV rows X i).length
    rw [hl]; exact hr
  · unfold rotV
    rw [vw_vw hv.pX, vw_vw hv.pO]
    unfold colsL
    rw [if_pos rfl, rotL_rotN _ (by rw [vw_length]; exact hi), rotL_rotN _ (by rw [vw_length]; omega)]
theorem rotV_full {X : List Int} {rows : Bool} (h : Pm X) : rotV rows X X.length = X := by
  unfold rotV
  have := rotN_full (vw rows X)
  rw [vw_length] at this
  rw [this, vw_vw h]
theorem rotV_one {X O X1 O1 : List Int} {a v : Int} {rows : Bool} (h : applyM X O 1 rows a v = (0, X1, O1)) : X1 = rotV rows X 1 ∧ O1 = rotV rows O 1 := by
  obtain ⟨hv, hr, _⟩ := applyM_inv h
  have hz : ∀ l, Pm l → rotV rows l 0 = l := fun l hl => by unfold rotV rotN; simp [vw_vw hl]
  have := rotV_step (rows := rows) (a := a) (v := v) hv hr (i := 0) (by have := hv.two; omega)
  rw [hz X hv.pX, hz O hv.pO, h] at this
  injection this with _ h1
  injection h1 with h1 h2
  exact ⟨h1, h2⟩
end Go.Proofs.Ytgclngoeglopcaa
