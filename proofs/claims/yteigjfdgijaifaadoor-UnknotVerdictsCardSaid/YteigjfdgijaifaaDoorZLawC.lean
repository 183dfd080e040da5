/- Plain facts: the four moves of columns as operations on lists. -/
/- Plain facts: the moves of columns lead from valid grids to valid grids. -/
/- gridmove.Apply: what it returns, for all arguments. -/
/- What all laws of this seat call: slices.Equal, same, great, awake. -/
import Derived.Test.YteigjfdgijaifaaDoorZPl2
import Derived.Outline
namespace Go.Proofs.YteigjfdgijaifaaDoor
set_option linter.unusedVariables false
open Go.RowKit

def rotL (X : List Int) : List Int := X.drop 1 ++ X.take 1
def swapL (X : List Int) (a : Nat) : List Int := (X.set a (X.getD (a + 1) 0)).set (a + 1) (X.getD a 0)
def lowr (r : Int) (x : Int) : Int := if r < x then x - 1 else x
def upr (r : Int) (too : Bool) (x : Int) : Int := if r < x ∨ (x = r ∧ too = true) then x + 1 else x
def delL (X : List Int) (a : Nat) (r : Int) : List Int := (X.take a ++ X.drop (a + 1)).map (lowr r)
def addL (X : List Int) (a : Nat) (r : Int) (too : Bool) (y : Int) : List Int := (X.map (upr r too)).take a ++ y :: (X.map (upr r too)).drop a

theorem rotL_length (X : List Int) : (rotL X).length = X.length := by simp [rotL]; omega
theorem swapL_length (X : List Int) (a : Nat) : (swapL X a).length = X.length := by simp [swapL]
theorem delL_length (X : List Int) (a : Nat) (r : Int) (h : a < X.length) : (delL X a r).length = X.length - 1 := by simp [delL]; omega
theorem addL_length (X : List Int) (a : Nat) (r : Int) (t : Bool) (y : Int) (h : a ≤ X.length) : (addL X a r t y).length = X.length + 1 := by simp [addL]; omega

theorem rotL_get (X : List Int) (j : Nat) (hj : j < X.length) : (rotL X)[j]? = X[(j + 1) % X.length]? := by
  unfold rotL
  by_cases h : j + 1 < X.length
  · rw [Nat.mod_eq_of_lt h, List.getElem?_append_left (by simp; omega), List.getElem?_drop, Nat.add_comm]
  · have e : j + 1 = X.length := by omega
    rw [e, Nat.mod_self, List.getElem?_append_right (by simp; omega), List.length_drop, List.getElem?_take]
    rw [show j - (X.length - 1) = 0 from by omega]
    simp
theorem swapL_get (X : List Int) (a j : Nat) (ha : a + 1 < X.length) : (swapL X a)[j]? = X[if j = a then a + 1 else if j = a + 1 then a else j]? := by
  unfold swapL
  by_cases h1 : j = a + 1
  · subst h1
    rw [if_neg (by omega), if_pos rfl, List.getElem?_set_self (by simp; omega), List.getD_eq_getElem?_getD, List.getElem?_eq_getElem (by omega)]
    rfl
  · rw [List.getElem?_set_ne (by omega)]
    by_cases h2 : j = a
    · subst h2
      rw [if_pos rfl, List.getElem?_set_self (by omega), List.getD_eq_getElem?_getD, List.getElem?_eq_getElem (by omega)]
      rfl
    · rw [List.getElem?_set_ne (by omega), if_neg h2, if_neg h1]
theorem delL_get (X : List Int) (a j : Nat) (r : Int) (ha : a < X.length) : (delL X a r)[j]? = (X[if j < a then j else j + 1]?).map (lowr r) := by
  unfold delL
  rw [List.getElem?_map]
  congr 1
  by_cases h : j < a
  · rw [if_pos h, List.getElem?_append_left (by simp; omega), List.getElem?_take, if_pos h]
  · rw [if_neg h, List.getElem?_append_right (by simp; omega), List.getElem?_drop, List.length_take]
    congr 1
    omega
theorem addL_get (X : List Int) (a j : Nat) (r : Int) (t : Bool) (y : Int) (ha : a ≤ X.length) :
    (addL X a r t y)[j]? = if j = a then some y else (X[if j < a then j else j - 1]?).map (upr r t) := by
  unfold addL
  by_cases h : j < a
  · rw [if_neg (by omega), if_pos h, List.getElem?_append_left (by simp; omega), List.getElem?_take, if_pos h, List.getElem?_map]
  · rw [List.getElem?_append_right (by simp; omega), List.length_take, List.length_map]
    by_cases h2 : j = a
    · subst h2
      rw [if_pos rfl, show j - min j X.length = 0 from by omega]
      rfl
    · rw [if_neg h2, if_neg h, show j - min a X.length = (j - 1 - a) + 1 from by omega, List.getElem?_cons_succ, List.getElem?_drop, List.getElem?_map]
      rw [show a + (j - 1 - a) = j - 1 from by omega]

theorem mvRot_col (n k j : Nat) (hn : 2 ≤ n) (hk : k < n) (hj : j < n) : (((k : Int) + n - 1) % (n : Int) = (j : Int)) ↔ k = (j + 1) % n := by
  by_cases h : j + 1 < n
  · rw [Nat.mod_eq_of_lt h]
    by_cases h0 : k = 0
    · subst h0
      rw [show (((0 : Nat) : Int) + n - 1) = ((n - 1 : Nat) : Int) from by omega, ← Int.natCast_emod, Nat.mod_eq_of_lt (by omega)]
      omega
    · rw [show ((k : Int) + n - 1) = ((k - 1 + n : Nat) : Int) from by omega, ← Int.natCast_emod, Nat.add_mod_right, Nat.mod_eq_of_lt (by omega)]
      omega
  · have e : j + 1 = n := by omega
    rw [e, Nat.mod_self]
    by_cases h0 : k = 0
    · subst h0
      rw [show (((0 : Nat) : Int) + n - 1) = ((n - 1 : Nat) : Int) from by omega, ← Int.natCast_emod, Nat.mod_eq_of_lt (by omega)]
      omega
    · rw [show ((k : Int) + n - 1) = ((k - 1 + n : Nat) : Int) from by omega, ← Int.natCast_emod, Nat.add_mod_right, Nat.mod_eq_of_lt (by omega)]
      omega
theorem reloc_rot (X : List Int) (b : Bool) (hn : 2 ≤ X.length) : reloc (mvRot X.length) b X.length X = rotL X := by
  apply List.ext_getElem?
  intro j
  by_cases hj : j < X.length
  · rw [rotL_get X j hj]
    have hk : (j + 1) % X.length < X.length := Nat.mod_lt _ (by omega)
    rw [List.getElem?_eq_getElem hk]
    refine (reloc_get (mv := mvRot X.length) hk hj ?_ (fun k' h hne => ?_)).trans rfl
    · exact (mvRot_col _ _ _ hn hk hj).2 rfl
    · intro e
      exact hne ((mvRot_col _ _ _ hn h hj).1 e)
  · rw [List.getElem?_eq_none (by rw [reloc_length]; omega), List.getElem?_eq_none (by rw [rotL_length]; omega)]
theorem reloc_swap (X : List Int) (a : Nat) (b : Bool) (ha : a + 1 < X.length) : reloc (mvSwap a) b X.length X = swapL X a := by
  apply List.ext_getElem?
  intro j
  by_cases hj : j < X.length
  · rw [swapL_get X a j ha]
    have hk : (if j = a then a + 1 else if j = a + 1 then a else j) < X.length := by split <;> (try split) <;> omega
    rw [List.getElem?_eq_getElem hk]
    refine (reloc_get (mv := mvSwap a) hk hj ?_ (fun k' h hne => ?_)).trans rfl
    · simp only [mvSwap]
      repeat' split
      all_goals omega
    · intro e
      apply hne
      simp only [mvSwap] at e
      revert e
      repeat' split
      all_goals omega
  · rw [List.getElem?_eq_none (by rw [reloc_length]; omega), List.getElem?_eq_none (by rw [swapL_length]; omega)]
theorem reloc_del (X : List Int) (a : Nat) (low : Int) (b : Bool) (ha : a < X.length) : reloc (mvDel low a) b (X.length - 1) X = delL X a low := by
  apply List.ext_getElem?
  intro j
  by_cases hj : j < X.length - 1
  · rw [delL_get X a j low ha]
    have hk : (if j < a then j else j + 1) < X.length := by split <;> omega
    rw [List.getElem?_eq_getElem hk]
    refine (reloc_get (mv := mvDel low a) hk hj ?_ (fun k' h hne => ?_)).trans rfl
    · simp only [mvDel]
      repeat' split
      all_goals omega
    · intro e
      apply hne
      simp only [mvDel] at e
      revert e
      repeat' split
      all_goals omega
  · rw [List.getElem?_eq_none (by rw [reloc_length]; omega), List.getElem?_eq_none (by rw [delL_length _ _ _ ha]; omega)]
theorem reloc_add (X : List Int) (a : Nat) (r : Int) (st b : Bool) (y : Int) (ha : a ≤ X.length) : (reloc (mvAdd r st a) b (X.length + 1) X).set a y = addL X a r (b != st) y := by
  apply List.ext_getElem?
  intro j
  by_cases hj : j < X.length + 1
  · rw [addL_get X a j r _ y ha]
    by_cases h2 : j = a
    · subst h2
      rw [if_pos rfl, List.getElem?_set_self (by rw [reloc_length]; omega)]
    · rw [if_neg h2, List.getElem?_set_ne (by omega)]
      have hk : (if j < a then j else j - 1) < X.length := by split <;> omega
      rw [List.getElem?_eq_getElem hk]
      refine (reloc_get (mv := mvAdd r st a) hk hj ?_ (fun k' h hne => ?_)).trans ?_
      · simp only [mvAdd]
        repeat' split
        all_goals omega
      · intro e
        apply hne
        simp only [mvAdd] at e
        revert e
        repeat' split
        all_goals omega
      · simp [mvAdd, upr]
  · rw [List.getElem?_eq_none (by rw [List.length_set, reloc_length]; omega), List.getElem?_eq_none (by rw [addL_length _ _ _ _ _ ha]; omega)]
end Go.Proofs.YteigjfdgijaifaaDoor

namespace Go.Proofs.YteigjfdgijaifaaDoor
set_option linter.unusedVariables false
open Go.RowKit

/-- a move of columns, as operations on lists -/
def colsL (X O : List Int) (k : Int) (a v : Nat) : Int × List Int × List Int :=
  if k = 1 then (0, rotL X, rotL O)
  else if k = 2 then (if commB (X.getD a 0) (O.getD a 0) (X.getD (a + 1) 0) (O.getD (a + 1) 0) then (0, swapL X a, swapL O a) else (6, [], []))
  else if k = 3 then (if desOk X O a (X.getD a 0) (O.getD a 0) then (0, delL X a (minG (X.getD a 0) (O.getD a 0)), delL O a (minG (X.getD a 0) (O.getD a 0))) else (6, [], []))
  else if X.length = 40 then (5, [], [])
  else (0, addL X a (v / 2 : Nat) (true != decide (v % 2 = 0)) (if decide (v % 2 = 0) = true then (v / 2 : Nat) + 1 else (v / 2 : Nat)), addL O a (v / 2 : Nat) (false != decide (v % 2 = 0)) (if decide (v % 2 = 0) = true then (v / 2 : Nat) else (v / 2 : Nat) + 1))

theorem colsM_eq {X O : List Int} {k : Int} {a v : Nat} (hl : 2 ≤ X.length) (hlen : X.length = O.length) (hk : 1 ≤ k ∧ k ≤ 4) (ha : a < limAt k X.length) : colsM X O k a v = colsL X O k a v := by
  unfold colsM colsL
  by_cases k1 : k = 1
  · rw [if_pos k1, if_pos k1]
    unfold rotM
    rw [reloc_rot X true hl]
    have : reloc (mvRot X.length) false X.length O = rotL O := by rw [hlen]; exact reloc_rot O false (by omega)
    rw [this]
  rw [if_neg k1, if_neg k1]
  by_cases k2 : k = 2
  · rw [if_pos k2, if_pos k2]
    have ha' : a + 1 < X.length := by rw [k2] at ha; simp only [limAt] at ha; simp at ha; omega
    unfold swapM
    have : reloc (mvSwap a) false X.length O = swapL O a := by rw [hlen]; exact reloc_swap O a false (by omega)
    rw [reloc_swap X a true ha', this]
  rw [if_neg k2, if_neg k2]
  by_cases k3 : k = 3
  · rw [if_pos k3, if_pos k3]
    have ha' : a < X.length := by rw [k3] at ha; simp only [limAt] at ha; simpa using ha
    unfold desM
    have : reloc (mvDel (minG (X.getD a 0) (O.getD a 0)) a) false (X.length - 1) O = delL O a (minG (X.getD a 0) (O.getD a 0)) := by rw [hlen]; exact reloc_del O a _ false (by omega)
    rw [reloc_del X a _ true ha', this]
  rw [if_neg k3, if_neg k3]
  have k4 : k = 4 := by omega
  subst k4
  have ha' : a ≤ X.length := by simp only [limAt] at ha; simp at ha; omega
  unfold staM staX staO
  have : ∀ st y, (reloc (mvAdd (v / 2 : Nat) st a) false (X.length + 1) O).set a y = addL O a (v / 2 : Nat) (false != st) y := by intro st y; rw [hlen]; exact reloc_add O a _ st false y (by omega)
  rw [reloc_add X a _ _ true _ ha', this]

theorem Vd.of_get {X O : List Int} {n : Nat} (h2 : 2 ≤ n) (h40 : n ≤ 40) (lX : X.length = n) (lO : O.length = n) (rX : ∀ j (h : j < X.length), 0 ≤ X[j] ∧ X[j] < n) (rO : ∀ j (h : j < O.length), 0 ≤ O[j] ∧ O[j] < n)
    (iX : ∀ i j (hi : i < X.length) (hj : j < X.length), X[i] = X[j] → i = j) (iO : ∀ i j (hi : i < O.length) (hj : j < O.length), O[i] = O[j] → i = j) (hne : ∀ k (h : k < X.length) (h' : k < O.length), X[k] ≠ O[k]) : Vd X O := by
  refine ⟨by omega, by omega, by omega, Pm.mk_inj ?_ iX, Pm.mk_inj ?_ iO, hne⟩
  · intro x hx
    obtain ⟨j, hj, rfl⟩ := List.mem_iff_getElem.1 hx
    rw [lX]; exact rX j hj
  · intro x hx
    obtain ⟨j, hj, rfl⟩ := List.mem_iff_getElem.1 hx
    rw [lO]; exact rO j hj

theorem get_of {l : List Int} {j : Nat} (hj : j < l.length) {x : Int} (h : l[j]? = some x) : l[j] = x := (List.getElem?_eq_some_iff.1 h).2

theorem rotL_at (X : List Int) {j : Nat} (hj : j < (rotL X).length) : ∃ h : (j + 1) % X.length < X.length, (rotL X)[j] = X[(j + 1) % X.length] := by
  rw [rotL_length] at hj
  have hk : (j + 1) % X.length < X.length := Nat.mod_lt _ (by omega)
  exact ⟨hk, get_of _ ((rotL_get X j hj).trans (List.getElem?_eq_getElem hk))⟩
theorem mod_inj {i j n : Nat} (hi : i < n) (hj : j < n) (h : (i + 1) % n = (j + 1) % n) : i = j := by
  by_cases h1 : i + 1 < n
  · rw [Nat.mod_eq_of_lt h1] at h
    by_cases h2 : j + 1 < n
    · rw [Nat.mod_eq_of_lt h2] at h; omega
    · rw [show j + 1 = n from by omega, Nat.mod_self] at h; omega
  · rw [show i + 1 = n from by omega, Nat.mod_self] at h
    by_cases h2 : j + 1 < n
    · rw [Nat.mod_eq_of_lt h2] at h; omega
    · omega
theorem rotL_vd {X O : List Int} (h : Vd X O) : Vd (rotL X) (rotL O) := by
  refine Vd.of_get h.two h.most (rotL_length X) (by rw [rotL_length]; exact h.len.symm) (fun j hj => ?_) (fun j hj => ?_) (fun i j hi hj e => ?_) (fun i j hi hj e => ?_) (fun k hk hk' e => ?_)
  · obtain ⟨h1, e1⟩ := rotL_at X hj
    rw [e1]; exact h.pX.get h1
  · obtain ⟨h1, e1⟩ := rotL_at O hj
    rw [e1, h.len]; exact h.pO.get h1
  · obtain ⟨h1, e1⟩ := rotL_at X hi
    obtain ⟨h2, e2⟩ := rotL_at X hj
    rw [rotL_length] at hi hj
    exact mod_inj hi hj (h.pX.inj h1 h2 (by omega))
  · obtain ⟨h1, e1⟩ := rotL_at O hi
    obtain ⟨h2, e2⟩ := rotL_at O hj
    rw [rotL_length] at hi hj
    exact mod_inj hi hj (h.pO.inj h1 h2 (by omega))
  · obtain ⟨h1, e1⟩ := rotL_at X hk
    obtain ⟨h2, e2⟩ := rotL_at O hk'
    rw [e1, e2] at e
    have hl := h.len
    have e3 : (k + 1) % X.length = (k + 1) % O.length := by rw [hl]
    exact h.ne ((k + 1) % X.length) h1 (by omega) (by rw [e]; congr 1; exact e3.symm)

theorem swapL_at (X : List Int) {a j : Nat} (ha : a + 1 < X.length) (hj : j < (swapL X a).length) : ∃ c, ∃ h : c < X.length, (c = if j = a then a + 1 else if j = a + 1 then a else j) ∧ (swapL X a)[j] = X[c] := by
  rw [swapL_length] at hj
  have hk : (if j = a then a + 1 else if j = a + 1 then a else j) < X.length := by split <;> (try split) <;> omega
  exact ⟨_, hk, rfl, get_of _ ((swapL_get X a j ha).trans (List.getElem?_eq_getElem hk))⟩
theorem swapL_vd {X O : List Int} {a : Nat} (h : Vd X O) (ha : a + 1 < X.length) : Vd (swapL X a) (swapL O a) := by
  have hao : a + 1 < O.length := by have := h.len; omega
  refine Vd.of_get h.two h.most (swapL_length X a) (by rw [swapL_length]; exact h.len.symm) (fun j hj => ?_) (fun j hj => ?_) (fun i j hi hj e => ?_) (fun i j hi hj e => ?_) (fun k hk hk' e => ?_)
  · obtain ⟨c, h1, _, e1⟩ := swapL_at X ha hj
    rw [e1]; exact h.pX.get h1
  · obtain ⟨c, h1, _, e1⟩ := swapL_at O hao hj
    rw [e1, h.len]; exact h.pO.get h1
  · obtain ⟨c, h1, q1, e1⟩ := swapL_at X ha hi
    obtain ⟨d, h2, q2, e2⟩ := swapL_at X ha hj
    have := h.pX.inj h1 h2 (by omega)
    subst this
    revert q1 q2
    repeat' split
    all_goals omega
  · obtain ⟨c, h1, q1, e1⟩ := swapL_at O hao hi
    obtain ⟨d, h2, q2, e2⟩ := swapL_at O hao hj
    have := h.pO.inj h1 h2 (by omega)
    subst this
    revert q1 q2
    repeat' split
    all_goals omega
  · obtain ⟨c, h1, q1, e1⟩ := swapL_at X ha hk
    obtain ⟨d, h2, q2, e2⟩ := swapL_at O hao hk'
    have : c = d := by rw [q1, q2]
    subst this
    exact h.ne c h1 h2 (by omega)

theorem delL_at (X : List Int) {a j : Nat} {r : Int} (ha : a < X.length) (hj : j < (delL X a r).length) : ∃ c, ∃ h : c < X.length, c ≠ a ∧ (c = if j < a then j else j + 1) ∧ (delL X a r)[j] = lowr r X[c] := by
  rw [delL_length _ _ _ ha] at hj
  have hk : (if j < a then j else j + 1) < X.length := by split <;> omega
  refine ⟨_, hk, by split <;> omega, rfl, get_of _ ((delL_get X a j r ha).trans ?_)⟩
  rw [List.getElem?_eq_getElem hk]; rfl
theorem desAll_spec (a : Nat) (x o : Int) : ∀ (X O : List Int) (i : Nat), X.length = O.length → desAll a x o i X O = true → ∀ k (h : k < X.length) (h' : k < O.length), i + k ≠ a → ¬ (O[k] = x ∧ X[k] = o) := by
  intro X
  induction X with
  | nil => intro O i _ _ k h; simp at h
  | cons p ps ih =>
    intro O i hl hd k h h' hne hh
    cases O with
    | nil => simp at hl
    | cons q qs =>
      rw [desAll, Bool.and_eq_true] at hd
      cases k with
      | zero =>
        simp only [List.getElem_cons_zero] at hh
        have := hd.1
        simp [hh.1, hh.2] at this
        omega
      | succ k =>
        exact ih qs (i + 1) (by simpa using hl) hd.2 k (by simpa using h) (by simpa using h') (by omega) (by simpa using hh)
theorem delL_vd {X O : List Int} {a : Nat} (h : Vd X O) (ha : a < X.length) (hd : desOk X O a (X.getD a 0) (O.getD a 0) = true) :
    Vd (delL X a (minG (X.getD a 0) (O.getD a 0))) (delL O a (minG (X.getD a 0) (O.getD a 0))) := by
  have hao : a < O.length := by have := h.len; omega
  have gx : X.getD a 0 = X[a] := by simp [List.getD_eq_getElem?_getD, ha]
  have go : O.getD a 0 = O[a] := by simp [List.getD_eq_getElem?_getD, hao]
  rw [gx, go] at hd ⊢
  simp only [desOk, Bool.and_eq_true, decide_eq_true_eq] at hd
  obtain ⟨⟨h3, hm⟩, hall⟩ := hd
  have hsp := desAll_spec a X[a] O[a] X O 0 h.len hall
  have bx := h.pX.get ha
  have bo := h.pO.get hao
  have hl := h.len
  have hlow : (minG X[a] O[a] = X[a] ∧ O[a] = X[a] + 1) ∨ (minG X[a] O[a] = O[a] ∧ X[a] = O[a] + 1) := by
    unfold minG maxG at *
    revert hm
    repeat' split
    all_goals omega
  generalize minG X[a] O[a] = low at *
  clear hm
  refine Vd.of_get (n := X.length - 1) (by omega) (by have := h.most; omega) (delL_length _ _ _ ha) (by rw [delL_length _ _ _ hao]; omega) (fun j hj => ?_) (fun j hj => ?_) (fun i j hi hj e => ?_) (fun i j hi hj e => ?_) (fun k hk hk' e => ?_)
  · obtain ⟨c, h1, h2, _, e1⟩ := delL_at X ha hj
    have := h.pX.get h1
    have hne : X[c] ≠ X[a] := fun e => h2 (h.pX.inj h1 ha e)
    rw [e1]; unfold lowr; split <;> omega
  · obtain ⟨c, h1, h2, _, e1⟩ := delL_at O hao hj
    have := h.pO.get h1
    have hne : O[c] ≠ O[a] := fun e => h2 (h.pO.inj h1 hao e)
    rw [e1]; unfold lowr; split <;> omega
  · obtain ⟨c, h1, h2, q1, e1⟩ := delL_at X ha hi
    obtain ⟨d, h3, h4, q2, e2⟩ := delL_at X ha hj
    have n1 : X[c] ≠ X[a] := fun e => h2 (h.pX.inj h1 ha e)
    have n2 : X[d] ≠ X[a] := fun e => h4 (h.pX.inj h3 ha e)
    have hcd : X[c] = X[d] := by
      rw [e1, e2] at e; unfold lowr at e
      revert e
      repeat' split
      all_goals omega
    have := h.pX.inj h1 h3 hcd
    subst this
    revert q1 q2
    repeat' split
    all_goals omega
  · obtain ⟨c, h1, h2, q1, e1⟩ := delL_at O hao hi
    obtain ⟨d, h3, h4, q2, e2⟩ := delL_at O hao hj
    have n1 : O[c] ≠ O[a] := fun e => h2 (h.pO.inj h1 hao e)
    have n2 : O[d] ≠ O[a] := fun e => h4 (h.pO.inj h3 hao e)
    have hcd : O[c] = O[d] := by
      rw [e1, e2] at e; unfold lowr at e
      revert e
      repeat' split
      all_goals omega
    have := h.pO.inj h1 h3 hcd
    subst this
    revert q1 q2
    repeat' split
    all_goals omega
  · obtain ⟨c, h1, h2, q1, e1⟩ := delL_at X ha hk
    obtain ⟨d, h3, h4, q2, e2⟩ := delL_at O hao hk'
    have : c = d := by rw [q1, q2]
    subst this
    have n1 : X[c] ≠ X[a] := fun e => h2 (h.pX.inj h1 ha e)
    have n2 : O[c] ≠ O[a] := fun e => h4 (h.pO.inj h3 hao e)
    have n3 := h.ne c h1 h3
    have n4 := hsp c h1 h3 (by omega)
    rw [e1, e2] at e; unfold lowr at e
    apply n4
    revert e
    repeat' split
    all_goals omega

theorem addL_at (X : List Int) {a j : Nat} {r y : Int} {t : Bool} (ha : a ≤ X.length) (hj : j < (addL X a r t y).length) :
    (j = a ∧ (addL X a r t y)[j] = y) ∨ (j ≠ a ∧ ∃ c, ∃ h : c < X.length, (c = if j < a then j else j - 1) ∧ (addL X a r t y)[j] = upr r t X[c]) := by
  have hg := addL_get X a j r t y ha
  by_cases e : j = a
  · rw [if_pos e] at hg
    exact .inl ⟨e, get_of hj hg⟩
  · rw [if_neg e] at hg
    rw [addL_length _ _ _ _ _ ha] at hj
    have hk : (if j < a then j else j - 1) < X.length := by split <;> omega
    refine .inr ⟨e, _, hk, rfl, get_of _ (hg.trans ?_)⟩
    rw [List.getElem?_eq_getElem hk]; rfl
theorem addL_pm_aux {X : List Int} {a : Nat} {r y : Int} {t : Bool} (h : Pm X) (ha : a ≤ X.length) (hr : 0 ≤ r ∧ r < X.length) (hy : y = if t = true then r else r + 1) :
    (∀ j (h : j < (addL X a r t y).length), 0 ≤ (addL X a r t y)[j] ∧ (addL X a r t y)[j] < (X.length + 1 : Nat)) ∧ (∀ i j (hi : i < (addL X a r t y).length) (hj : j < (addL X a r t y).length), (addL X a r t y)[i] = (addL X a r t y)[j] → i = j) := by
  have hny : ∀ x, upr r t x ≠ y := by
    intro x; rw [hy]; unfold upr
    cases t <;> simp <;> split <;> omega
  refine ⟨fun j hj => ?_, fun i j hi hj e => ?_⟩
  · rcases addL_at X ha hj with ⟨_, e1⟩ | ⟨_, c, h1, _, e1⟩
    · rw [e1, hy]; split <;> omega
    · have := h.get h1
      rw [e1]; unfold upr; split <;> omega
  · rcases addL_at X ha hi with ⟨q1, e1⟩ | ⟨q1, c, h1, p1, e1⟩
    · rcases addL_at X ha hj with ⟨q2, e2⟩ | ⟨q2, d, h2, p2, e2⟩
      · omega
      · rw [e1, e2] at e; exact absurd e.symm (hny _)
    · rcases addL_at X ha hj with ⟨q2, e2⟩ | ⟨q2, d, h2, p2, e2⟩
      · rw [e1, e2] at e; exact absurd e (hny _)
      · have hcd : X[c] = X[d] := by
          rw [e1, e2] at e; unfold upr at e
          revert e
          cases t <;> simp <;> repeat' split
          all_goals omega
        have := h.inj h1 h2 hcd
        subst this
        revert p1 p2
        repeat' split
        all_goals omega
theorem addL_vd {X O : List Int} {a r : Nat} {st : Bool} (h : Vd X O) (h40 : X.length ≠ 40) (ha : a ≤ X.length) (hr : r < X.length) :
    Vd (addL X a r (true != st) (if st = true then (r : Int) + 1 else r)) (addL O a r (false != st) (if st = true then (r : Int) else r + 1)) := by
  have hl := h.len
  have hx := addL_pm_aux (a := a) (r := r) (t := (true != st)) (y := if st = true then (r : Int) + 1 else r) h.pX ha (by omega) (by cases st <;> rfl)
  have ho := addL_pm_aux (a := a) (r := r) (t := (false != st)) (y := if st = true then (r : Int) else r + 1) h.pO (by omega) (by omega) (by cases st <;> rfl)
  refine Vd.of_get (n := X.length + 1) (by omega) (by have := h.most; omega) (addL_length _ _ _ _ _ ha) (by rw [addL_length _ _ _ _ _ (by omega)]; omega) hx.1 (by rw [hl]; exact ho.1) hx.2 ho.2 (fun k hk hk' e => ?_)
  rcases addL_at X ha hk with ⟨q1, e1⟩ | ⟨q1, c, h1, p1, e1⟩
  · rcases addL_at O (by omega) hk' with ⟨q2, e2⟩ | ⟨q2, d, h2, p2, e2⟩
    · rw [e1, e2] at e
      revert e
      split <;> omega
    · omega
  · rcases addL_at O (by omega) hk' with ⟨q2, e2⟩ | ⟨q2, d, h2, p2, e2⟩
    · omega
    · have : c = d := by rw [p1, p2]
      subst this
      have hne := h.ne c h1 h2
      rw [e1, e2] at e; unfold upr at e
      revert e
      cases st <;> simp <;> repeat' split
      all_goals omega

theorem colsL_vd {X O : List Int} {k : Int} {a v : Nat} (h : Vd X O) (hk : 1 ≤ k ∧ k ≤ 4) (ha : a < limAt k X.length) (hv : v < limVar k X.length) (h0 : (colsL X O k a v).1 = 0) : Vd (colsL X O k a v).2.1 (colsL X O k a v).2.2 := by
  unfold colsL at *
  by_cases k1 : k = 1
  · simp only [if_pos k1]
    exact rotL_vd h
  simp only [if_neg k1] at h0 ⊢
  by_cases k2 : k = 2
  · simp only [if_pos k2] at h0 ⊢
    have ha' : a + 1 < X.length := by rw [k2] at ha; simp only [limAt] at ha; simp at ha; omega
    split at h0
    · rename_i hc
      simp only [if_pos hc]
      exact swapL_vd h ha'
    · simp at h0
  simp only [if_neg k2] at h0 ⊢
  by_cases k3 : k = 3
  · simp only [if_pos k3] at h0 ⊢
    have ha' : a < X.length := by rw [k3] at ha; simp only [limAt] at ha; simpa using ha
    split at h0
    · rename_i hc
      simp only [if_pos hc]
      exact delL_vd h ha' hc
    · simp at h0
  simp only [if_neg k3] at h0 ⊢
  have k4 : k = 4 := by omega
  subst k4
  have ha' : a ≤ X.length := by simp only [limAt] at ha; simp at ha; omega
  have hv' : v < 2 * X.length := by simp only [limVar] at hv; simp at hv; omega
  split at h0
  · simp at h0
  · rename_i hc
    simp only [if_neg hc]
    exact addL_vd h hc ha' (by omega)
end Go.Proofs.YteigjfdgijaifaaDoor

namespace Go.Proofs.YteigjfdgijaifaaDoor
set_option linter.unusedVariables false
open Go.RowKit

theorem apply_any (vx vo : Value) (X O : List Int) (k : Int) (rows : Bool) (a v : Int) (w : World) (hX : Ints w vx X) (hO : Ints w vo O) (hl : X.length ≤ 1000) (hl' : O.length ≤ 1000) :
    Calls Tryd.prog 11 #[.agg #[vx, vo], .agg #[.int .i64 k, .bool rows, .int .i64 a, .int .i64 v]] w (GRes w.heap.size w (applyM X O k rows a v)) := by
  cases hv : validB X O with
  | false => exact apply_invalid vx vo X O k rows a v w hX hO hl hl' hv
  | true =>
    by_cases hk : limAt k X.length = 0
    · exact apply_kind vx vo X O k rows a v w hX hO hl hl' hv hk
    · by_cases hr : a < 0 ∨ limAt k X.length ≤ a ∨ v < 0 ∨ limVar k X.length ≤ v
      · exact apply_range vx vo X O k rows a v w hX hO hl hl' hv hk hr
      · cases rows with
        | false => exact apply_cols vx vo X O k false a v w hX hO hl hl' hv hk hr
        | true => exact apply_rows vx vo X O k true a v w hX hO hl hl' hv hk hr
end Go.Proofs.YteigjfdgijaifaaDoor

namespace Go.Proofs.YteigjfdgijaifaaDoor
open Go.RowKit
set_option linter.unusedVariables false

theorem list_eq_drop (X Y : List Int) (k : Nat) (h : k < X.length) (h' : k < Y.length) : (X.drop k = Y.drop k) ↔ (X[k] = Y[k] ∧ X.drop (k + 1) = Y.drop (k + 1)) := by
  rw [List.drop_eq_getElem_cons h, List.drop_eq_getElem_cons h', List.cons.injEq]

def greatB (n m : Nat) : Bool := decide ((8 < n ∧ n ≠ 40) ∨ 50 < n ∨ 50 < m)
/-- what Apply returns, said alike for errors and for grids -/
def GRd (B : Nat) (w : World) (r : Int × List Int × List Int) (e : Ending) (w' : World) : Prop :=
  Below B w w' ∧ ∃ A0 n0 c0 A1 n1 c1, e = .returned (.tuple #[.agg #[.slice A0 n0 c0, .slice A1 n1 c1], .int .i64 r.1]) ∧ Ints w' (.slice A0 n0 c0) r.2.1 ∧ Ints w' (.slice A1 n1 c1) r.2.2

theorem colsM_err (X O : List Int) (k : Int) (a v : Nat) (h : (colsM X O k a v).1 ≠ 0) : (colsM X O k a v).2 = ([], []) := by
  unfold colsM swapM desM staM rotM at *
  revert h
  repeat' split
  all_goals simp
theorem applyM_err (X O : List Int) (k : Int) (rows : Bool) (a v : Int) (h : (applyM X O k rows a v).1 ≠ 0) : (applyM X O k rows a v).2 = ([], []) := by
  unfold applyM at *
  split
  · rfl
  split
  · rfl
  split
  · rfl
  rename_i h1 h2 h3
  rw [if_neg h1, if_neg h2, if_neg h3] at h
  split
  · rename_i h4
    rw [if_pos h4] at h
    exact colsM_err _ _ _ _ _ h
  · rename_i h4
    rw [if_neg h4] at h
    split
    · rename_i h5
      rw [if_pos h5] at h
      simp at h
    · rfl
theorem apply_rd (vx vo : Value) (X O : List Int) (k : Int) (rows : Bool) (a v : Int) (w : World) (hX : Ints w vx X) (hO : Ints w vo O) (hl : X.length ≤ 1000) (hl' : O.length ≤ 1000) :
    Calls Tryd.prog 11 #[.agg #[vx, vo], .agg #[.int .i64 k, .bool rows, .int .i64 a, .int .i64 v]] w (GRd w.heap.size w (applyM X O k rows a v)) := by
  refine (apply_any vx vo X O k rows a v w hX hO hl hl').mono ?_
  rintro e w' ⟨hb, u, rfl, h⟩
  refine ⟨hb, ?_⟩
  by_cases h0 : (applyM X O k rows a v).1 = 0
  · rw [if_pos h0] at h
    obtain ⟨gx, go, rfl, _, _, _, h1, h2⟩ := h
    exact ⟨_, _, _, _, _, _, rfl, Ints.of_arr h1, Ints.of_arr h2⟩
  · rw [if_neg h0] at h
    subst h
    rw [applyM_err _ _ _ _ _ _ h0]
    exact ⟨_, _, _, _, _, _, rfl, Ints.nil _, Ints.nil _⟩
end Go.Proofs.YteigjfdgijaifaaDoor
