/- Plain facts: the moves of columns lead from valid grids to valid grids. -/
/- Plain facts: Apply on valid grids, columns and rows alike; moves can be undone. -/
/- turned: the law's own transposition. -/
/- grid.translate. -/
/- grid.Shift. -/
/- Words: a slice of moves that reads as a list; slices that survive writes to some blocks. -/
/- Cycles of a permutation: how many there are, and maps that keep them. -/
/- The number of components is kept by the moves. -/
/- Least translations: plain facts. -/
/- The search of package unknot as a plain function: its states, its run, runs with other budgets (plain). -/
import Derived.Test.YteliflcbegcdlaaGreatDoorWwFresh
import Derived.Test.YteliflcbegcdlaaGreatDoorWwBase2
import Derived.Deep.RegionHeld3
import Derived.Deep.DeepCutAuto
import Derived.Outline
namespace Go.Proofs.YteliflcbegcdlaaGreatDoor
set_option linter.unusedVariables false
open Go.RowKit
/-- a move of columns, as operations on lists -/
def colsL (X O : List Int) (k : Int) (a v : Nat) : Int × List Int × List Int :=
  if k = 1 then (0, rotL X, rotL O)
  else if k = 2 then (if commB (X.getD a 0) (O.getD a 0) (X.getD (a + 1) 0) (O.getD (a + 1) 0) then (0, swapL X a, swapL O a) else (6, [], []))
  else if k = 3 then (if desOk X O a (X.getD a 0) (O.getD a 0) then (0, delL X a (minG (X.getD a 0) (O.getD a 0)), delL O a (minG (X.getD a 0) (O.getD a 0))) else (6, [], []))
  else if X.length = 40 then (5, [], [])
  else (0, addL X a (v / 2 : Nat) (true != decide (v % 2 = 0)) (if decide (v % 2 = 0) = true then (v / 2 : Nat) + 1 else (v / 2 : Nat)), addL O a (v / 2 : Nat) (false != decide (v % 2 = 0)) (if decide (v % 2 = 0) = true then (v / 2 : Nat) else (v / 2 : Nat) + 1))
theorem colsM_eq {X O : List Int} {k : Int} {a v : Nat} (hl : 2 ≤ X.length) (hlen : X.length = O.length) (hk : 1 ≤ k ∧ k ≤ 4) (ha : a < limAt k X.length) : colsM X O k a v = colsL X O k a v := by
  unfold colsM colsL
  by_cases k1 : k = 1
  · rw [if_pos k1, if_pos k1]
    unfold rotM
    rw [reloc_rot X true hl]
    have : reloc (mvRot X.length) false X.length O = rotL O := by rw [hlen]; exact reloc_rot O false (by omega)
    rw [this]
  rw [if_neg k1, if_neg k1]
  by_cases k2 : k = 2
  · rw [if_pos k2, if_pos k2]
    have ha' : a + 1 < X.length := by rw [k2] at ha; simp only [limAt] at ha; simp at ha; omega
    unfold swapM
    have : reloc (mvSwap a) false X.length O = swapL O a := by rw [hlen]; exact reloc_swap O a false (by omega)
    rw [reloc_swap X a true ha', this]
  rw [if_neg k2, if_neg k2]
  by_cases k3 : k = 3
  · rw [if_pos k3, if_pos k3]
    have ha' : a < X.length := by rw [k3] at ha; simp only [limAt] at ha; simpa using ha
    unfold desM
    have : reloc (mvDel (minG (X.getD a 0) (O.getD a 0)) a) false (X.length - 1) O = delL O a (minG (X.getD a 0) (O.getD a 0)) := by rw [hlen]; exact reloc_del O a _ false (by omega)
    rw [reloc_del X a _ true ha', this]
  rw [if_neg k3, if_neg k3]
  have k4 : k = 4 := by omega
  subst k4
  have ha' : a ≤ X.length := by simp only [limAt] at ha; simp at ha; omega
  unfold staM staX staO
  have : ∀ st y, (reloc (mvAdd (v / 2 : Nat) st a) false (X.length + 1) O).set a y = addL O a (v / 2 : Nat) (false != st) y := by intro st y; rw [hlen]; exact reloc_add O a _ st false y (by omega)
  rw [reloc_add X a _ _ true _ ha', this]
theorem Vd.of_get {X O : List Int} {n : Nat} (h2 : 2 ≤ n) (h40 : n ≤ 40) (lX : X.length = n) (lO : O.length = n) (rX : ∀ j (h : j < X.length), 0 ≤ X[j] ∧ X[j] < n) (rO : ∀ j (h : j < O.length), 0 ≤ O[j] ∧ O[j] < n)
    (iX : ∀ i j (hi : i < X.length) (hj : j < X.length), X[i] = X[j] → i = j) (iO : ∀ i j (hi : i < O.length) (hj : j < O.length), O[i] = O[j] → i = j) (hne : ∀ k (h : k < X.length) (h' : k < O.length), X[k] ≠ O[k]) : Vd X O := by
  refine ⟨by omega, by omega, by omega, Pm.mk_inj ?_ iX, Pm.mk_inj ?_ iO, hne⟩
  · intro x hx
    obtain ⟨j, hj, rfl⟩ := List.mem_iff_getElem.1 hx
    rw [lX]; exact rX j hj
  · intro x hx
    obtain ⟨j, hj, rfl⟩ := List.mem_iff_getElem.1 hx
    rw [lO]; exact rO j hj
theorem get_of {l : List Int} {j : Nat} (hj : j < l.length) {x : Int} (h : l[j]? = some x) : l[j] = x := (List.getElem?_eq_some_iff.1 h).2
theorem rotL_at (X : List Int) {j : Nat} (hj : j < (rotL X).length) : ∃ h : (j + 1) % X.length < X.length, (rotL X)[j] = X[(j + 1) % X.length] := by
  rw [rotL_length] at hj
  have hk : (j + 1) % X.length < X.length := Nat.mod_lt _ (by omega)
  exact ⟨hk, get_of _ ((rotL_get X j hj).trans (List.getElem?_eq_getElem hk))⟩
theorem mod_inj {i j n : Nat} (hi : i < n) (hj : j < n) (h : (i + 1) % n = (j + 1) % n) : i = j := by
  by_cases h1 : i + 1 < n
  · rw [Nat.mod_eq_of_lt h1] at h
    by_cases h2 : j + 1 < n
    · rw [Nat.mod_eq_of_lt h2] at h; omega
    · rw [show j + 1 = n from by omega, Nat.mod_self] at h; omega
  · rw [show i + 1 = n from by omega, Nat.mod_self] at h
    by_cases h2 : j + 1 < n
    · rw [Nat.mod_eq_of_lt h2] at h; omega
    · omega
theorem rotL_vd {X O : List Int} (h : Vd X O) : Vd (rotL X) (rotL O) := by
  refine Vd.of_get h.two h.most (rotL_length X) (by rw [rotL_length]; exact h.len.symm) (fun j hj => ?_) (fun j hj => ?_) (fun i j hi hj e => ?_) (fun i j hi hj e => ?_) (fun k hk hk' e => ?_)
  · obtain ⟨h1, e1⟩ := rotL_at X hj
    rw [e1]; exact h.pX.get h1
  · obtain ⟨h1, e1⟩ := rotL_at O hj
    rw [e1, h.len]; exact h.pO.get h1
  · obtain ⟨h1, e1⟩ := rotL_at X hi
    obtain ⟨h2, e2⟩ := rotL_at X hj
    rw [rotL_length] at hi hj
    exact mod_inj hi hj (h.pX.inj h1 h2 (by omega))
  · obtain ⟨h1, e1⟩ := rotL_at O hi
    obtain ⟨h2, e2⟩ := rotL_at O hj
    rw [rotL_length] at hi hj
    exact mod_inj hi hj (h.pO.inj h1 h2 (by omega))
  · obtain ⟨h1, e1⟩ := rotL_at X hk
    obtain ⟨h2, e2⟩ := rotL_at O hk'
    rw [e1, e2] at e
    have hl := h.len
    have e3 : (k + 1) % X.length = (k + 1) % O.length := by rw [hl]
    exact h.ne ((k + 1) % X.length) h1 (by omega) (by rw [e]; congr 1; exact e3.symm)
theorem swapL_at (X : List Int) {a j : Nat} (ha : a + 1 < X.length) (hj : j < (swapL X a).length) : ∃ c, ∃ h : c < X.length, (c = if j = a then a + 1 else if j = a + 1 then a else j) ∧ (swapL X a)[j] = X[c] := by
  rw [swapL_length] at hj
  have hk : (if j = a then a + 1 else if j = a + 1 then a else j) < X.length := by split <;> (try split) <;> omega
  exact ⟨_, hk, rfl, get_of _ ((swapL_get X a j ha).trans (List.getElem?_eq_getElem hk))⟩
theorem swapL_vd {X O : List Int} {a : Nat} (h : Vd X O) (ha : a + 1 < X.length) : Vd (swapL X a) (swapL O a) := by
  have hao : a + 1 < O.length := by have := h.len; omega
  refine Vd.of_get h.two h.most (swapL_length X a) (by rw [swapL_length]; exact h.len.symm) (fun j hj => ?_) (fun j hj => ?_) (fun i j hi hj e => ?_) (fun i j hi hj e => ?_) (fun k hk hk' e => ?_)
  · obtain ⟨c, h1, _, e1⟩ := swapL_at X ha hj
    rw [e1]; exact h.pX.get h1
  · obtain ⟨c, h1, _, e1⟩ := swapL_at O hao hj
    rw [e1, h.len]; exact h.pO.get h1
  · obtain ⟨c, h1, q1, e1⟩ := swapL_at X ha hi
    obtain ⟨d, h2, q2, e2⟩ := swapL_at X ha hj
    have := h.pX.inj h1 h2 (by omega)
    subst this
    revert q1 q2
    repeat' split
    all_goals omega
  · obtain ⟨c, h1, q1, e1⟩ := swapL_at O hao hi
    obtain ⟨d, h2, q2, e2⟩ := swapL_at O hao hj
    have := h.pO.inj h1 h2 (by omega)
    subst this
    revert q1 q2
    repeat' split
    all_goals omega
  · obtain ⟨c, h1, q1, e1⟩ := swapL_at X ha hk
    obtain ⟨d, h2, q2, e2⟩ := swapL_at O hao hk'
    have : c = d := by rw [q1, q2]
    subst this
    exact h.ne c h1 h2 (by omega)
theorem delL_at (X : List Int) {a j : Nat} {r : Int} (ha : a < X.length) (hj : j < (delL X a r).length) : ∃ c, ∃ h : c < X.length, c ≠ a ∧ (c = if j < a then j else j + 1) ∧ (delL X a r)[j] = lowr r X[c] := by
  rw [delL_length _ _ _ ha] at hj
  have hk : (if j < a then j else j + 1) < X.length := by split <;> omega
  refine ⟨_, hk, by split <;> omega, rfl, get_of _ ((delL_get X a j r ha).trans ?_)⟩
  rw [List.getElem?_eq_getElem hk]; rfl
theorem desAll_spec (a : Nat) (x o : Int) : ∀ (X O : List Int) (i : Nat), X.length = O.length → desAll a x o i X O = true → ∀ k (h : k < X.length) (h' : k < O.length), i + k ≠ a → ¬ (O[k] = x ∧ X[k] = o) := by
  intro X
  induction X with
  | nil => intro O i _ _ k h; simp at h
  | cons p ps ih =>
    intro O i hl hd k h h' hne hh
    cases O with
    | nil => simp at hl
    | cons q qs =>
      rw [desAll, Bool.and_eq_true] at hd
      cases k with
      | zero =>
        simp only [List.getElem_cons_zero] at hh
        have := hd.1
        simp [hh.1, hh.2] at this
        omega
      | succ k =>
        exact ih qs (i + 1) (by simpa using hl) hd.2 k (by simpa using h) (by simpa using h') (by omega) (by simpa using hh)
theorem delL_vd {X O : List Int} {a : Nat} (h : Vd X O) (ha : a < X.length) (hd : desOk X O a (X.getD a 0) (O.getD a 0) = true) :
    Vd (delL X a (minG (X.getD a 0) (O.getD a 0))) (delL O a (minG (X.getD a 0) (O.getD a 0))) := by
  have hao : a < O.length := by have := h.len; omega
  have gx : X.getD a 0 = X[a] := by simp [List.getD_eq_getElem?_getD, ha]
  have go : O.getD a 0 = O[a] := by simp [List.getD_eq_getElem?_getD, hao]
  rw [gx, go] at hd ⊢
  simp only [desOk, Bool.and_eq_true, decide_eq_true_eq] at hd
  obtain ⟨⟨h3, hm⟩, hall⟩ := hd
  have hsp := desAll_spec a X[a] O[a] X O 0 h.len hall
  have bx := h.pX.get ha
  have bo := h.pO.get hao
  have hl := h.len
  have hlow : (minG X[a] O[a] = X[a] ∧ O[a] = X[a] + 1) ∨ (minG X[a] O[a] = O[a] ∧ X[a] = O[a] + 1) := by
    unfold minG maxG at *
    revert hm
    repeat' split
    all_goals omega
  generalize minG X[a] O[a] = low at *
  clear hm
  refine Vd.of_get (n := X.length - 1) (by omega) (by have := h.most; omega) (delL_length _ _ _ ha) (by rw [delL_length _ _ _ hao]; omega) (fun j hj => ?_) (fun j hj => ?_) (fun i j hi hj e => ?_) (fun i j hi hj e => ?_) (fun k hk hk' e => ?_)
  · obtain ⟨c, h1, h2, _, e1⟩ := delL_at X ha hj
    have := h.pX.get h1
    have hne : X[c] ≠ X[a] := fun e => h2 (h.pX.inj h1 ha e)
    rw [e1]; unfold lowr; split <;> omega
  · obtain ⟨c, h1, h2, _, e1⟩ := delL_at O hao hj
    have := h.pO.get h1
    have hne : O[c] ≠ O[a] := fun e => h2 (h.pO.inj h1 hao e)
    rw [e1]; unfold lowr; split <;> omega
  · obtain ⟨c, h1, h2, q1, e1⟩ := delL_at X ha hi
    obtain ⟨d, h3, h4, q2, e2⟩ := delL_at X ha hj
    have n1 : X[c] ≠ X[a] := fun e => h2 (h.pX.inj h1 ha e)
    have n2 : X[d] ≠ X[a] := fun e => h4 (h.pX.inj h3 ha e)
    have hcd : X[c] = X[d] := by
      rw [e1, e2] at e; unfold lowr at e
      revert e
      repeat' split
      all_goals omega
    have := h.pX.inj h1 h3 hcd
    subst this
    revert q1 q2
    repeat' split
    all_goals omega
  · obtain ⟨c, h1, h2, q1, e1⟩ := delL_at O hao hi
    obtain ⟨d, h3, h4, q2, e2⟩ := delL_at O hao hj
    have n1 : O[c] ≠ O[a] := fun e => h2 (h.pO.inj h1 hao e)
    have n2 : O[d] ≠ O[a] := fun e => h4 (h.pO.inj h3 hao e)
    have hcd : O[c] = O[d] := by
      rw [e1, e2] at e; unfold lowr at e
      revert e
      repeat' split
      all_goals omega
    have := h.pO.inj h1 h3 hcd
    subst this
    revert q1 q2
    repeat' split
    all_goals omega
  · obtain ⟨c, h1, h2, q1, e1⟩ := delL_at X ha hk
    obtain ⟨d, h3, h4, q2, e2⟩ := delL_at O hao hk'
    have : c = d := by rw [q1, q2]
    subst this
    have n1 : X[c] ≠ X[a] := fun e => h2 (h.pX.inj h1 ha e)
    have n2 : O[c] ≠ O[a] := fun e => h4 (h.pO.inj h3 hao e)
    have n3 := h.ne c h1 h3
    have n4 := hsp c h1 h3 (by omega)
    rw [e1, e2] at e; unfold lowr at e
    apply n4
    revert e
    repeat' split
    all_goals omega
theorem addL_at (X : List Int) {a j : Nat} {r y : Int} {t : Bool} (ha : a ≤ X.length) (hj : j < (addL X a r t y).length) :
    (j = a ∧ (addL X a r t y)[j] = y) ∨ (j ≠ a ∧ ∃ c, ∃ h : c < X.length, (c = if j < a then j else j - 1) ∧ (addL X a r t y)[j] = upr r t X[c]) := by
  have hg := addL_get X a j r t y ha
  by_cases e : j = a
  · rw [if_pos e] at hg
    exact .inl ⟨e, get_of hj hg⟩
  · rw [if_neg e] at hg
    rw [addL_length _ _ _ _ _ ha] at hj
    have hk : (if j < a then j else j - 1) < X.length := by split <;> omega
    refine .inr ⟨e, _, hk, rfl, get_of _ (hg.trans ?_)⟩
    rw [List.getElem?_eq_getElem hk]; rfl
theorem addL_pm_aux {X : List Int} {a : Nat} {r y : Int} {t : Bool} (h : Pm X) (ha : a ≤ X.length) (hr : 0 ≤ r ∧ r < X.length) (hy : y = if t = true then r else r + 1) :
    (∀ j (h : j < (addL X a r t y).length), 0 ≤ (addL X a r t y)[j] ∧ (addL X a r t y)[j] < (X.length + 1 : Nat)) ∧ (∀ i j (hi : i < (addL X a r t y).length) (hj : j < (addL X a r t y).length), (addL X a r t y)[i] = (addL X a r t y)[j] → i = j) := by
  have hny : ∀ x, upr r t x ≠ y := by
    intro x; rw [hy]; unfold upr
    cases t <;> simp <;> split <;> omega
  refine ⟨fun j hj => ?_, fun i j hi hj e => ?_⟩
  · rcases addL_at X ha hj with ⟨_, e1⟩ | ⟨_, c, h1, _, e1⟩
    · rw [e1, hy]; split <;> omega
    · have := h.get h1
      rw [e1]; unfold upr; split <;> omega
  · rcases addL_at X ha hi with ⟨q1, e1⟩ | ⟨q1, c, h1, p1, e1⟩
    · rcases addL_at X ha hj with ⟨q2, e2⟩ | ⟨q2, d, h2, p2, e2⟩
      · omega
      · rw [e1, e2] at e; exact absurd e.symm (hny _)
    · rcases addL_at X ha hj with ⟨q2, e2⟩ | ⟨q2, d, h2, p2, e2⟩
      · rw [e1, e2] at e; exact absurd e (hny _)
      · have hcd : X[c] = X[d] := by
          rw [e1, e2] at e; unfold upr at e
          revert e
          cases t <;> simp <;> repeat' split
          all_goals omega
        have := h.inj h1 h2 hcd
        subst this
        revert p1 p2
        repeat' split
        all_goals omega
theorem addL_vd {X O : List Int} {a r : Nat} {st : Bool} (h : Vd X O) (h40 : X.length ≠ 40) (ha : a ≤ X.length) (hr : r < X.length) :
    Vd (addL X a r (true != st) (if st = true then (r : Int) + 1 else r)) (addL O a r (false != st) (if st = true then (r : Int) else r + 1)) := by
  have hl := h.len
  have hx := addL_pm_aux (a := a) (r := r) (t := (true != st)) (y := if st = true then (r : Int) + 1 else r) h.pX ha (by omega) (by cases st <;> rfl)
  have ho := addL_pm_aux (a := a) (r := r) (t := (false != st)) (y := if st = true then (r : Int) else r + 1) h.pO (by omega) (by omega) (by cases st <;> rfl)
  refine Vd.of_get (n := X.length + 1) (by omega) (by have := h.most; omega) (addL_length _ _ _ _ _ ha) (by rw [addL_length _ _ _ _ _ (by omega)]; omega) hx.1 (by rw [hl]; exact ho.1) hx.2 ho.2 (fun k hk hk' e => ?_)
  rcases addL_at X ha hk with ⟨q1, e1⟩ | ⟨q1, c, h1, p1, e1⟩
  · rcases addL_at O (by omega) hk' with ⟨q2, e2⟩ | ⟨q2, d, h2, p2, e2⟩
    · rw [e1, e2] at e
      revert e
      split <;> omega
    · omega
  · rcases addL_at O (by omega) hk' with ⟨q2, e2⟩ | ⟨q2, d, h2, p2, e2⟩
    · omega
    · have : c = d := by rw [p1, p2]
      subst this
      have hne := h.ne c h1 h2
      rw [e1, e2] at e; unfold upr at e
      revert e
      cases st <;> simp <;> repeat' split
      all_goals omega
theorem colsL_vd {X O : List Int} {k : Int} {a v : Nat} (h : Vd X O) (hk : 1 ≤ k ∧ k ≤ 4) (ha : a < limAt k X.length) (hv : v < limVar k X.length) (h0 : (colsL X O k a v).1 = 0) : Vd (colsL X O k a v).2.1 (colsL X O k a v).2.2 := by
  unfold colsL at *
  by_cases k1 : k = 1
  · simp only [if_pos k1]
    exact rotL_vd h
  simp only [if_neg k1] at h0 ⊢
  by_cases k2 : k = 2
  · simp only [if_pos k2] at h0 ⊢
    have ha' : a + 1 < X.length := by rw [k2] at ha; simp only [limAt] at ha; simp at ha; omega
    split at h0
    · rename_i hc
      simp only [if_pos hc]
      exact swapL_vd h ha'
    · simp at h0
  simp only [if_neg k2] at h0 ⊢
  by_cases k3 : k = 3
  · simp only [if_pos k3] at h0 ⊢
    have ha' : a < X.length := by rw [k3] at ha; simp only [limAt] at ha; simpa using ha
    split at h0
    · rename_i hc
      simp only [if_pos hc]
      exact delL_vd h ha' hc
    · simp at h0
  simp only [if_neg k3] at h0 ⊢
  have k4 : k = 4 := by omega
  subst k4
  have ha' : a ≤ X.length := by simp only [limAt] at ha; simp at ha; omega
  have hv' : v < 2 * X.length := by simp only [limVar] at hv; simp at hv; omega
  split at h0
  · simp at h0
  · rename_i hc
    simp only [if_neg hc]
    exact addL_vd h hc ha' (by omega)
end Go.Proofs.YteliflcbegcdlaaGreatDoor

namespace Go.Proofs.YteliflcbegcdlaaGreatDoor
set_option linter.unusedVariables false
open Go.RowKit
/-- the list, or the transposed one -/
def vw (rows : Bool) (l : List Int) : List Int := if rows = true then tr l else l
theorem vw_length (rows : Bool) (l : List Int) : (vw rows l).length = l.length := by unfold vw; split; exact tr_length l; rfl
theorem vw_vw {rows : Bool} {l : List Int} (h : Pm l) : vw rows (vw rows l) = l := by cases rows; rfl; exact tr_tr h
theorem vw_vd {rows : Bool} {X O : List Int} (h : Vd X O) : Vd (vw rows X) (vw rows O) := by cases rows; exact h; exact tr_vd h
def inRange (k a v : Int) (n : Nat) : Prop := (1 ≤ k ∧ k ≤ 4) ∧ (0 ≤ a ∧ a < limAt k n) ∧ (0 ≤ v ∧ v < limVar k n)
theorem colsL_err (X O : List Int) (k : Int) (a v : Nat) (h : (colsL X O k a v).1 ≠ 0) : (colsL X O k a v).2 = ([], []) := by
  unfold colsL at *
  revert h
  repeat' split
  all_goals simp
theorem applyM_vw {X O : List Int} {k a v : Int} {rows : Bool} (h : Vd X O) (hr : inRange k a v X.length) :
    applyM X O k rows a v = if (colsL (vw rows X) (vw rows O) k a.toNat v.toNat).1 = 0 then (0, vw rows (colsL (vw rows X) (vw rows O) k a.toNat v.toNat).2.1, vw rows (colsL (vw rows X) (vw rows O) k a.toNat v.toNat).2.2) else ((colsL (vw rows X) (vw rows O) k a.toNat v.toNat).1, [], []) := by
  obtain ⟨hk, ⟨a0, a1⟩, v0, v1⟩ := hr
  have hk0 : ¬ limAt k X.length = 0 := by rw [limAt_zero (by have := h.two; omega)]; simp; omega
  have hv : validB X O = true := (validB_iff X O).2 h
  unfold applyM
  rw [if_neg (by simp [hv]), if_neg hk0, if_neg (by omega)]
  cases rows with
  | false =>
    rw [if_pos rfl, colsM_eq h.two h.len hk (by omega)]
    show _ = if (colsL X O k a.toNat v.toNat).1 = 0 then (0, (colsL X O k a.toNat v.toNat).2.1, (colsL X O k a.toNat v.toNat).2.2) else ((colsL X O k a.toNat v.toNat).1, [], [])
    split
    · rename_i h0
      rw [← h0]
    · rename_i h0
      have := colsL_err _ _ _ _ _ h0
      rw [← this]
  | true =>
    rw [if_neg (by simp), colsM_eq (by rw [tr_length]; exact h.two) (by rw [tr_length, tr_length]; exact h.len) hk (by rw [tr_length]; omega)]
    rfl
theorem applyM_inv {X O X1 O1 : List Int} {k a v : Int} {rows : Bool} (h : applyM X O k rows a v = (0, X1, O1)) :
    Vd X O ∧ inRange k a v X.length ∧ ∃ Y P, colsL (vw rows X) (vw rows O) k a.toNat v.toNat = (0, Y, P) ∧ X1 = vw rows Y ∧ O1 = vw rows P := by
  have hv : validB X O = true := by
    cases hv : validB X O with
    | true => rfl
    | false => unfold applyM at h; rw [if_pos hv] at h; simp at h
  have hvd := (validB_iff X O).1 hv
  have hr : inRange k a v X.length := by
    unfold applyM at h
    rw [if_neg (by simp [hv])] at h
    split at h
    · simp at h
    · rename_i h1
      split at h
      · simp at h
      · rename_i h2
        rw [limAt_zero (by have := hvd.two; omega)] at h1
        exact ⟨Decidable.not_not.1 h1, by omega, by omega⟩
  refine ⟨hvd, hr, ?_⟩
  rw [applyM_vw hvd hr] at h
  split at h
  · rename_i h0
    generalize colsL (vw rows X) (vw rows O) k a.toNat v.toNat = R at *
    obtain ⟨c, Y, P⟩ := R
    simp only at h0 h
    injection h with _ h
    injection h with h1 h2
    exact ⟨Y, P, by rw [h0], h1.symm, h2.symm⟩
  · rename_i h0
    injection h with h _
    exact absurd h h0
theorem applyM_of {X O Y P : List Int} {k a v : Int} {rows : Bool} (h : Vd X O) (hr : inRange k a v X.length) (hc : colsL (vw rows X) (vw rows O) k a.toNat v.toNat = (0, Y, P)) : applyM X O k rows a v = (0, vw rows Y, vw rows P) := by
  rw [applyM_vw h hr, hc]
  rfl
theorem applyM_res_vd {X O X1 O1 : List Int} {k a v : Int} {rows : Bool} (h : applyM X O k rows a v = (0, X1, O1)) : Vd X1 O1 := by
  obtain ⟨hv, hr, Y, P, hc, rfl, rfl⟩ := applyM_inv h
  have := colsL_vd (a := a.toNat) (v := v.toNat) (vw_vd (rows := rows) hv) hr.1 (by rw [vw_length]; have := hr.2.1; omega) (by rw [vw_length]; have := hr.2.2; omega) (by rw [hc])
  rw [hc] at this
  exact vw_vd this
/-- a move that undoes a move of columns undoes it for rows too -/
theorem undo_lift {X O X1 O1 : List Int} {k a v k' a' v' : Int} {rows : Bool} (h : applyM X O k rows a v = (0, X1, O1))
    (hu : ∀ Y P Y1 P1 : List Int, Vd Y P → Y.length = X.length → inRange k a v Y.length → colsL Y P k a.toNat v.toNat = (0, Y1, P1) → inRange k' a' v' Y1.length ∧ colsL Y1 P1 k' a'.toNat v'.toNat = (0, Y, P)) :
    applyM X1 O1 k' rows a' v' = (0, X, O) := by
  have hv1 := applyM_res_vd h
  obtain ⟨hv, hr, Y, P, hc, rfl, rfl⟩ := applyM_inv h
  have hY : Vd Y P := by
    have := colsL_vd (a := a.toNat) (v := v.toNat) (vw_vd (rows := rows) hv) hr.1 (by rw [vw_length]; have := hr.2.1; omega) (by rw [vw_length]; have := hr.2.2; omega) (by rw [hc])
    rw [hc] at this
    exact this
  obtain ⟨h1, h2⟩ := hu (vw rows X) (vw rows O) Y P (vw_vd hv) (vw_length _ _) (by rw [vw_length]; exact hr) hc
  have := applyM_of (rows := rows) hv1 (by rw [vw_length]; exact h1) (by rw [vw_vw hY.pX, vw_vw hY.pO]; exact h2)
  rw [this, vw_vw hv.pX, vw_vw hv.pO]
theorem getD_get? (l : List Int) (i : Nat) : l.getD i 0 = (l[i]?).getD 0 := List.getD_eq_getElem?_getD
theorem lowr_upr (r x : Int) (t : Bool) : lowr r (upr r t x) = x := by
  unfold lowr upr
  split <;> split <;> (try rename_i h1 h2) <;> omega
theorem delL_addL (X : List Int) (a : Nat) (r y : Int) (t : Bool) (ha : a ≤ X.length) : delL (addL X a r t y) a r = X := by
  apply List.ext_getElem?
  intro j
  rw [delL_get _ a j r (by rw [addL_length _ _ _ _ _ ha]; omega), addL_get X a _ r t y ha]
  rw [if_neg (by split <;> omega)]
  have : (if (if j < a then j else j + 1) < a then (if j < a then j else j + 1) else (if j < a then j else j + 1) - 1) = j := by
    repeat' split
    all_goals omega
  rw [this]
  cases X[j]? with
  | none => rfl
  | some x => simp [lowr_upr]
theorem desAll_of (a : Nat) (x o : Int) : ∀ (X O : List Int) (i : Nat), X.length = O.length → (∀ k (h : k < X.length) (h' : k < O.length), i + k ≠ a → ¬ (O[k] = x ∧ X[k] = o)) → desAll a x o i X O = true := by
  intro X
  induction X with
  | nil => intro O i _ _; cases O <;> rfl
  | cons p ps ih =>
    intro O i hl hh
    cases O with
    | nil => simp at hl
    | cons q qs =>
      rw [desAll, Bool.and_eq_true]
      refine ⟨?_, ih qs (i + 1) (by simpa using hl) (fun k h h' hne => ?_)⟩
      · have := hh 0 (by simp) (by simp)
        simp only [List.getElem_cons_zero] at this
        by_cases h1 : i = a
        · simp [h1]
        by_cases h2 : q = x
        · by_cases h3 : p = o
          · exact absurd ⟨h2, h3⟩ (this (by omega))
          · simp [h3]
        · simp [h2]
      · have := hh (k + 1) (by simpa using h) (by simpa using h') (by omega)
        simpa using this
theorem addL_self (X : List Int) (a : Nat) (r y : Int) (t : Bool) (ha : a ≤ X.length) : (addL X a r t y).getD a 0 = y := by
  rw [getD_get?, addL_get _ _ _ _ _ _ ha, if_pos rfl]; rfl
theorem undo_sta {X O X1 O1 : List Int} {a v : Int} {rows : Bool} (h : applyM X O 4 rows a v = (0, X1, O1)) : applyM X1 O1 3 rows a 0 = (0, X, O) := by
  refine undo_lift h (fun Y P Y1 P1 hv _ hr hc => ?_)
  have hlen := hv.len
  have ha : a.toNat ≤ Y.length := by have := hr.2.1; simp [limAt] at this; omega
  have hv2 : v.toNat < 2 * Y.length := by have := hr.2.2; simp [limVar] at this; omega
  unfold colsL at hc
  rw [if_neg (by decide), if_neg (by decide), if_neg (by decide)] at hc
  split at hc
  · simp at hc
  rename_i h40
  injection hc with _ hc
  injection hc with e1 e2
  have hst : ∃ st, decide (v.toNat % 2 = 0) = st := ⟨_, rfl⟩
  obtain ⟨st, hst⟩ := hst
  have hrr : ∃ r, v.toNat / 2 = r := ⟨_, rfl⟩
  obtain ⟨r, hrr⟩ := hrr
  rw [hst, hrr] at e1 e2
  have hrl : r < Y.length := by omega
  have hvd := addL_vd (st := st) hv h40 ha hrl
  rw [e1, e2] at hvd
  have gx : Y1.getD a.toNat 0 = if st = true then (r : Int) + 1 else r := by rw [← e1]; exact addL_self _ _ _ _ _ ha
  have go : P1.getD a.toNat 0 = if st = true then (r : Int) else r + 1 := by rw [← e2]; exact addL_self _ _ _ _ _ (by omega)
  have hl1 : Y1.length = Y.length + 1 := by rw [← e1]; exact addL_length _ _ _ _ _ ha
  have hl2 : P1.length = P.length + 1 := by rw [← e2]; exact addL_length _ _ _ _ _ (by omega)
  refine ⟨⟨by omega, by have := hr.2.1; simp [limAt] at this ⊢; omega, by simp [limVar]⟩, ?_⟩
  have hmin : minG (Y1.getD a.toNat 0) (P1.getD a.toNat 0) = r := by
    rw [gx, go]; unfold minG
    cases st <;> simp <;> omega
  have hok : desOk Y1 P1 a.toNat (Y1.getD a.toNat 0) (P1.getD a.toNat 0) = true := by
    unfold desOk
    rw [Bool.and_eq_true, Bool.and_eq_true]
    refine ⟨⟨by simp; have := hv.two; omega, ?_⟩, desAll_of _ _ _ _ _ _ hvd.len (fun k h h' hne hh => ?_)⟩
    · rw [hmin, gx, go]; unfold maxG
      cases st <;> simp <;> omega
    · rw [gx, go] at hh
      have hx := hv.ne
      subst e1 e2
      rcases addL_at Y ha h with ⟨q1, _⟩ | ⟨q1, c, h1, p1, e3⟩
      · omega
      · rcases addL_at P (by omega) h' with ⟨q2, _⟩ | ⟨q2, d, h2, p2, e4⟩
        · omega
        · have : c = d := by rw [p1, p2]
          subst this
          have hne2 := hx c h1 h2
          rw [e3, e4] at hh
          unfold upr at hh
          revert hh
          cases st <;> simp <;> repeat' split
          all_goals omega
  unfold colsL
  rw [if_neg (by decide), if_neg (by decide), if_pos rfl, if_pos hok, hmin]
  subst e1 e2
  rw [delL_addL _ _ _ _ _ ha, delL_addL _ _ _ _ _ (by omega)]
end Go.Proofs.YteliflcbegcdlaaGreatDoor

namespace Go.Proofs.YteliflcbegcdlaaGreatDoor
open Go.RowKit
set_option linter.unusedVariables false
theorem mid_of2 {g gx go : Nat} (w wx : World) (vx vo : Value) (n m : Nat)
    (h0 : wx.heap[w.heap.size]? = some (.cells #[vx, vo] 24 (0, 0))) (h1 : wx.heap[w.heap.size + 1]? = some (.cells #[.slice none 0 0, .slice none 0 0] 24 (0, 0)))
    (hg : wx.heap[g]? = some (.cells #[.slice (some ⟨gx, 0, none⟩) n n, .slice (some ⟨go, 0, none⟩) m m] 24 (0, 0)))
    (hx : wx.heap[gx]? = some (.cells (rowOf (List.replicate n (Value.int IntKind.i64 0))) 3 (0, 0))) (ho : wx.heap[go]? = some (.cells (rowOf (List.replicate m (Value.int IntKind.i64 0))) 3 (0, 0)))
    (e1 : gx ≠ go) (e2 : g ≠ gx) (e3 : g ≠ go) (e4 : w.heap.size + 2 ≤ g) (e5 : w.heap.size + 2 ≤ gx) (e6 : w.heap.size + 2 ≤ go) :
    Mid w.heap.size wx (.pointer (some ⟨g, 0, none⟩)) (.slice (some ⟨gx, 0, none⟩) n n) (.slice (some ⟨go, 0, none⟩) m m) vx vo (List.replicate n 0) (List.replicate m 0) := by
  refine ⟨g, gx, go, rfl, by rw [List.length_replicate], by rw [List.length_replicate], e1, e2, e3, e4, e5, e6, ?_, ?_, ?_, h0, _, _, h1⟩
  · simp only [List.length_replicate]; exact hg
  · rw [ints_zero]; exact hx
  · rw [ints_zero]; exact ho
theorem Mid3.drew {B : Nat} {w : World} {g gx go : Nat} {vx vo : Value} {X O : List Int} (h : Mid3 B w g gx go vx vo X O) : Mid3 B w.drew g gx go vx vo X O := h
theorem relStep_mvT (b : Bool) (i : Nat) {x : Int} (acc : List Int) (h : 0 ≤ x) : relStep mvT b i x acc = acc.set x.toNat i := by
  unfold relStep; exact if_pos h
end Go.Proofs.YteliflcbegcdlaaGreatDoor

namespace Go.Proofs.YteliflcbegcdlaaGreatDoor
open Go.RowKit
set_option linter.unusedVariables false
def mvTr (n cols rows : Int) (c r : Int) (_ : Bool) : Int × Int := ((c + cols) % n, (r + rows) % n)
def trl (cols rows : Nat) (l : List Int) : List Int := reloc (mvTr l.length cols rows) true l.length l
theorem relStep_mvTr (n cols rows i : Nat) (x : Int) (acc : List Int) (h : 0 < n) : relStep (mvTr n cols rows) true i x acc = acc.set ((i + cols) % n) ((x + rows) % n) := by
  unfold relStep
  have e : (mvTr n cols rows i x true).1 = ((i + cols) % n : Nat) := by simp [mvTr]
  rw [if_pos (by rw [e]; omega), e]
  rfl
set_option maxHeartbeats 2000000 in
theorem translate_any (vx vo : Value) (X O : List Int) (cols rows : Nat) (w : World) (hX : Ints w vx X) (hO : Ints w vo O) (hlen : X.length = O.length) (hn : X.length ≤ 1000) (hp : 0 < X.length) (hcl : cols ≤ 1000) (hrw : rows ≤ 1000) (rX : Rows X.length X) (rO : Rows X.length O) :
    Calls Tryz.prog 54 #[.agg #[vx, vo], .int .i64 cols, .int .i64 rows] w fun e w' => ∃ v, e = .returned v ∧ NewGrid w.heap.size w' v (trl cols rows X) (trl cols rows O) ∧ Below w.heap.size w w' := by
  obtain ⟨i0, hi0, hz0, hz1, hz2⟩ := info_parts info_int
  have hmk := fun W => run_make_one (P := Tryz.prog) 22 3 i0 (.int .i64 0) Tryz.underlying22 hi0 hz0 hz1 rfl (by rw [hz2]; decide) X.length (by omega) W
  clear hi0 hz0 hz1 hz2
  have HL := Lib.hid hlen
  clear hlen
  have hX0 := hX
  have hO0 := hO
  obtain ⟨A, c, rfl, hc, hh⟩ := hX
  obtain ⟨A', c', rfl, hc', hh'⟩ := hO
  clear hh hh'
  go_enter Tryz.func54, Tryz.ntmps54
  go_upto_region 2 with fail
  have hW : ((w.alloc (.cells #[.slice A X.length c, .slice A' O.length c'] 24)).alloc (.cells #[.slice none 0 0, .slice none 0 0] 24)).heap[w.heap.size]? = some (.cells #[.slice A X.length c, .slice A' O.length c'] 24 (0, 0)) ∧ ((w.alloc (.cells #[.slice A X.length c, .slice A' O.length c'] 24)).alloc (.cells #[.slice none 0 0, .slice none 0 0] 24)).heap[w.heap.size + 1]? = some (.cells #[.slice none 0 0, .slice none 0 0] 24 (0, 0)) ∧ Below w.heap.size w ((w.alloc (.cells #[.slice A X.length c, .slice A' O.length c'] 24)).alloc (.cells #[.slice none 0 0, .slice none 0 0] 24)) ∧ ((w.alloc (.cells #[.slice A X.length c, .slice A' O.length c'] 24)).alloc (.cells #[.slice none 0 0, .slice none 0 0] 24)).heap.size = w.heap.size + 2 :=
    ⟨(Arr.new _ _ [_, _]).alloc _, Arr.newAt (w.alloc _) _ [_, _] _ (by simp), ((Below.refl _ _).alloc (Nat.le_refl _) _).alloc (by simp) _, by simp⟩
  generalize ((w.alloc (.cells #[.slice A X.length c, .slice A' O.length c'] 24)).alloc (.cells #[.slice none 0 0, .slice none 0 0] 24)) = w2 at hW ⊢
  obtain ⟨hw0, hw1, hb2, hs2⟩ := hW
  have HW0 := Lib.hid hw0
  have HW1 := Lib.hid hw1
  have HS2 := Lib.hid hs2
  clear hw0 hw1 hs2
  go_cut [8, 15, 17] (fun s8 s15 s17 wx => Mid w.heap.size wx s8 s15 s17 (.slice A X.length c) (.slice A' O.length c') (List.replicate X.length 0) (List.replicate X.length 0) ∧ Below w.heap.size w wx)
  case first =>
    go_region
    all_goals
      go_wp2_with fail
      go_meet
      have hs2 := HS2.out
      have hw0 := HW0.out
      have hw1 := HW1.out
      refine ⟨?_, ?_⟩
      rotate_left
      · repeat (first | exact hb2 | refine Below.alloc ?_ (by simp [hs2] <;> omega) _ | refine Below.drew ?_)
      exact mid_of2 w _ _ _ X.length X.length (by simp only [heap_push, heap_drew, Array.getElem?_push, Array.size_push]; repeat (first | rw [if_pos trivial] | rw [if_neg (by omega)] | exact hw0 | exact hw1)) (by simp only [heap_push, heap_drew, Array.getElem?_push, Array.size_push]; repeat (first | rw [if_pos trivial] | rw [if_neg (by omega)] | exact hw0 | exact hw1)) (by simp only [heap_push, heap_drew, Array.getElem?_push, Array.size_push]; repeat (first | rw [if_pos trivial] | rw [if_neg (by omega)] | exact hw0 | exact hw1)) (by simp only [heap_push, heap_drew, Array.getElem?_push, Array.size_push]; repeat (first | rw [if_pos trivial] | rw [if_neg (by omega)] | exact hw0 | exact hw1)) (by simp only [heap_push, heap_drew, Array.getElem?_push, Array.size_push]; repeat (first | rw [if_pos trivial] | rw [if_neg (by omega)] | exact hw0 | exact hw1)) (by omega) (by omega) (by omega) (by omega) (by omega) (by omega)
  case rest =>
    clear hmk
    obtain ⟨⟨g, gx, go, rfl, e14, e16, hm⟩, hb⟩ := hcut
    clear e14 e16
    go_wp2_with fail
    go_loopw [20] (fun i wr => ∃ (k : Nat) (aX aO : List Int), k ≤ X.length ∧ i = .int .i64 k ∧ Mid3 w.heap.size wr g gx go (.slice A X.length c) (.slice A' O.length c') aX aO ∧ Below w.heap.size w wr ∧
      Hid (aX.length = X.length ∧ aO.length = X.length ∧ trl cols rows X = relTo (mvTr X.length cols rows) true k (X.drop k) aX ∧ trl cols rows O = relTo (mvTr X.length cols rows) true k (O.drop k) aO)) (fun i _ => X.length - (intOf i).toNat)
    case atStart =>
      exact ⟨0, _, _, Nat.zero_le _, rfl, hm, hb, by simp, by simp, rfl, by simp only [trl, reloc, HL.out, List.drop_zero]⟩
    case round =>
      obtain ⟨k, aX, aO, hk, rfl, hm', hb', H⟩ := hrel
      clear hb hm
      by_cases hlt : k < X.length
      · obtain ⟨b, o, rfl, hbl, hcell⟩ := hX0.at_ hlt
        have hltO : k < O.length := by have := HL.out; omega
        obtain ⟨b', o', rfl, hbl', hcell'⟩ := hO0.at_ hltO
        have hcX := (hb'.cell (p := ⟨b, o + k, none⟩) hbl).trans hcell
        have rx := rX.get hlt
        have ro := rO.get hltO
        rw [relTo_drop _ true X aX hlt, relTo_drop _ true O aO hltO, relStep_mvTr _ _ _ _ _ _ hp, relStep_mvTr _ _ _ _ _ _ hp] at H
        generalize X[k] = x at *
        generalize O[k] = y at *
        clear hcell
        obtain ⟨x, rfl⟩ := Int.eq_ofNat_of_zero_le rx.1
        obtain ⟨y, rfl⟩ := Int.eq_ofNat_of_zero_le ro.1
        have hq : (k + cols) % X.length < X.length := Nat.mod_lt _ hp
        have hx1 : (k + cols) % X.length < aX.length := by have := H.out.1; omega
        have hy1 : (k + cols) % X.length < aO.length := by have := H.out.2.1; omega
        have zn : ((X.length : Int) == 0) = false := beq_eq_false_iff_ne.2 (by omega)
        have zn2 : ¬ ((X.length : Int) = 0) := by omega
        have zn3 : ¬ (X = []) := by intro h; rw [h] at hp; simp at hp
        have zn4 : ¬ (X.length = 0) := by omega
        have w5 := hm'.2.2.2.2.1
        have w6 := hm'.2.2.2.2.2.1
        have n3 := hm'.2.1.symm
        have n4 := hm'.2.2.1.symm
        have n5 : gx ≠ w.heap.size := by omega
        have n6 : go ≠ w.heap.size := by omega
        have n7 : gx ≠ b := by omega
        have n10 : go ≠ b' := by omega
        go_wp2_with fail
        have eq10 : ((k : Int) + cols) % (X.length : Int) = (((k + cols) % X.length : Nat) : Int) := by simp
        rw [eq10]
        clear eq10
        generalize (k + cols) % X.length = q at *
        have z0 := hm'.2.2.2.2.2.2.2.2.2.1.cell 0
        have z1 := hm'.2.2.2.2.2.2.1.cell 0
        have z2 := (hm'.2.2.2.2.2.2.2.1.cell q).trans (ints_get _ hx1)
        have z3 := hm'.2.2.2.2.2.2.2.1.frozen q
        have z4 : IntKind.i64.wrap ((x : Int) + rows) = (x : Int) + rows := IntWalk.i64_in _ (by omega)
        have z5 : (q : Int) < (aX.length : Int) := by omega
        have z6 : (k : Int) < (X.length : Int) := by omega
        have z7 : (k : Int) < (O.length : Int) := by omega
        go_region_held3 (fun w' => w'.cell? ⟨w.heap.size, 0, none⟩ = some (.slice (some ⟨b, o, none⟩) X.length c) ∧ w'.cell? ⟨g, 0, none⟩ = some (.slice (some ⟨gx, 0, none⟩) aX.length aX.length) ∧ w'.cell? ⟨b, o + k, none⟩ = some (.int .i64 (x : Int))) (go_keep) (first | fail)
        clear z0 z1 z2 z3 z4 z5 z6 z7
        rw [show ((x : Int) + rows).tmod (X.length : Int) = ((x : Int) + rows) % (X.length : Int) from Int.tmod_eq_emod_of_nonneg (by omega)]
        have hm2 := (hm'.setX q (((x : Int) + rows) % (X.length : Int))).drew
        have hb2 := (hb'.setCell (p := ⟨gx, q, none⟩) (by show w.heap.size ≤ gx; omega) (.int .i64 (((x : Int) + rows) % (X.length : Int)))).drew
        have hcO := (hb2.cell (p := ⟨b', o' + k, none⟩) hbl').trans hcell'
        generalize (wr.setCell ⟨gx, q, none⟩ (.int .i64 (((x : Int) + rows) % (X.length : Int)))).drew = wr2 at *
        clear hm' hb' hcX hcell'
        go_wp2_with fail
        have z0 := hm2.2.2.2.2.2.2.2.2.2.1.cell 1
        have z1 := hm2.2.2.2.2.2.2.1.cell 1
        have z2 := (hm2.2.2.2.2.2.2.2.2.1.cell q).trans (ints_get _ hy1)
        have z3 := hm2.2.2.2.2.2.2.2.2.1.frozen q
        have z4 : IntKind.i64.wrap ((y : Int) + rows) = (y : Int) + rows := IntWalk.i64_in _ (by omega)
        have z5 : (q : Int) < (aO.length : Int) := by omega
        have z6 : (k : Int) < (X.length : Int) := by omega
        have z7 : (k : Int) < (O.length : Int) := by omega
        go_region_held3 (fun w' => w'.cell? ⟨w.heap.size, 1, none⟩ = some (.slice (some ⟨b', o', none⟩) O.length c') ∧ w'.cell? ⟨g, 1, none⟩ = some (.slice (some ⟨go, 0, none⟩) aO.length aO.length) ∧ w'.cell? ⟨b', o' + k, none⟩ = some (.int .i64 (y : Int))) (go_keep) (first | fail)
        clear z0 z1 z2 z3 z4 z5 z6 z7
        rw [show ((y : Int) + rows).tmod (X.length : Int) = ((y : Int) + rows) % (X.length : Int) from Int.tmod_eq_emod_of_nonneg (by omega)]
        go_wp2_with fail
        go_roundw
        case rel => exact ⟨k + 1, _, _, by omega, by go_num, (hm2.setO q (((y : Int) + rows) % (X.length : Int))).drew, (hb2.setCell (p := ⟨go, q, none⟩) (by show w.heap.size ≤ go; omega) _).drew, by simp [H.out.1], by simp [H.out.2.1], H.out.2.2.1, H.out.2.2.2⟩
        case measure => simp [intOf]; omega
      · obtain rfl : k = X.length := by omega
        obtain ⟨hl1, hl2, hr1, hr2⟩ := H.out
        rw [List.drop_length] at hr1
        rw [HL.out, List.drop_length] at hr2
        have hg0 := hm'.2.2.2.2.2.2.1.cell 0
        have hg1 := hm'.2.2.2.2.2.2.1.cell 1
        obtain ⟨e1, e2, e3, e4, e5, e6, q1, q2, q3, q4, a, b, q5⟩ := hm'
        have hz0 := q5.cell 0
        have hz1 := q5.cell 1
        have hz2 := q5.frozen 0
        have hz3 := q5.frozen 1
        have R1 := Lib.hid hr1
        have R2 := Lib.hid hr2
        have hres := Lib.hid ((q5.set 0 (.slice (some ⟨gx, 0, none⟩) aX.length aX.length)).set 1 (.slice (some ⟨go, 0, none⟩) aO.length aO.length))
        clear hr1 hr2 hl1 hl2 q1 q4 q5 hX0 hO0
        go_wp2_with fail
        refine bodyPost_ret (v := .agg #[.slice (some ⟨gx, 0, none⟩) aX.length aX.length, .slice (some ⟨go, 0, none⟩) aO.length aO.length]) (results_c Tryz.results54 _ _ (w.heap.size + 1) 24 _ _ rfl hres.out Tryz.underlying24 rfl info_grid) rfl ⟨_, rfl, ?_, ?_⟩
        · rw [R1.out, R2.out]
          exact ⟨gx, go, rfl, e1, by omega, by omega, q2.far2 (r := w.heap.size + 1) (by omega), q3.far2 (r := w.heap.size + 1) (by omega)⟩
        · exact bset2 (r := w.heap.size + 1) hb' (by omega)
end Go.Proofs.YteliflcbegcdlaaGreatDoor

namespace Go.Proofs.YteliflcbegcdlaaGreatDoor
open Go.RowKit
set_option linter.unusedVariables false
/-- Shift as a function: an error, or the translated grid -/
def shiftM (X O : List Int) (cols rows : Int) : Int × List Int × List Int :=
  if validB X O = false then (1, [], []) else (0, trl (cols % X.length).toNat (rows % X.length).toNat X, trl (cols % X.length).toNat (rows % X.length).toNat O)
theorem tmod_shift (c : Int) (n : Nat) (h : 0 < n) : (c.tmod n + n).tmod n = ((c % n).toNat : Int) ∧ -(n : Int) < c.tmod n ∧ c.tmod n < n ∧ (c % n).toNat < n := by
  have h1 := Int.emod_nonneg c (show (n : Int) ≠ 0 by omega)
  have h2 := Int.emod_lt_of_pos c (show (0 : Int) < n by omega)
  have h3 : c.tmod n = c % n ∨ (c.tmod n = c % n - n ∧ c % n ≠ 0) ∨ (c % n = 0 ∧ c.tmod n = 0) := by
    rw [Int.tmod_eq_emod]
    split
    · exact .inl (by omega)
    · rename_i hd
      have : c % n ≠ 0 := fun h => hd (.inr (Int.dvd_of_emod_eq_zero h))
      exact .inr (.inl ⟨by simp, this⟩)
  have h4 : (c.tmod n + n).tmod n = (c.tmod n + n) % n := Int.tmod_eq_emod_of_nonneg (by omega)
  refine ⟨?_, by omega, by omega, by omega⟩
  rw [h4]
  rcases h3 with h3 | ⟨h3, _⟩ | ⟨h3, h5⟩
  · rw [h3, Int.add_emod_right, Int.emod_eq_of_lt h1 h2]; omega
  · rw [h3, show c % n - n + n = c % n from by omega, Int.emod_eq_of_lt h1 h2]; omega
  · rw [h5, h3]; simp
set_option maxHeartbeats 2000000 in
theorem shift_any (vx vo : Value) (X O : List Int) (cols rows : Int) (w : World) (hX : Ints w vx X) (hO : Ints w vo O) (hl : X.length ≤ 1000) (hl' : O.length ≤ 1000) :
    Calls Tryz.prog 34 #[.agg #[vx, vo], .int .i64 cols, .int .i64 rows] w (GRes w.heap.size w (shiftM X O cols rows)) := by
  have hX0 := hX
  have hO0 := hO
  obtain ⟨A, c, rfl, hc, hh⟩ := hX
  obtain ⟨A', c', rfl, hc', hh'⟩ := hO
  clear hh hh'
  go_enter Tryz.func34, Tryz.ntmps34
  go_wp2_with fail
  have hW : Arr ((w.alloc (.cells #[.slice A X.length c, .slice A' O.length c'] 24)).alloc (.cells #[.slice none 0 0, .slice none 0 0] 24)) w.heap.size 24 [.slice A X.length c, .slice A' O.length c'] ∧ Arr ((w.alloc (.cells #[.slice A X.length c, .slice A' O.length c'] 24)).alloc (.cells #[.slice none 0 0, .slice none 0 0] 24)) (w.heap.size + 1) 24 [.slice none 0 0, .slice none 0 0] ∧ Below w.heap.size w ((w.alloc (.cells #[.slice A X.length c, .slice A' O.length c'] 24)).alloc (.cells #[.slice none 0 0, .slice none 0 0] 24)) :=
    ⟨(Arr.new _ _ [_, _]).alloc _, Arr.newAt (w.alloc _) _ [_, _] _ (by simp), ((Below.refl _ _).alloc (Nat.le_refl _) _).alloc (by simp) _⟩
  generalize ((w.alloc (.cells #[.slice A X.length c, .slice A' O.length c'] 24)).alloc (.cells #[.slice none 0 0, .slice none 0 0] 24)) = w4 at hW ⊢
  obtain ⟨q0, q1, hb4⟩ := hW
  refine (valid_any _ _ X O _ (hX0.below hb4) (hO0.below hb4) hl hl').mono ?_
  rintro e w5 ⟨rfl, hb5⟩
  have hbw5 := hb4.trans (hb5.mono hb4.size)
  have p0 := q0.below hb5 q0.lt
  have p1 := q1.below hb5 q1.lt
  clear q0 q1 hb5 hb4
  have y0 := p0.cell 0
  have y1 := p0.cell 1
  have y2 := p1.cell 0
  have y3 := p1.cell 1
  have y4 := p1.frozen 0
  have y5 := p1.frozen 1
  have l1 := p1.lt
  cases hv : validB X O with
  | false =>
    have hfin := Lib.hid (show shiftM X O cols rows = (1, [], []) by unfold shiftM; rw [if_pos hv])
    clear hv
    have hzr := Lib.hid ((p1.set 0 (.slice none 0 0)).set 1 (.slice none 0 0))
    go_wp2_with fail
    refine bodyPost_ret (v := .tuple #[.agg #[.slice none 0 0, .slice none 0 0], .int .i64 1]) (results_ct Tryz.results34 _ _ (w.heap.size + 1) 24 _ _ rfl hzr.out Tryz.underlying24 rfl info_grid) rfl ?_
    rw [hfin.out]
    exact GRes.err (by decide) (bset2 (r := w.heap.size + 1) hbw5 (by omega))
  | true =>
    have vf := (validB_iff X O).1 hv
    have hfin := Lib.hid (show shiftM X O cols rows = (0, trl (cols % X.length).toNat (rows % X.length).toNat X, trl (cols % X.length).toNat (rows % X.length).toNat O) by unfold shiftM; rw [if_neg (by simp [hv])])
    clear hv
    have hn2 := vf.two
    obtain ⟨ec, ec1, ec2, ec3⟩ := tmod_shift cols X.length (by omega)
    obtain ⟨er, er1, er2, er3⟩ := tmod_shift rows X.length (by omega)
    generalize (cols % (X.length : Int)).toNat = pc at *
    generalize (rows % (X.length : Int)).toNat = pr at *
    have wc : IntKind.i64.wrap (cols.tmod X.length + X.length) = cols.tmod X.length + X.length := IntWalk.i64_in _ (by omega)
    have wr : IntKind.i64.wrap (rows.tmod X.length + X.length) = rows.tmod X.length + X.length := IntWalk.i64_in _ (by omega)
    have zn : ((X.length : Int) == 0) = false := beq_eq_false_iff_ne.2 (by omega)
    have zn2 : ¬ ((X.length : Int) = 0) := by omega
    have zn3 : ¬ (X = []) := by intro h; rw [h] at hn2; simp at hn2
    have zn4 : ¬ (X.length = 0) := by omega
    have HT := Lib.hid (fun W (hS : W.cell? ⟨w.heap.size, 0, none⟩ = some (.slice A X.length c) ∧ W.cell? ⟨w.heap.size, 1, none⟩ = some (.slice A' O.length c') ∧ Below w.heap.size w W) => translate_any (.slice A X.length c) (.slice A' O.length c') X O pc pr W (hX0.below hS.2.2) (hO0.below hS.2.2) vf.len hl (by omega) (by omega) (by omega) vf.pX.1 (by have := vf.pO.1; rw [← vf.len] at this; exact this))
    have KS0 := Lib.hid (show w5.drew.cell? ⟨w.heap.size, 0, none⟩ = some (.slice A X.length c) ∧ w5.drew.cell? ⟨w.heap.size, 1, none⟩ = some (.slice A' O.length c') ∧ Below w.heap.size w w5.drew from ⟨y0, y1, hbw5.drew⟩)
    have HJ := Lib.hid (fun W W' (hS : W.cell? ⟨w.heap.size, 0, none⟩ = some (.slice A X.length c) ∧ W.cell? ⟨w.heap.size, 1, none⟩ = some (.slice A' O.length c') ∧ Below w.heap.size w W) (hb : Below W.heap.size W W') => (⟨(hb.cell (block_lt_of_cell hS.1)).trans hS.1, (hb.cell (block_lt_of_cell hS.2.1)).trans hS.2.1, hS.2.2.trans (hb.mono hS.2.2.size)⟩ : W'.cell? ⟨w.heap.size, 0, none⟩ = some (.slice A X.length c) ∧ W'.cell? ⟨w.heap.size, 1, none⟩ = some (.slice A' O.length c') ∧ Below w.heap.size w W'))
    have KS2 := Lib.hid (fun W u u' (hS : W.cell? ⟨w.heap.size, 0, none⟩ = some (.slice A X.length c) ∧ W.cell? ⟨w.heap.size, 1, none⟩ = some (.slice A' O.length c') ∧ Below w.heap.size w W) => (⟨(World.cell?_of_block (heap_set2 W (w.heap.size + 1) 0 1 w.heap.size u u' (by omega))).trans hS.1, (World.cell?_of_block (heap_set2 W (w.heap.size + 1) 0 1 w.heap.size u u' (by omega))).trans hS.2.1, bset2 (r := w.heap.size + 1) hS.2.2 (by omega)⟩ : ((W.setCell ⟨w.heap.size + 1, 0, none⟩ u).setCell ⟨w.heap.size + 1, 1, none⟩ u').cell? ⟨w.heap.size, 0, none⟩ = some (.slice A X.length c) ∧ ((W.setCell ⟨w.heap.size + 1, 0, none⟩ u).setCell ⟨w.heap.size + 1, 1, none⟩ u').cell? ⟨w.heap.size, 1, none⟩ = some (.slice A' O.length c') ∧ Below w.heap.size w ((W.setCell ⟨w.heap.size + 1, 0, none⟩ u).setCell ⟨w.heap.size + 1, 1, none⟩ u')))
    go_wp2_with fail
    go_region_held3 (fun w' => w'.cell? ⟨w.heap.size, 0, none⟩ = some (.slice A X.length c) ∧ w'.cell? ⟨w.heap.size, 1, none⟩ = some (.slice A' O.length c') ∧ Below w.heap.size w w') (first | exact KS0.out | exact hS7 | exact KS2.out _ _ _ hS7)
      (first
        | (go_at_call 54; refine (HT.out _ (by assumption)).mono ?_; rintro e w7 ⟨v7, rfl, ⟨gx, go, rfl, q1, q2, q3, a1, a2⟩, hb7⟩; have hS7 := HJ.out _ _ (by assumption) hb7; have hr := (Arr.drew p1).below hb7 (Arr.drew p1).lt; have s0 := hr.cell 0; have s1 := hr.cell 1; have s2 := hr.frozen 0; have s3 := hr.frozen 1; clear hb7))
    have hres := Lib.hid ((hr.set 0 (.slice (some ⟨gx, 0, none⟩) (trl pc pr X).length (trl pc pr X).length)).set 1 (.slice (some ⟨go, 0, none⟩) (trl pc pr O).length (trl pc pr O).length))
    go_wp2_with fail
    refine bodyPost_ret (v := .tuple #[.agg #[.slice (some ⟨gx, 0, none⟩) (trl pc pr X).length (trl pc pr X).length, .slice (some ⟨go, 0, none⟩) (trl pc pr O).length (trl pc pr O).length], .int .i64 0]) (results_ct Tryz.results34 _ _ (w.heap.size + 1) 24 _ _ rfl hres.out Tryz.underlying24 rfl info_grid) rfl ?_
    rw [hfin.out]
    have hbs := hbw5.size
    have q2' : w5.heap.size ≤ gx := q2
    have q3' : w5.heap.size ≤ go := q3
    exact GRes.ok (bset2 (r := w.heap.size + 1) hS7.2.2 (by omega)) ⟨gx, go, rfl, q1, by omega, by omega, a1.far2 (r := w.heap.size + 1) (by omega), a2.far2 (r := w.heap.size + 1) (by omega)⟩
end Go.Proofs.YteliflcbegcdlaaGreatDoor

namespace Go.Proofs.YteliflcbegcdlaaGreatDoor
open Go.RowKit
set_option linter.unusedVariables false
structure Mv where
  k : Int
  rows : Bool
  a : Int
  v : Int
def Mv.cells (m : Mv) : List Value := [.int .i64 m.k, .bool m.rows, .int .i64 m.a, .int .i64 m.v]
def Mv.app (m : Mv) (X O : List Int) : Int × List Int × List Int := applyM X O m.k m.rows m.a m.v
/-- the value is a slice that reads as the moves ms -/
def Moves (w : World) (v : Value) (ms : List Mv) : Prop :=
  ∃ A c, v = .slice A ms.length c ∧ ∀ k (h : k < ms.length), ∃ b o, A = some ⟨b, o, none⟩ ∧ ∀ j u, ms[k].cells[j]? = some u → w.cell? ⟨b, o + k * 4 + j, none⟩ = some u
theorem Moves.below {w w' : World} {v : Value} {ms : List Mv} (h : Moves w v ms) (hb : Below w.heap.size w w') : Moves w' v ms := by
  obtain ⟨A, c, hv, hx⟩ := h
  refine ⟨A, c, hv, fun k hk => ?_⟩
  obtain ⟨b, o, hA, hc⟩ := hx k hk
  exact ⟨b, o, hA, fun j u hu => (hb.cell (block_lt_of_cell (hc j u hu))).trans (hc j u hu)⟩
theorem Moves.at_ {w : World} {A : Option Addr} {n c k : Nat} {ms : List Mv} (h : Moves w (.slice A n c) ms) (hk : k < ms.length) :
    ∃ b o, A = some ⟨b, o, none⟩ ∧ b < w.heap.size ∧ w.cell? ⟨b, o + k * 4, none⟩ = some (.int .i64 ms[k].k) ∧ w.cell? ⟨b, o + k * 4 + 1, none⟩ = some (.bool ms[k].rows) ∧ w.cell? ⟨b, o + k * 4 + 2, none⟩ = some (.int .i64 ms[k].a) ∧ w.cell? ⟨b, o + k * 4 + 3, none⟩ = some (.int .i64 ms[k].v) := by
  obtain ⟨A', c', hv, hx⟩ := h
  injection hv with h1 h2 h3
  subst h1
  obtain ⟨b, o, hA, hc⟩ := hx k hk
  have h0 := hc 0 _ rfl
  exact ⟨b, o, hA, block_lt_of_cell h0, h0, hc 1 _ rfl, hc 2 _ rfl, hc 3 _ rfl⟩
/-- the slice reads as xs in every world that differs from w in the blocks of E at most -/
def IntsE (E : Nat → Prop) (w : World) (v : Value) (xs : List Int) : Prop := ∀ W : World, (∀ b, ¬ E b → b < w.heap.size → W.heap[b]? = w.heap[b]?) → Ints W v xs
theorem IntsE.ints {E : Nat → Prop} {w : World} {v : Value} {xs : List Int} (h : IntsE E w v xs) : Ints w v xs := h w (fun _ _ _ => rfl)
theorem IntsE.below {E : Nat → Prop} {w w' : World} {v : Value} {xs : List Int} (h : IntsE E w v xs) (hb : Below w.heap.size w w') : IntsE E w' v xs :=
  fun W hW => h W (fun b hE hlt => (hW b hE (Nat.lt_of_lt_of_le hlt hb.size)).trans (hb.block b hlt))
theorem IntsE.set2 {E : Nat → Prop} {w : World} {v : Value} {xs : List Int} (h : IntsE E w v xs) {r : Nat} (hr : E r) (i j : Nat) (u u' : Value) : IntsE E ((w.setCell ⟨r, i, none⟩ u).setCell ⟨r, j, none⟩ u') v xs :=
  fun W hW => h W (fun b hE hlt => (hW b hE (by simpa [World.setCell] using hlt)).trans (heap_set2 w r i j b u u' (fun e => hE (by rw [e]; exact hr))))
theorem IntsE.of_fresh {E : Nat → Prop} {B : Nat} {w : World} {v : Value} {xs : List Int} (h : IntsF B w v xs) (hE : ∀ b, E b → b < B) : IntsE E w v xs :=
  fun W hW => h W (fun b hb hlt => hW b (fun e => by have := hE b e; omega) hlt)
theorem IntsE.nil (E : Nat → Prop) (w : World) : IntsE E w (.slice none 0 0) [] := fun W _ => Ints.nil W
theorem IntsE.of_arr {E : Nat → Prop} {w : World} {g : Nat} {t : TypeId} {xs : List Int} (h : Arr w g t (Go.Proofs.YteliflcbegcdlaaGreatDoor.ints xs)) (hE : ¬ E g) : IntsE E w (.slice (some ⟨g, 0, none⟩) xs.length xs.length) xs :=
  fun W hW => Ints.of_arr (t := t) ((hW g hE h.lt).trans h)
/-- moves one after the other: the error number, the last grid, the place of the first move that fails -/
def playFrom : Nat → List Int → List Int → List Mv → Int × List Int × List Int × Int
  | _, X, O, [] => (0, X, O, -1)
  | i, X, O, m :: ms => if (m.app X O).1 = 0 then playFrom (i + 1) (m.app X O).2.1 (m.app X O).2.2 ms else ((m.app X O).1, [], [], i)
theorem playFrom_drop (X O : List Int) (ms : List Mv) {k : Nat} (h : k < ms.length) : playFrom k X O (ms.drop k) = if (ms[k].app X O).1 = 0 then playFrom (k + 1) (ms[k].app X O).2.1 (ms[k].app X O).2.2 (ms.drop (k + 1)) else ((ms[k].app X O).1, [], [], k) := by
  rw [List.drop_eq_getElem_cons h, playFrom]
def playM (X O : List Int) (ms : List Mv) : Int × List Int × List Int × Int :=
  if validB X O = false then (1, [], [], -1) else playFrom 0 X O ms
theorem trl_zero {l : List Int} (h : Pm l) : trl 0 0 l = l := by
  apply List.ext_getElem?
  intro j
  by_cases hj : j < l.length
  · rw [List.getElem?_eq_getElem hj]
    have hg := h.get hj
    have e1 : ∀ k, k < l.length → (((k : Int) + (0 : Nat)) % (l.length : Int)) = k := fun k hk => by rw [show ((k : Int) + (0 : Nat)) = k from by simp]; exact Int.emod_eq_of_lt (by omega) (by omega)
    refine (reloc_get (mv := mvTr l.length (0 : Nat) (0 : Nat)) hj hj (e1 j hj) (fun k' h' hne e => ?_)).trans ?_
    · have := e1 k' h'
      simp only [mvTr] at e
      omega
    · simp only [mvTr]
      rw [show l[j] + ((0 : Nat) : Int) = l[j] from by simp, Int.emod_eq_of_lt hg.1 hg.2]
  · rw [List.getElem?_eq_none (by unfold trl; rw [reloc_length]; omega), List.getElem?_eq_none (by omega)]
theorem shiftM_zero {X O : List Int} (h : Vd X O) : shiftM X O 0 0 = (0, X, O) := by
  unfold shiftM
  rw [if_neg (by simp [(validB_iff X O).2 h])]
  simp only [Int.zero_emod, Int.toNat_zero]
  rw [trl_zero h.pX, trl_zero h.pO]
end Go.Proofs.YteliflcbegcdlaaGreatDoor

namespace Go.Proofs.YteliflcbegcdlaaGreatDoor
set_option linter.unusedVariables false
open Go.RowKit
def itr (f : Nat → Nat) : Nat → Nat → Nat
  | 0, i => i
  | k + 1, i => f (itr f k i)
theorem itr_add (f : Nat → Nat) (a b i : Nat) : itr f (a + b) i = itr f a (itr f b i) := by
  induction a with
  | zero => rw [Nat.zero_add]; rfl
  | succ a ih => rw [Nat.succ_add, itr, itr, ih]
structure PermF (n : Nat) (f : Nat → Nat) : Prop where
  lt : ∀ i, i < n → f i < n
  inj : ∀ i j, i < n → j < n → f i = f j → i = j
def Rl (f : Nat → Nat) (i j : Nat) : Prop := ∃ k, itr f k i = j
theorem Rl.refl (f : Nat → Nat) (i : Nat) : Rl f i i := ⟨0, rfl⟩
theorem Rl.step (f : Nat → Nat) (i : Nat) : Rl f i (f i) := ⟨1, rfl⟩
theorem Rl.trans {f : Nat → Nat} {i j k : Nat} (h : Rl f i j) (h' : Rl f j k) : Rl f i k := by
  obtain ⟨a, ha⟩ := h
  obtain ⟨b, hb⟩ := h'
  exact ⟨b + a, by rw [itr_add, ha, hb]⟩
theorem len_sub : ∀ (l X : List Nat), l.Nodup → (∀ x ∈ l, x ∈ X) → l.length ≤ X.length := by
  intro l
  induction l with
  | nil => intro X _ _; simp
  | cons a l ih =>
    intro X hn hs
    have ha := hs a List.mem_cons_self
    have := ih (X.erase a) (List.nodup_cons.1 hn).2 (fun x hx => by
      rw [List.mem_erase_of_ne]
      · exact hs x (List.mem_cons_of_mem _ hx)
      · intro e; subst e; exact (List.nodup_cons.1 hn).1 hx)
    rw [List.length_erase_of_mem ha] at this
    have hpos : 0 < X.length := List.length_pos_of_mem ha
    simp only [List.length_cons]
    omega
theorem nodup_map {g : Nat → Nat} : ∀ {l : List Nat}, l.Nodup → (∀ a, a ∈ l → ∀ b, b ∈ l → g a = g b → a = b) → (l.map g).Nodup := by
  intro l
  induction l with
  | nil => intro _ _; simp
  | cons a l ih =>
    intro hn hi
    rw [List.map_cons, List.nodup_cons]
    refine ⟨fun hm => ?_, ih (List.nodup_cons.1 hn).2 (fun x hx y hy => hi x (List.mem_cons_of_mem _ hx) y (List.mem_cons_of_mem _ hy))⟩
    obtain ⟨b, hb, e⟩ := List.mem_map.1 hm
    have := hi b (List.mem_cons_of_mem _ hb) a List.mem_cons_self e
    subst this
    exact (List.nodup_cons.1 hn).1 hb
section
variable {n : Nat} {f : Nat → Nat}
theorem PermF.itr_lt (h : PermF n f) {i : Nat} (hi : i < n) (k : Nat) : itr f k i < n := by
  induction k with
  | zero => exact hi
  | succ k ih => exact h.lt _ ih
theorem PermF.itr_inj (h : PermF n f) {i j : Nat} (hi : i < n) (hj : j < n) : ∀ k, itr f k i = itr f k j → i = j := by
  intro k
  induction k with
  | zero => exact id
  | succ k ih => intro e; exact ih (h.inj _ _ (h.itr_lt hi k) (h.itr_lt hj k) e)
/-- as long as i does not come back, its images are different numbers -/
theorem PermF.apart (h : PermF n f) {i : Nat} (hi : i < n) {m : Nat} (hm : ∀ k, 0 < k → k < m → itr f k i ≠ i) : m ≤ n := by
  have hn : ((List.range m).map (fun k => itr f k i)).Nodup := by
    refine nodup_map List.nodup_range ?_
    intro a ha b hb e
    rw [List.mem_range] at ha hb
    rcases Nat.lt_trichotomy a b with hab | hab | hab
    · exfalso
      have : itr f (b - a) i = i := by
        apply h.itr_inj (h.itr_lt hi _) hi a
        rw [← itr_add, show a + (b - a) = b from by omega]; exact e.symm
      exact hm (b - a) (by omega) (by omega) this
    · exact hab
    · exfalso
      have : itr f (a - b) i = i := by
        apply h.itr_inj (h.itr_lt hi _) hi b
        rw [← itr_add, show b + (a - b) = a from by omega]; exact e
      exact hm (a - b) (by omega) (by omega) this
  have := len_sub _ (List.range n) hn (fun x hx => by
    obtain ⟨k, _, rfl⟩ := List.mem_map.1 hx
    exact List.mem_range.2 (h.itr_lt hi k))
  simpa using this
theorem PermF.back (h : PermF n f) {i : Nat} (hi : i < n) : ∃ k, 0 < k ∧ k ≤ n ∧ itr f k i = i := by
  by_cases hb : ∃ k, 0 < k ∧ k ≤ n ∧ itr f k i = i
  · exact hb
  · have := h.apart hi (m := n + 1) (fun k h1 h2 e => hb ⟨k, h1, by omega, e⟩)
    omega
theorem PermF.symm (h : PermF n f) {i j : Nat} (hi : i < n) (hr : Rl f i j) : Rl f j i := by
  obtain ⟨k, rfl⟩ := hr
  induction k with
  | zero => exact Rl.refl f i
  | succ k ih =>
    refine Rl.trans ?_ ih
    obtain ⟨m, hm, _, e⟩ := h.back (h.itr_lt hi k)
    refine ⟨m - 1, ?_⟩
    show itr f (m - 1) (itr f (k + 1) i) = itr f k i
    have : itr f (m - 1) (itr f 1 (itr f k i)) = itr f k i := by rw [← itr_add, show m - 1 + 1 = m from by omega]; exact e
    exact this
theorem Rl.lt (h : PermF n f) {i j : Nat} (hi : i < n) (hr : Rl f i j) : j < n := by obtain ⟨k, rfl⟩ := hr; exact h.itr_lt hi k
/-- related, to be computed -/
def rB (f : Nat → Nat) (n j i : Nat) : Bool := (List.range (n + 1)).any fun k => itr f k j == i
theorem rB_iff (h : PermF n f) {j i : Nat} (hj : j < n) : rB f n j i = true ↔ Rl f j i := by
  simp only [rB, List.any_eq_true, List.mem_range, beq_iff_eq]
  constructor
  · rintro ⟨k, _, e⟩; exact ⟨k, e⟩
  · rintro ⟨k, e⟩
    induction k using Nat.strongRecOn with
    | _ k ih =>
      by_cases hk : k < n + 1
      · exact ⟨k, hk, e⟩
      · obtain ⟨m, hm, hmn, eb⟩ := h.back hj
        refine ih (k - m) (by omega) ?_
        rw [← e, show k = (k - m) + m from by omega, itr_add, eb]
        congr 1
        omega
/-- the numbers below n that are the least ones of their cycles -/
def heads (f : Nat → Nat) (n : Nat) : List Nat := (List.range n).filter fun i => (List.range i).all fun j => !rB f n j i
def cls (f : Nat → Nat) (n : Nat) : Nat := (heads f n).length
theorem mem_heads (h : PermF n f) {i : Nat} : i ∈ heads f n ↔ i < n ∧ ∀ j, j < i → ¬ Rl f j i := by
  simp only [heads, List.mem_filter, List.mem_range, List.all_eq_true, Bool.not_eq_true']
  constructor
  · rintro ⟨hi, hj⟩
    refine ⟨hi, fun j hlt hr => ?_⟩
    have := hj j hlt
    rw [(rB_iff h (by omega)).2 hr] at this
    cases this
  · rintro ⟨hi, hj⟩
    refine ⟨hi, fun j hlt => ?_⟩
    cases hr : rB f n j i with
    | false => rfl
    | true => exact absurd ((rB_iff h (by omega)).1 hr) (hj j hlt)
theorem heads_nodup : (heads f n).Nodup := List.nodup_range.filter _
theorem exists_head (h : PermF n f) : ∀ i, i < n → ∃ j, j ∈ heads f n ∧ Rl f j i := by
  intro i
  induction i using Nat.strongRecOn with
  | _ i ih =>
    intro hi
    by_cases hh : ∃ j, j < i ∧ Rl f j i
    · obtain ⟨j, hj, hr⟩ := hh
      obtain ⟨k, hk, hr'⟩ := ih j hj (by omega)
      exact ⟨k, hk, hr'.trans hr⟩
    · exact ⟨i, (mem_heads h).2 ⟨hi, fun j hj hr => hh ⟨j, hj, hr⟩⟩, Rl.refl f i⟩
theorem heads_inj (h : PermF n f) {i j : Nat} (hi : i ∈ heads f n) (hj : j ∈ heads f n) (hr : Rl f i j) : i = j := by
  have h1 := (mem_heads h).1 hi
  have h2 := (mem_heads h).1 hj
  rcases Nat.lt_trichotomy i j with hlt | e | hlt
  · exact absurd hr (h2.2 i hlt)
  · exact e
  · exact absurd (h.symm h1.1 hr) (h1.2 j hlt)
end
/-- a list with a choice for each of its elements -/
theorem choose_list {P : Nat → Nat → Prop} : ∀ (l : List Nat), (∀ i ∈ l, ∃ j, P i j) → ∃ g : Nat → Nat, ∀ i ∈ l, P i (g i) := by
  intro l
  induction l with
  | nil => intro _; exact ⟨id, fun i hi => by cases hi⟩
  | cons a l ih =>
    intro h
    obtain ⟨g, hg⟩ := ih (fun i hi => h i (List.mem_cons_of_mem _ hi))
    obtain ⟨j, hj⟩ := h a List.mem_cons_self
    refine ⟨fun i => if i = a then j else g i, fun i hi => ?_⟩
    by_cases e : i = a
    · subst e; simp only [if_true]; exact hj
    · simp only [e, if_false]
      rcases List.mem_cons.1 hi with e' | hi
      · exact absurd e' e
      · exact hg i hi
theorem cls_le {n m : Nat} {f g : Nat → Nat} (hf : PermF n f) (hg : PermF m g) (φ : Nat → Nat) (h1 : ∀ i, i < n → φ i < m) (h2 : ∀ i j, i < n → j < n → Rl g (φ i) (φ j) → Rl f i j) : cls f n ≤ cls g m := by
  obtain ⟨ρ, hρ⟩ := choose_list (P := fun i j => j ∈ heads g m ∧ Rl g j (φ i)) (heads f n) (fun i hi => exists_head hg _ (h1 i ((mem_heads hf).1 hi).1))
  have hn : ((heads f n).map ρ).Nodup := by
    refine nodup_map heads_nodup ?_
    intro i hi j hj e
    have a := hρ i hi
    have b := hρ j hj
    have hi' := ((mem_heads hf).1 hi).1
    have hj' := ((mem_heads hf).1 hj).1
    refine heads_inj hf hi hj (h2 i j hi' hj' ?_)
    refine Rl.trans (hg.symm ((mem_heads hg).1 a.1).1 a.2) ?_
    rw [e]
    exact b.2
  have := len_sub _ (heads g m) hn (fun x hx => by
    obtain ⟨i, hi, rfl⟩ := List.mem_map.1 hx
    exact (hρ i hi).1)
  simpa [cls] using this
/-- a map under which each step is a step or two keeps what is related -/
theorem rl_map {n : Nat} {f g : Nat → Nat} (hf : PermF n f) (φ : Nat → Nat) (h : ∀ i, i < n → Rl g (φ i) (φ (f i))) {i j : Nat} (hi : i < n) (hr : Rl f i j) : Rl g (φ i) (φ j) := by
  obtain ⟨k, rfl⟩ := hr
  induction k with
  | zero => exact Rl.refl g _
  | succ k ih => exact ih.trans (h _ (hf.itr_lt hi k))
theorem cls_eq {n m : Nat} {f g : Nat → Nat} (hf : PermF n f) (hg : PermF m g) (φ ψ : Nat → Nat) (a1 : ∀ i, i < n → φ i < m) (a2 : ∀ j, j < m → ψ j < n)
    (b1 : ∀ i, i < n → Rl g (φ i) (φ (f i))) (b2 : ∀ j, j < m → Rl f (ψ j) (ψ (g j))) (c1 : ∀ i, i < n → Rl f (ψ (φ i)) i) (c2 : ∀ j, j < m → Rl g (φ (ψ j)) j) : cls f n = cls g m := by
  refine Nat.le_antisymm (cls_le hf hg φ a1 (fun i j hi hj hr => ?_)) (cls_le hg hf ψ a2 (fun i j hi hj hr => ?_))
  · exact ((hf.symm (a2 _ (a1 i hi)) (c1 i hi)).trans (rl_map hg ψ b2 (a1 i hi) hr)).trans (c1 j hj)
  · exact ((hg.symm (a1 _ (a2 i hi)) (c2 i hi)).trans (rl_map hf φ b1 (a2 i hi) hr)).trans (c2 j hj)
end Go.Proofs.YteliflcbegcdlaaGreatDoor

namespace Go.Proofs.YteliflcbegcdlaaGreatDoor
set_option linter.unusedVariables false
open Go.RowKit
def gt (l : List Int) (i : Nat) : Int := l.getD i 0
theorem gt_get {l : List Int} {i : Nat} (h : i < l.length) : gt l i = l[i] := by simp [gt, List.getD_eq_getElem?_getD, h]
theorem gt_of {l : List Int} {i : Nat} {x : Int} (h : l[i]? = some x) : gt l i = x := by simp [gt, List.getD_eq_getElem?_getD, h]
theorem gt_of_eq {l m : List Int} {i j : Nat} (h : l[i]? = m[j]?) : gt l i = gt m j := by simp [gt, List.getD_eq_getElem?_getD, h]
/-- the column whose X stands in the row of the O of column i -/
def fC (X O : List Int) (i : Nat) : Nat := X.idxOf (gt O i)
theorem Pm.gt_inj {l : List Int} (h : Pm l) {i j : Nat} (hi : i < l.length) (hj : j < l.length) (e : gt l i = gt l j) : i = j := by
  rw [gt_get hi, gt_get hj] at e; exact h.inj hi hj e
theorem Pm.gt_rng {l : List Int} (h : Pm l) {i : Nat} (hi : i < l.length) : 0 ≤ gt l i ∧ gt l i < l.length := by rw [gt_get hi]; exact h.get hi
theorem Pm.gt_surj {l : List Int} (h : Pm l) {x : Int} (h0 : 0 ≤ x) (h1 : x < l.length) : ∃ k, k < l.length ∧ gt l k = x := by
  obtain ⟨k, hk, e⟩ := h.surj (j := x.toNat) (by omega)
  exact ⟨k, hk, by rw [gt_get hk, e]; omega⟩
section
variable {X O : List Int}
theorem Vd.oX (h : Vd X O) {i : Nat} (hi : i < X.length) : 0 ≤ gt O i ∧ gt O i < X.length := by have := h.pO.gt_rng (i := i) (by have := h.len; omega); have := h.len; omega
theorem fC_uniq (h : Vd X O) {i j : Nat} (hj : j < X.length) (e : gt X j = gt O i) : fC X O i = j := by
  unfold fC
  rw [← e, gt_get hj]
  exact h.pX.2.idxOf_getElem j hj
theorem fC_spec (h : Vd X O) {i : Nat} (hi : i < X.length) : fC X O i < X.length ∧ gt X (fC X O i) = gt O i := by
  obtain ⟨k, hk, e⟩ := h.pX.gt_surj (h.oX hi).1 (h.oX hi).2
  rw [fC_uniq h hk e]
  exact ⟨hk, e⟩
theorem fC_perm (h : Vd X O) : PermF X.length (fC X O) := by
  refine ⟨fun i hi => (fC_spec h hi).1, fun i j hi hj e => ?_⟩
  have h1 := (fC_spec h hi).2
  have h2 := (fC_spec h hj).2
  rw [e] at h1
  exact h.pO.gt_inj (by have := h.len; omega) (by have := h.len; omega) (h1.symm.trans h2)
theorem fC_ne (h : Vd X O) {i : Nat} (hi : i < X.length) : fC X O i ≠ i := by
  intro e
  have := (fC_spec h hi).2
  rw [e, gt_get hi, gt_get (by have := h.len; omega)] at this
  exact h.ne i hi _ this
end
/-- the number of components -/
def comp (X O : List Int) : Nat := cls (fC X O) X.length
theorem cyc_back {n i : Nat} (hi : i < n) : ((i + n - 1) % n + 1) % n = i := by
  rw [Nat.mod_add_mod, show i + n - 1 + 1 = i + n from by omega, Nat.add_mod_right, Nat.mod_eq_of_lt hi]
theorem cyc_fwd {n i : Nat} (hi : i < n) : ((i + 1) % n + n - 1) % n = i := by
  by_cases h : i + 1 = n
  · rw [h, Nat.mod_self, Nat.zero_add, Nat.mod_eq_of_lt (by omega)]; omega
  · rw [Nat.mod_eq_of_lt (show i + 1 < n by omega), show i + 1 + n - 1 = i + n from by omega, Nat.add_mod_right, Nat.mod_eq_of_lt hi]
theorem gt_rot (X : List Int) {j : Nat} (hj : j < X.length) : gt (rotL X) j = gt X ((j + 1) % X.length) := gt_of_eq (rotL_get X j hj)
theorem comp_rot {X O : List Int} (h : Vd X O) : comp (rotL X) (rotL O) = comp X O := by
  have h1 := rotL_vd h
  have hn := h.two
  have hl := h.len
  have hp : ∀ i, (i + X.length - 1) % X.length < X.length := fun i => Nat.mod_lt _ (by omega)
  have hq : ∀ i, (i + 1) % X.length < X.length := fun i => Nat.mod_lt _ (by omega)
  have gO : ∀ j, j < X.length → gt (rotL O) j = gt O ((j + 1) % X.length) := fun j hj => by rw [gt_rot O (by omega), hl]
  have hb := fC_perm h1
  rw [rotL_length] at hb
  unfold comp
  rw [rotL_length]
  refine (cls_eq (fC_perm h) hb (fun i => (i + X.length - 1) % X.length) (fun j => (j + 1) % X.length) (fun i _ => hp i) (fun j _ => hq j) (fun i hi => ?_) (fun j hj => ?_) (fun i hi => ?_) (fun j hj => ?_)).symm
  · refine ⟨1, ?_⟩
    have hf := fC_spec h hi
    refine fC_uniq h1 (by rw [rotL_length]; exact hp _) ?_
    simp only [itr]
    rw [gt_rot X (hp _), gO _ (hp _), cyc_back hf.1, cyc_back hi]
    exact hf.2
  · refine ⟨1, ?_⟩
    have hf := fC_spec h1 (i := j) (by rw [rotL_length]; exact hj)
    rw [rotL_length] at hf
    refine fC_uniq h (hq _) ?_
    simp only [itr]
    rw [← gt_rot X hf.1, ← gO _ hj]
    exact hf.2
  · show Rl _ (((i + X.length - 1) % X.length + 1) % X.length) i
    rw [cyc_back hi]
    exact Rl.refl _ _
  · show Rl _ (((j + 1) % X.length + X.length - 1) % X.length) j
    rw [cyc_fwd hj]
    exact Rl.refl _ _
def sw (a i : Nat) : Nat := if i = a then a + 1 else if i = a + 1 then a else i
theorem sw_sw (a i : Nat) : sw a (sw a i) = i := by unfold sw; repeat' split <;> try omega
theorem sw_lt {a n i : Nat} (ha : a + 1 < n) (hi : i < n) : sw a i < n := by unfold sw; repeat' split <;> try omega
theorem gt_swap (X : List Int) {a : Nat} (ha : a + 1 < X.length) (j : Nat) : gt (swapL X a) j = gt X (sw a j) := gt_of_eq (swapL_get X a j ha)
theorem comp_swap {X O : List Int} {a : Nat} (h : Vd X O) (ha : a + 1 < X.length) : comp (swapL X a) (swapL O a) = comp X O := by
  have h1 := swapL_vd h ha
  have hl := h.len
  have hb := fC_perm h1
  rw [swapL_length] at hb
  unfold comp
  rw [swapL_length]
  refine (cls_eq (fC_perm h) hb (sw a) (sw a) (fun i hi => sw_lt ha hi) (fun j hj => sw_lt ha hj) (fun i hi => ?_) (fun j hj => ?_) (fun i hi => ?_) (fun j hj => ?_)).symm
  · refine ⟨1, ?_⟩
    have hf := fC_spec h hi
    refine fC_uniq h1 (by rw [swapL_length]; exact sw_lt ha hf.1) ?_
    simp only [itr]
    rw [gt_swap X ha, gt_swap O (by omega), sw_sw, sw_sw]
    exact hf.2
  · refine ⟨1, ?_⟩
    have hf := fC_spec h1 (i := j) (by rw [swapL_length]; exact hj)
    rw [swapL_length] at hf
    refine fC_uniq h (sw_lt ha hf.1) ?_
    simp only [itr]
    rw [← gt_swap X ha, ← gt_swap O (a := a) (by omega)]
    exact hf.2
  · rw [sw_sw]; exact Rl.refl _ _
  · rw [sw_sw]; exact Rl.refl _ _
theorem gt_del (X : List Int) {a j : Nat} (r : Int) (ha : a < X.length) (hj : (if j < a then j else j + 1) < X.length) : gt (delL X a r) j = lowr r (gt X (if j < a then j else j + 1)) := by
  have := delL_get X a j r ha
  rw [List.getElem?_eq_getElem hj, Option.map_some] at this
  rw [gt_of this, gt_get hj]
def skq (a j : Nat) : Nat := if j < a then j else j + 1
def drp (a i : Nat) : Nat := if i < a then i else i - 1
theorem drp_skq (a j : Nat) : drp a (skq a j) = j := by
  unfold drp skq
  by_cases h : j < a
  · rw [if_pos h, if_pos h]
  · rw [if_neg h, if_neg (by omega)]; omega
theorem skq_drp {a i : Nat} (h : i ≠ a) : skq a (drp a i) = i := by
  unfold drp skq
  by_cases h1 : i < a
  · rw [if_pos h1, if_pos h1]
  · rw [if_neg h1, if_neg (by omega)]; omega
theorem skq_ne (a j : Nat) : skq a j ≠ a := by unfold skq; split <;> omega
theorem comp_del {X O : List Int} {a : Nat} (h : Vd X O) (ha : a < X.length) (hd : desOk X O a (gt X a) (gt O a) = true) :
    comp (delL X a (minG (gt X a) (gt O a))) (delL O a (minG (gt X a) (gt O a))) = comp X O := by
  have h1 : Vd (delL X a (minG (gt X a) (gt O a))) (delL O a (minG (gt X a) (gt O a))) := delL_vd h ha hd
  have hl := h.len
  have hao : a < O.length := by omega
  have hmm : maxG (gt X a) (gt O a) = minG (gt X a) (gt O a) + 1 := by
    simp only [desOk, Bool.and_eq_true, decide_eq_true_eq] at hd
    exact hd.1.2
  generalize hr : minG (gt X a) (gt O a) = r at *
  have hlen1 : (delL X a r).length = X.length - 1 := delL_length X a r ha
  have lx : lowr r (gt X a) = r := by unfold minG at hr; unfold maxG at hmm; unfold lowr; split at hr <;> split at hmm <;> split <;> omega
  have lo : lowr r (gt O a) = r := by unfold minG at hr; unfold maxG at hmm; unfold lowr; split at hr <;> split at hmm <;> split <;> omega
  have gX : ∀ i, i < X.length → i ≠ a → gt (delL X a r) (drp a i) = lowr r (gt X i) := fun i hi hne => by
    have e : (if drp a i < a then drp a i else drp a i + 1) = i := skq_drp hne
    rw [gt_del X r ha (by rw [e]; exact hi), e]
  have gO : ∀ i, i < X.length → i ≠ a → gt (delL O a r) (drp a i) = lowr r (gt O i) := fun i hi hne => by
    have e : (if drp a i < a then drp a i else drp a i + 1) = i := skq_drp hne
    rw [gt_del O r hao (by rw [e]; omega), e]
  have dlt : ∀ i, i < X.length → i ≠ a → drp a i < X.length - 1 := fun i hi hne => by unfold drp; split <;> omega
  have slt : ∀ j, j < X.length - 1 → skq a j < X.length := fun j hj => by unfold skq; split <;> omega
  have hfa := fC_spec h ha
  have hfne := fC_ne h ha
  have hpf := fC_perm h
  have hpg := fC_perm h1
  rw [hlen1] at hpg
  -- the three kinds of steps
  have s1 : ∀ i, i < X.length → i ≠ a → fC X O i ≠ a → fC (delL X a r) (delL O a r) (drp a i) = drp a (fC X O i) := fun i hi hne hne' => by
    have hf := fC_spec h hi
    refine fC_uniq h1 (by rw [hlen1]; exact dlt _ hf.1 hne') ?_
    rw [gX _ hf.1 hne', gO _ hi hne, hf.2]
  have s2 : ∀ i, i < X.length → i ≠ a → fC X O i = a → fC (delL X a r) (delL O a r) (drp a i) = drp a (fC X O a) := fun i hi hne e => by
    have hf := fC_spec h hi
    rw [e] at hf
    refine fC_uniq h1 (by rw [hlen1]; exact dlt _ hfa.1 hfne) ?_
    rw [gX _ hfa.1 hfne, gO _ hi hne, hfa.2, ← hf.2, lx, lo]
  unfold comp
  rw [hlen1]
  refine (cls_eq hpf hpg (fun i => if i = a then drp a (fC X O a) else drp a i) (skq a) (fun i hi => ?_) slt (fun i hi => ?_) (fun j hj => ?_) (fun i hi => ?_) (fun j hj => ?_)).symm
  · show (if i = a then drp a (fC X O a) else drp a i) < _
    split
    · exact dlt _ hfa.1 hfne
    · rename_i hne; exact dlt _ hi hne
  · show Rl _ (if i = a then drp a (fC X O a) else drp a i) (if fC X O i = a then drp a (fC X O a) else drp a (fC X O i))
    by_cases hne : i = a
    · subst hne
      rw [if_pos rfl, if_neg hfne]
      exact Rl.refl _ _
    · rw [if_neg hne]
      by_cases e : fC X O i = a
      · rw [if_pos e, ← s2 i hi hne e]; exact Rl.step _ _
      · rw [if_neg e, ← s1 i hi hne e]; exact Rl.step _ _
  · have hs := slt j hj
    have hne := skq_ne a j
    by_cases e : fC X O (skq a j) = a
    · have := s2 _ hs hne e
      rw [drp_skq] at this
      rw [this, skq_drp hfne]
      exact ⟨2, by show fC X O (fC X O (skq a j)) = _; rw [e]⟩
    · have := s1 _ hs hne e
      rw [drp_skq] at this
      rw [this, skq_drp e]
      exact Rl.step _ _
  · show Rl _ (skq a (if i = a then drp a (fC X O a) else drp a i)) i
    by_cases hne : i = a
    · subst hne
      rw [if_pos rfl, skq_drp hfne]
      exact hpf.symm ha (Rl.step _ _)
    · rw [if_neg hne, skq_drp hne]; exact Rl.refl _ _
  · show Rl _ (if skq a j = a then drp a (fC X O a) else drp a (skq a j)) j
    rw [if_neg (skq_ne a j), drp_skq]
    exact Rl.refl _ _
theorem gt_tr {l : List Int} (h : Pm l) {k : Nat} (hk : k < l.length) : gt (tr l) (gt l k).toNat = k := by
  rw [gt_get hk]; exact gt_of (tr_get h hk)
theorem comp_tr {X O : List Int} (h : Vd X O) : comp (tr X) (tr O) = comp X O := by
  have h1 := tr_vd h
  have hl := h.len
  have hpf := fC_perm h
  have hpg := fC_perm h1
  rw [tr_length] at hpg
  unfold comp
  rw [tr_length]
  have xr : ∀ i, i < X.length → (gt X i).toNat < X.length := fun i hi => by have := h.pX.gt_rng hi; omega
  have tt : ∀ j, j < X.length → (gt (tr X) j).toNat < X.length ∧ (gt X (gt (tr X) j).toNat).toNat = j := fun j hj => by
    obtain ⟨k, hk, e1, e2⟩ := tr_get' h.pX hj
    rw [gt_of e2, Int.toNat_natCast, gt_get hk, e1]
    exact ⟨hk, by omega⟩
  -- the X of row (X of f i) stands in the column of the O of that row
  have key : ∀ i, i < X.length → fC (tr X) (tr O) (gt X (fC X O i)).toNat = (gt X i).toNat := fun i hi => by
    have hf := fC_spec h hi
    refine fC_uniq h1 (by rw [tr_length]; exact xr i hi) ?_
    rw [gt_tr h.pX hi, hf.2, gt_tr h.pO (by omega)]
  refine (cls_eq hpf hpg (fun i => (gt X i).toNat) (fun j => (gt (tr X) j).toNat) xr (fun j hj => (tt j hj).1) (fun i hi => ?_) (fun j hj => ?_) (fun i hi => ?_) (fun j hj => ?_)).symm
  · have hf := fC_spec h hi
    refine hpg.symm (xr _ hf.1) ?_
    show Rl _ (gt X (fC X O i)).toNat (gt X i).toNat
    rw [← key i hi]
    exact Rl.step _ _
  · -- j is the row of the X of a column that is led to
    have hg := hpg.lt j hj
    have e := key (gt (tr X) (fC (tr X) (tr O) j)).toNat (tt _ hg).1
    rw [(tt _ hg).2] at e
    have hf := fC_spec h (tt _ hg).1
    have e2 : (gt X (fC X O (gt (tr X) (fC (tr X) (tr O) j)).toNat)).toNat = j := hpg.inj _ _ (xr _ hf.1) hj e
    refine hpf.symm (tt _ hg).1 ?_
    have e3 : (gt (tr X) j).toNat = fC X O (gt (tr X) (fC (tr X) (tr O) j)).toNat := by
      rw [← e2, gt_tr h.pX hf.1, Int.toNat_natCast, e2]
    show Rl _ (gt (tr X) (fC (tr X) (tr O) j)).toNat (gt (tr X) j).toNat
    rw [e3]
    exact Rl.step _ _
  · show Rl _ (gt (tr X) (gt X i).toNat).toNat i
    rw [gt_tr h.pX hi, Int.toNat_natCast]
    exact Rl.refl _ _
  · show Rl _ (gt X (gt (tr X) j).toNat).toNat j
    rw [(tt j hj).2]
    exact Rl.refl _ _
theorem comp_vw {X O : List Int} {rows : Bool} (h : Vd X O) : comp (vw rows X) (vw rows O) = comp X O := by
  cases rows
  · rfl
  · exact comp_tr h
theorem comp_apply3 {X O X1 O1 : List Int} {k a v : Int} {rows : Bool} (hk : k ≠ 4) (h : applyM X O k rows a v = (0, X1, O1)) : comp X1 O1 = comp X O := by
  obtain ⟨hv, hr, Y, P, hc, rfl, rfl⟩ := applyM_inv h
  have hw := vw_vd (rows := rows) hv
  have hvd : Vd Y P := by
    have := colsL_vd (a := a.toNat) (v := v.toNat) hw hr.1 (by rw [vw_length]; have := hr.2.1; omega) (by rw [vw_length]; have := hr.2.2; omega) (by rw [hc])
    rwa [hc] at this
  rw [comp_vw hvd, ← comp_vw (rows := rows) hv]
  have hl := vw_length rows X
  have ha := hr.2.1
  have h1 := hr.1
  generalize vw rows X = X' at *
  generalize vw rows O = O' at *
  unfold colsL at hc
  by_cases k1 : k = 1
  · rw [if_pos k1] at hc
    injection hc with _ hc
    injection hc with e1 e2
    subst e1 e2
    exact comp_rot hw
  rw [if_neg k1] at hc
  by_cases k2 : k = 2
  · rw [if_pos k2] at hc
    split at hc
    · injection hc with _ hc
      injection hc with e1 e2
      subst e1 e2
      subst k2
      refine comp_swap hw ?_
      simp [limAt] at ha
      omega
    · cases hc
  rw [if_neg k2] at hc
  by_cases k3 : k = 3
  · rw [if_pos k3] at hc
    split at hc
    · rename_i hd
      injection hc with _ hc
      injection hc with e1 e2
      subst e1 e2
      subst k3
      refine comp_del hw ?_ hd
      simp [limAt] at ha
      omega
    · cases hc
  · omega
/-- every move keeps the number of components -/
theorem comp_apply {X O X1 O1 : List Int} {k a v : Int} {rows : Bool} (h : applyM X O k rows a v = (0, X1, O1)) : comp X1 O1 = comp X O := by
  by_cases k4 : k = 4
  · subst k4
    exact (comp_apply3 (by decide) (undo_sta h)).symm
  · exact comp_apply3 k4 h
end Go.Proofs.YteliflcbegcdlaaGreatDoor

namespace Go.Proofs.YteliflcbegcdlaaGreatDoor
set_option linter.unusedVariables false
open Go.RowKit
/-- the order of lists -/
def cmpL : List Int → List Int → Int
  | [], [] => 0
  | [], _ :: _ => -1
  | _ :: _, [] => 1
  | x :: xs, y :: ys => if x < y then -1 else if y < x then 1 else cmpL xs ys
def cmpP (p q : List Int × List Int) : Int := if cmpL p.1 q.1 ≠ 0 then cmpL p.1 q.1 else cmpL p.2 q.2
theorem cmpL_anti : ∀ a b : List Int, cmpL b a = - cmpL a b := by
  intro a
  induction a with
  | nil => intro b; cases b <;> simp [cmpL]
  | cons x xs ih =>
    intro b
    cases b with
    | nil => simp [cmpL]
    | cons y ys =>
      simp only [cmpL]
      by_cases h1 : x < y
      · simp [h1, show ¬ y < x by omega]
      · by_cases h2 : y < x
        · simp [h1, h2]
        · simp only [h1, h2, if_false]; exact ih ys
theorem cmpL_zero : ∀ a b : List Int, cmpL a b = 0 → a = b := by
  intro a
  induction a with
  | nil => intro b h; cases b with
    | nil => rfl
    | cons y ys => simp [cmpL] at h
  | cons x xs ih =>
    intro b h
    cases b with
    | nil => simp [cmpL] at h
    | cons y ys =>
      simp only [cmpL] at h
      by_cases h1 : x < y
      · rw [if_pos h1] at h; omega
      · by_cases h2 : y < x
        · rw [if_neg h1, if_pos h2] at h; omega
        · rw [if_neg h1, if_neg h2] at h
          rw [ih ys h, show x = y from by omega]
theorem cmpL_trans : ∀ a b c : List Int, cmpL a b < 0 → cmpL b c < 0 → cmpL a c < 0 := by
  intro a
  induction a with
  | nil =>
    intro b c h1 h2
    cases c with
    | nil => cases b <;> simp [cmpL] at h1 h2
    | cons z zs => simp [cmpL]
  | cons x xs ih =>
    intro b c h1 h2
    cases b with
    | nil => simp [cmpL] at h1
    | cons y ys =>
      cases c with
      | nil => simp [cmpL] at h2
      | cons z zs =>
        simp only [cmpL] at h1 h2 ⊢
        by_cases a1 : x < z
        · rw [if_pos a1]; omega
        · by_cases b1 : x < y
          · by_cases c1 : y < z
            · omega
            · by_cases c2 : z < y
              · rw [if_neg c1, if_pos c2] at h2; omega
              · omega
          · by_cases b2 : y < x
            · rw [if_neg b1, if_pos b2] at h1; omega
            · rw [if_neg b1, if_neg b2] at h1
              by_cases c1 : y < z
              · omega
              · by_cases c2 : z < y
                · rw [if_neg c1, if_pos c2] at h2; omega
                · rw [if_neg c1, if_neg c2] at h2
                  rw [if_neg a1, if_neg (by omega)]
                  exact ih ys zs h1 h2
theorem cmpP_anti (a b : List Int × List Int) : cmpP b a = - cmpP a b := by
  unfold cmpP
  rw [cmpL_anti a.1 b.1, cmpL_anti a.2 b.2]
  by_cases h : cmpL a.1 b.1 = 0
  · rw [if_neg (by omega), if_neg (by omega)]
  · rw [if_pos (by omega), if_pos h]
theorem cmpP_zero (a b : List Int × List Int) (h : cmpP a b = 0) : a = b := by
  unfold cmpP at h
  by_cases h1 : cmpL a.1 b.1 = 0
  · rw [if_neg (by omega)] at h
    exact Prod.ext (cmpL_zero _ _ h1) (cmpL_zero _ _ h)
  · rw [if_pos h1] at h; exact absurd h h1
theorem cmpP_trans (a b c : List Int × List Int) (h1 : cmpP a b < 0) (h2 : cmpP b c < 0) : cmpP a c < 0 := by
  unfold cmpP at *
  by_cases x1 : cmpL a.1 b.1 = 0
  · rw [if_neg (by omega)] at h1
    rw [cmpL_zero _ _ x1]
    by_cases x2 : cmpL b.1 c.1 = 0
    · rw [if_neg (by omega)] at h2 ⊢
      exact cmpL_trans _ _ _ h1 h2
    · rw [if_pos x2] at h2 ⊢
      exact h2
  · rw [if_pos x1] at h1
    by_cases x2 : cmpL b.1 c.1 = 0
    · rw [← cmpL_zero _ _ x2, if_pos x1]; exact h1
    · rw [if_pos x2] at h2
      have := cmpL_trans _ _ _ h1 h2
      rw [if_pos (by omega)]
      exact this
/-- the translation that leads the X of column i to the first column and row -/
def cand (X O : List Int) (i : Nat) : List Int × List Int :=
  (trl ((X.length - i) % X.length) ((X.length - (gt X i).toNat) % X.length) X, trl ((X.length - i) % X.length) ((X.length - (gt X i).toNat) % X.length) O)
/-- p is the least of the first k translations -/
structure IsL (X O : List Int) (k : Nat) (p : List Int × List Int) : Prop where
  mem : ∃ i, i < k ∧ p = cand X O i
  le : ∀ i, i < k → 0 ≤ cmpP (cand X O i) p
theorem IsL.first (X O : List Int) : IsL X O 1 (cand X O 0) := ⟨⟨0, by omega, rfl⟩, fun i hi => by
  obtain rfl : i = 0 := by omega
  have := cmpP_anti (cand X O 0) (cand X O 0)
  omega⟩
theorem IsL.take {X O : List Int} {k : Nat} {p : List Int × List Int} (h : IsL X O k p) (hc : cmpP (cand X O k) p < 0) : IsL X O (k + 1) (cand X O k) := by
  refine ⟨⟨k, by omega, rfl⟩, fun i hi => ?_⟩
  by_cases e : i = k
  · subst e; have := cmpP_anti (cand X O i) (cand X O i); omega
  · have h1 := h.le i (by omega)
    have h2 := cmpP_trans (cand X O i) (cand X O k) p
    omega
theorem IsL.keep {X O : List Int} {k : Nat} {p : List Int × List Int} (h : IsL X O k p) (hc : ¬ cmpP (cand X O k) p < 0) : IsL X O (k + 1) p := by
  obtain ⟨i, hi, e⟩ := h.mem
  refine ⟨⟨i, by omega, e⟩, fun j hj => ?_⟩
  by_cases e : j = k
  · subst e; omega
  · exact h.le j (by omega)
theorem IsL.uniq {X O X1 O1 : List Int} {n m : Nat} {p q : List Int × List Int} (h : IsL X O n p) (h1 : IsL X1 O1 m q) (a : ∀ i, i < n → ∃ j, j < m ∧ cand X O i = cand X1 O1 j) (b : ∀ j, j < m → ∃ i, i < n ∧ cand X1 O1 j = cand X O i) : p = q := by
  obtain ⟨i, hi, rfl⟩ := h.mem
  obtain ⟨j, hj, rfl⟩ := h1.mem
  obtain ⟨j', hj', e1⟩ := a i hi
  obtain ⟨i', hi', e2⟩ := b j hj
  have l1 := h1.le j' hj'
  have l2 := h.le i' hi'
  rw [← e1] at l1
  rw [← e2] at l2
  have := cmpP_anti (cand X O i) (cand X1 O1 j)
  exact cmpP_zero _ _ (by omega)
theorem trl_length (c r : Nat) (l : List Int) : (trl c r l).length = l.length := reloc_length _ _ _ _
theorem mod_small {n i c : Nat} (hi : i < n) (hc : c < n) : (i + c) % n = if i + c < n then i + c else i + c - n := by
  by_cases h : i + c < n
  · rw [if_pos h, Nat.mod_eq_of_lt h]
  · rw [if_neg h, Nat.mod_eq_sub_mod (by omega), Nat.mod_eq_of_lt (by omega)]
theorem emod_small {n x r : Int} (h0 : 0 ≤ x) (hx : x < n) (r0 : 0 ≤ r) (hr : r < n) : (x + r) % n = if x + r < n then x + r else x + r - n := by
  by_cases h : x + r < n
  · rw [if_pos h, Int.emod_eq_of_lt (by omega) h]
  · rw [if_neg h, ← Int.sub_emod_right, Int.emod_eq_of_lt (by omega) (by omega)]
/-- what stands where -/
theorem gt_trl {l : List Int} {c r i : Nat} (hc : c < l.length) (hi : i < l.length) : gt (trl c r l) ((i + c) % l.length) = (gt l i + r) % l.length := by
  have hn : 0 < l.length := by omega
  refine gt_of ?_
  unfold trl
  rw [gt_get hi]
  refine (reloc_get (mv := mvTr l.length c r) hi (Nat.mod_lt _ hn) (by simp only [mvTr]; rw [Int.natCast_emod, Int.natCast_add]) (fun k' h' hne => ?_)).trans rfl
  simp only [mvTr]
  intro e
  have e' : (k' + c) % l.length = (i + c) % l.length := by rw [← Int.natCast_add, ← Int.natCast_emod] at e; omega
  rw [mod_small h' hc, mod_small hi hc] at e'
  split at e' <;> split at e' <;> omega
theorem trl_ext {l m : List Int} {c r : Nat} (hc : c < l.length) (hl : m.length = l.length) (h : ∀ i, i < l.length → gt m ((i + c) % l.length) = (gt l i + r) % l.length) : m = trl c r l := by
  apply List.ext_getElem
  · rw [hl, trl_length]
  · intro j h1 h2
    rw [hl] at h1
    have e : ((j + (l.length - c)) % l.length + c) % l.length = j := by
      rw [Nat.mod_add_mod, show j + (l.length - c) + c = j + l.length from by omega, Nat.add_mod_right, Nat.mod_eq_of_lt h1]
    have hi : (j + (l.length - c)) % l.length < l.length := Nat.mod_lt _ (by omega)
    have a := h _ hi
    have b := gt_trl (r := r) hc hi
    rw [e] at a b
    rw [← gt_get (l := m), ← gt_get (l := trl c r l), a, b]
theorem trl_trl {l : List Int} {c r c' r' : Nat} (hc : c < l.length) (hc' : c' < l.length) : trl c' r' (trl c r l) = trl ((c + c') % l.length) ((r + r') % l.length) l := by
  have hn : 0 < l.length := by omega
  refine trl_ext (Nat.mod_lt _ hn) (by rw [trl_length, trl_length]) (fun i hi => ?_)
  have h1 := gt_trl (r := r) hc hi
  have h2 := gt_trl (l := trl c r l) (c := c') (r := r') (i := (i + c) % l.length) (by rw [trl_length]; exact hc') (by rw [trl_length]; exact Nat.mod_lt _ hn)
  rw [trl_length, h1, Nat.mod_add_mod] at h2
  rw [Nat.add_mod_mod, ← Nat.add_assoc, h2, Int.natCast_emod, Int.add_emod_emod, Int.emod_add_emod]
  congr 1
  simp only [Int.natCast_add]
  omega
theorem trl_vd_gt {X : List Int} {c r i : Nat} (hp : Pm X) (hc : c < X.length) (hr : r < X.length) (hi : i < X.length) : gt (trl c r X) ((i + c) % X.length) = if gt X i + r < X.length then gt X i + r else gt X i + r - X.length := by
  have := hp.gt_rng hi
  rw [gt_trl hc hi, emod_small (by omega) (by omega) (by omega) (by omega)]
theorem cand_trl {X O : List Int} {c r i : Nat} (h : Vd X O) (hc : c < X.length) (hr : r < X.length) (hi : i < X.length) : cand (trl c r X) (trl c r O) ((i + c) % X.length) = cand X O i := by
  have hl := h.len
  have hg := h.pX.gt_rng hi
  have e := trl_vd_gt h.pX hc hr hi
  have hm := mod_small hi hc
  unfold cand
  rw [trl_length]
  have e1 : (X.length - i) % X.length = (c + (X.length - (i + c) % X.length) % X.length) % X.length := by
    rw [Nat.add_mod_mod, hm]
    split
    · rw [show c + (X.length - (i + c)) = X.length - i from by omega]
    · rw [show c + (X.length - (i + c - X.length)) = X.length + (X.length - i) from by omega, Nat.add_mod_left]
  have e2 : (X.length - (gt X i).toNat) % X.length = (r + (X.length - (gt (trl c r X) ((i + c) % X.length)).toNat) % X.length) % X.length := by
    rw [Nat.add_mod_mod, e]
    split
    · rw [show r + (X.length - (gt X i + r).toNat) = X.length - (gt X i).toNat from by omega]
    · rw [show r + (X.length - (gt X i + r - X.length).toNat) = X.length + (X.length - (gt X i).toNat) from by omega, Nat.add_mod_left]
  have hn : 0 < X.length := by omega
  rw [e1, e2]
  refine Prod.ext ?_ ?_
  · simp only
    rw [trl_trl hc (Nat.mod_lt _ hn)]
  · simp only
    rw [hl] at hc hn ⊢
    rw [trl_trl hc (Nat.mod_lt _ hn)]
theorem least_trl {X O : List Int} {c r : Nat} {p q : List Int × List Int} (h : Vd X O) (hc : c < X.length) (hr : r < X.length) (h1 : IsL X O X.length p) (h2 : IsL (trl c r X) (trl c r O) X.length q) : q = p := by
  refine h2.uniq h1 (fun j hj => ?_) (fun i hi => ?_)
  · refine ⟨(j + (X.length - c)) % X.length, Nat.mod_lt _ (by omega), ?_⟩
    rw [← cand_trl h hc hr (Nat.mod_lt _ (by omega)), Nat.mod_add_mod, show j + (X.length - c) + c = j + X.length from by omega, Nat.add_mod_right, Nat.mod_eq_of_lt hj]
  · exact ⟨(i + c) % X.length, Nat.mod_lt _ (by omega), (cand_trl h hc hr hi).symm⟩
/-- the translation of columns -/
theorem rotL_trl {X : List Int} (h : Pm X) (hn : 2 ≤ X.length) : rotL X = trl (X.length - 1) 0 X := by
  refine trl_ext (by omega) (rotL_length X) (fun i hi => ?_)
  have hg := h.gt_rng hi
  rw [gt_rot X (Nat.mod_lt _ (by omega)), Nat.mod_add_mod, show i + (X.length - 1) + 1 = i + X.length from by omega, Nat.add_mod_right, Nat.mod_eq_of_lt hi]
  simp only [Int.natCast_zero, Int.add_zero]
  rw [Int.emod_eq_of_lt hg.1 hg.2]
/-- the translation of rows -/
theorem rotR_trl {X : List Int} (h : Pm X) (hn : 2 ≤ X.length) : tr (rotL (tr X)) = trl 0 (X.length - 1) X := by
  have hpt := tr_pm h
  have hpr : Pm (rotL (tr X)) := by
    have hr := rotL_trl hpt (by rw [tr_length]; exact hn)
    refine Pm.mk_inj ?_ ?_
    · intro x hx
      rw [rotL_length]
      exact hpt.1 x (by unfold rotL at hx; rcases List.mem_append.1 hx with h | h; exact List.mem_of_mem_drop h; exact List.mem_of_mem_take h)
    · intro i j hi hj e
      rw [rotL_length] at hi hj
      rw [← gt_get, ← gt_get, gt_rot _ hi, gt_rot _ hj] at e
      have := hpt.gt_inj (Nat.mod_lt _ (by omega)) (Nat.mod_lt _ (by omega)) e
      exact mod_inj hi hj this
  refine trl_ext (by omega) (by rw [tr_length, rotL_length, tr_length]) (fun i hi => ?_)
  have hg := h.gt_rng hi
  have hl : (tr X).length = X.length := tr_length X
  -- the row j of the rotated one in which i stands
  have hj : ((gt X i).toNat + X.length - 1) % X.length < X.length := Nat.mod_lt _ (by omega)
  have e1 : gt (rotL (tr X)) (((gt X i).toNat + X.length - 1) % X.length) = i := by
    rw [gt_rot _ (by rw [hl]; exact hj), hl, cyc_back (by omega)]
    exact gt_tr h hi
  have e2 := gt_tr hpr (k := ((gt X i).toNat + X.length - 1) % X.length) (by rw [rotL_length, hl]; exact hj)
  rw [e1, Int.toNat_natCast] at e2
  rw [Nat.add_zero, Nat.mod_eq_of_lt hi, e2, Int.natCast_emod]
  congr 1
  omega
end Go.Proofs.YteliflcbegcdlaaGreatDoor

namespace Go.Proofs.YteliflcbegcdlaaGreatDoor
open Go.RowKit
set_option linter.unusedVariables false
abbrev Gd := List Int × List Int
/-- the least translation -/
def lstK (X O : List Int) : Nat → Gd
  | 0 => cand X O 0
  | k + 1 => if cmpP (cand X O (k + 1)) (lstK X O k) < 0 then cand X O (k + 1) else lstK X O k
def lstM (g : Gd) : Gd := lstK g.1 g.2 (g.1.length - 1)
theorem lstK_is (X O : List Int) : ∀ k, IsL X O (k + 1) (lstK X O k)
  | 0 => IsL.first X O
  | k + 1 => by
    rw [lstK]
    split
    · next h => exact (lstK_is X O k).take h
    · next h => exact (lstK_is X O k).keep h
theorem lstM_of {X O : List Int} {p : Gd} (hn : 0 < X.length) (h : IsL X O X.length p) : p = lstM (X, O) := by
  have k := lstK_is X O (X.length - 1)
  rw [Nat.sub_add_cancel hn] at k
  exact h.uniq k (fun i hi => ⟨i, hi, rfl⟩) (fun j hj => ⟨j, hj, rfl⟩)
/-! ### the neighbors -/
def rmM (r : Bool) (i : Int) : Mv := ⟨3, r, i, 0⟩
def coM (r : Bool) (i : Int) : Mv := ⟨2, r, i, 0⟩
def tuM (r : Bool) : Mv := ⟨1, r, 0, 0⟩
/-- the moves of a try lead somewhere -/
def tryM (g : Gd) (ms : List Mv) : List (List Mv × Gd) :=
  if (playM g.1 g.2 ms).2.2.2 < 0 ∧ (playM g.1 g.2 ms).1 = 0 then [(ms, (playM g.1 g.2 ms).2.1, (playM g.1 g.2 ms).2.2.1)] else []
def rmL (g : Gd) (r : Bool) (i : Nat) : List Mv := if (applyM g.1 g.2 3 r i 0).1 = 0 then [rmM r i] else [tuM (!r), rmM r i]
def nb1 (g : Gd) (r : Bool) (k : Nat) : List (List Mv × Gd) := (List.range k).flatMap fun i : Nat => tryM g (rmL g r i)
def nb2 (g : Gd) (r : Bool) (k : Nat) : List (List Mv × Gd) := (List.range k).flatMap fun i : Nat => tryM g [coM r (i : Int)]
def nb3 (g : Gd) (r : Bool) : List (List Mv × Gd) := tryM g [tuM r, coM r ((g.1.length : Int) - 2)]
def nbR (g : Gd) (r : Bool) : List (List Mv × Gd) := nb1 g r g.1.length ++ nb2 g r (g.1.length - 1) ++ nb3 g r
def nbrs (g : Gd) : List (List Mv × Gd) := nbR g false ++ nbR g true
/-! ### states -/
structure En where
  key : Gd
  ms : List Mv
  fr : Option Gd
abbrev St := List En × List (List Gd)
def hasK (K : List En) (c : Gd) : Bool := K.any fun e => decide (e.key = c)
def addM (most : Int) (s : St) (g : Gd) (fr : Option Gd) (ms : List Mv) : Option St :=
  if hasK s.1 (lstM g) = true then some s
  else if most ≤ (s.1.length : Int) then none
  else some (s.1 ++ [⟨lstM g, ms, fr⟩], s.2.modify g.1.length (· ++ [g]))
def addAll (most : Int) (fr : Option Gd) : St → List (List Mv × Gd) → Option St
  | s, [] => some s
  | s, (ms, g) :: t => match addM most s g fr ms with
    | none => none
    | some s' => addAll most fr s' t
def nextM : List (List Gd) → Option (Gd × List (List Gd))
  | [] => none
  | [] :: t => (nextM t).map fun p => (p.1, [] :: p.2)
  | (g :: l) :: t => some (g, l :: t)
/-- how a search ends -/
inductive Res
  | fuel
  | done (K : List En)
  | found (K : List En) (c : Gd)
/-- a run from a state -/
inductive Run (most : Int) (short : Bool) : St → Res → Prop
  | done {s : St} (h : nextM s.2 = none) : Run most short s (.done s.1)
  | found {s : St} {g : Gd} {W : List (List Gd)} (h : nextM s.2 = some (g, W)) (hs : short = true) (h2 : g.1.length = 2) : Run most short s (.found s.1 (lstM g))
  | fuel {s : St} {g : Gd} {W : List (List Gd)} (h : nextM s.2 = some (g, W)) (hs : ¬ (short = true ∧ g.1.length = 2)) (ha : addAll most (some (lstM g)) (s.1, W) (nbrs g) = none) : Run most short s .fuel
  | step {s s' : St} {g : Gd} {W : List (List Gd)} {r : Res} (h : nextM s.2 = some (g, W)) (hs : ¬ (short = true ∧ g.1.length = 2)) (ha : addAll most (some (lstM g)) (s.1, W) (nbrs g) = some s') (hr : Run most short s' r) : Run most short s r
theorem Run.det {most : Int} {short : Bool} {s : St} {r : Res} (h : Run most short s r) : ∀ {r' : Res}, Run most short s r' → r = r' := by
  induction h with
  | done h =>
    intro r' h'
    cases h' with
    | done _ => rfl
    | found h1 _ _ => rw [h] at h1; cases h1
    | fuel h1 _ _ => rw [h] at h1; cases h1
    | step h1 _ _ _ => rw [h] at h1; cases h1
  | found h hs h2 =>
    intro r' h'
    cases h' with
    | done h1 => rw [h] at h1; cases h1
    | found h1 _ _ => rw [h] at h1; injection h1 with h1; injection h1 with h1 _; rw [h1]
    | fuel h1 k _ => rw [h] at h1; injection h1 with h1; injection h1 with h1 _; subst h1; exact absurd ⟨hs, h2⟩ k
    | step h1 k _ _ => rw [h] at h1; injection h1 with h1; injection h1 with h1 _; subst h1; exact absurd ⟨hs, h2⟩ k
  | fuel h hs ha =>
    intro r' h'
    cases h' with
    | done h1 => rw [h] at h1; cases h1
    | found h1 k1 k2 => rw [h] at h1; injection h1 with h1; injection h1 with h1 _; subst h1; exact absurd ⟨k1, k2⟩ hs
    | fuel _ _ _ => rfl
    | step h1 _ ha' _ => rw [h] at h1; injection h1 with h1; injection h1 with h1 h2; subst h1; subst h2; rw [ha] at ha'; cases ha'
  | step h hs ha hr ih =>
    intro r' h'
    cases h' with
    | done h1 => rw [h] at h1; cases h1
    | found h1 k1 k2 => rw [h] at h1; injection h1 with h1; injection h1 with h1 _; subst h1; exact absurd ⟨k1, k2⟩ hs
    | fuel h1 _ ha' => rw [h] at h1; injection h1 with h1; injection h1 with h1 h2; subst h1; subst h2; rw [ha] at ha'; cases ha'
    | step h1 _ ha' hr' => rw [h] at h1; injection h1 with h1; injection h1 with h1 h2; subst h1; subst h2; rw [ha] at ha'; injection ha' with ha'; subst ha'; exact ih hr'
/-! ### runs with other budgets -/
theorem addM_len {most : Int} {s s' : St} {g : Gd} {fr : Option Gd} {ms : List Mv} (h : addM most s g fr ms = some s') : ∃ E, s'.1 = s.1 ++ E := by
  unfold addM at h
  split at h
  · injection h with h; subst h; exact ⟨[], by simp⟩
  · split at h
    · cases h
    · injection h with h; subst h; exact ⟨_, rfl⟩
theorem addAll_len {most : Int} {fr : Option Gd} : ∀ (l : List (List Mv × Gd)) {s s' : St}, addAll most fr s l = some s' → ∃ E, s'.1 = s.1 ++ E
  | [], s, s', h => by injection h with h; subst h; exact ⟨[], by simp⟩
  | (ms, g) :: t, s, s', h => by
    unfold addAll at h
    cases h1 : addM most s g fr ms with
    | none => rw [h1] at h; cases h
    | some s1 =>
      rw [h1] at h
      obtain ⟨E, e⟩ := addM_len h1
      obtain ⟨E', e'⟩ := addAll_len t h
      exact ⟨E ++ E', by rw [e', e, List.append_assoc]⟩
/-- with a smaller budget: the same, or none where the budget is below what is found -/
theorem addM_other {n m : Int} {s s' : St} {g : Gd} {fr : Option Gd} {ms : List Mv} (h : addM n s g fr ms = some s') : addM m s g fr ms = some s' ∨ (addM m s g fr ms = none ∧ m < (s'.1.length : Int)) := by
  unfold addM at h ⊢
  split at h
  · next c => rw [if_pos c]; exact .inl h
  · next c =>
    rw [if_neg c]
    split at h
    · cases h
    · by_cases k : m ≤ (s.1.length : Int)
      · right
        rw [if_pos k]
        injection h with h
        subst h
        exact ⟨rfl, by simp; omega⟩
      · left; rw [if_neg k]; exact h
theorem addAll_other {n m : Int} {fr : Option Gd} : ∀ (l : List (List Mv × Gd)) {s s' : St}, addAll n fr s l = some s' → addAll m fr s l = some s' ∨ (addAll m fr s l = none ∧ m < (s'.1.length : Int))
  | [], s, s', h => .inl h
  | (ms, g) :: t, s, s', h => by
    unfold addAll at h ⊢
    cases h1 : addM n s g fr ms with
    | none => rw [h1] at h; cases h
    | some s1 =>
      rw [h1] at h
      rcases addM_other (m := m) h1 with e | ⟨e, k⟩
      · rw [e]; exact addAll_other t h
      · right
        rw [e]
        obtain ⟨E, e'⟩ := addAll_len t h
        refine ⟨rfl, ?_⟩
        rw [e', List.length_append]; omega
theorem Run.len {n : Int} {short : Bool} {s : St} {r : Res} (h : Run n short s r) : ∀ {K : List En}, (r = .done K ∨ ∃ c, r = .found K c) → ∃ E, K = s.1 ++ E := by
  induction h with
  | done h => intro K e; rcases e with e | ⟨c, e⟩ <;> cases e; exact ⟨[], by simp⟩
  | found h hs h2 => intro K e; rcases e with e | ⟨c, e⟩ <;> cases e; exact ⟨[], by simp⟩
  | fuel h hs ha => intro K e; rcases e with e | ⟨c, e⟩ <;> cases e
  | step h hs ha hr ih =>
    intro K e
    obtain ⟨E, e1⟩ := ih e
    obtain ⟨E', e2⟩ := addAll_len _ ha
    exact ⟨E' ++ E, by rw [e1, e2, List.append_assoc]⟩
/-- a run that reaches all, against a run with another budget -/
theorem Run.other {n : Int} {s : St} {r : Res} (h : Run n false s r) : ∀ {K : List En}, r = .done K → ∀ {m : Int} {short : Bool} {r' : Res}, Run m short s r' →
    (r' = .fuel ∧ m < (K.length : Int)) ∨ r' = .done K ∨ (short = true ∧ ∃ K' c, r' = .found K' c) := by
  induction h with
  | done h =>
    intro K e m short r' h'
    injection e with e
    subst e
    cases h' with
    | done _ => exact .inr (.inl rfl)
    | found h1 _ _ => rw [h] at h1; cases h1
    | fuel h1 _ _ => rw [h] at h1; cases h1
    | step h1 _ _ _ => rw [h] at h1; cases h1
  | found h hs h2 => intro K e; cases e
  | fuel h hs ha => intro K e; cases e
  | step h hs ha hr ih =>
    intro K e m short r' h'
    cases h' with
    | done h1 => rw [h] at h1; cases h1
    | found h1 k1 k2 => exact .inr (.inr ⟨k1, _, _, rfl⟩)
    | fuel h1 k ha' =>
      rw [h] at h1; injection h1 with h1; injection h1 with h1 h2; subst h1; subst h2
      left
      refine ⟨rfl, ?_⟩
      rcases addAll_other (m := m) _ ha with q | ⟨q, q2⟩
      · rw [q] at ha'; cases ha'
      · obtain ⟨E, e1⟩ := hr.len (.inl e)
        rw [e1, List.length_append]; omega
    | step h1 k ha' hr' =>
      rw [h] at h1; injection h1 with h1; injection h1 with h1 h2; subst h1; subst h2
      rcases addAll_other (m := m) _ ha with q | ⟨q, q2⟩
      · rw [q] at ha'; injection ha' with ha'; subst ha'
        exact ih e hr'
      · rw [q] at ha'; cases ha'
end Go.Proofs.YteliflcbegcdlaaGreatDoor
