/- Least translations: plain facts. -/
import Derived.Test.YteliflcbegcdlaaGreatDoorZCyc
import Derived.Test.YteliflcbegcdlaaGreatDoorZDtr
namespace Go.Proofs.YteliflcbegcdlaaGreatDoor
set_option linter.unusedVariables false
open Go.RowKit
/-- the order of lists -/
def cmpL : List Int → List Int → Int
  | [], [] => 0
  | [], _ :: _ => -1
  | _ :: _, [] => 1
  | x :: xs, y :: ys => if x < y then -1 else if y < x then 1 else cmpL xs ys
def cmpP (p q : List Int × List Int) : Int := if cmpL p.1 q.1 ≠ 0 then cmpL p.1 q.1 else cmpL p.2 q.2
theorem cmpL_anti : ∀ a b : List Int, cmpL b a = - cmpL a b := by
  intro a
  induction a with
  | nil => intro b; cases b <;> simp [cmpL]
  | cons x xs ih =>
    intro b
    cases b with
    | nil => simp [cmpL]
    | cons y ys =>
      simp only [cmpL]
      by_cases h1 : x < y
      · simp [h1, show ¬ y < x by omega]
      · by_cases h2 : y < x
        · simp [h1, h2]
        · simp only [h1, h2, if_false]; exact ih ys
theorem cmpL_zero : ∀ a b : List Int, cmpL a b = 0 → a = b := by
  intro a
  induction a with
  | nil => intro b h; cases b with
    | nil => rfl
    | cons y ys => simp [cmpL] at h
  | cons x xs ih =>
    intro b h
    cases b with
    | nil => simp [cmpL] at h
    | cons y ys =>
      simp only [cmpL] at h
      by_cases h1 : x < y
      · rw [if_pos h1] at h; omega
      · by_cases h2 : y < x
        · rw [if_neg h1, if_pos h2] at h; omega
        · rw [if_neg h1, if_neg h2] at h
          rw [ih ys h, show x = y from by omega]
theorem cmpL_trans : ∀ a b c : List Int, cmpL a b < 0 → cmpL b c < 0 → cmpL a c < 0 := by
  intro a
  induction a with
  | nil =>
    intro b c h1 h2
    cases c with
    | nil => cases b <;> simp [cmpL] at h1 h2
    | cons z zs => simp [cmpL]
  | cons x xs ih =>
    intro b c h1 h2
    cases b with
    | nil => simp [cmpL] at h1
    | cons y ys =>
      cases c with
      | nil => simp [cmpL] at h2
      | cons z zs =>
        simp only [cmpL] at h1 h2 ⊢
        by_cases a1 : x < z
        · rw [if_pos a1]; omega
        · by_cases b1 : x < y
          · by_cases c1 : y < z
            · omega
            · by_cases c2 : z < y
              · rw [if_neg c1, if_pos c2] at h2; omega
              · omega
          · by_cases b2 : y < x
            · rw [if_neg b1, if_pos b2] at h1; omega
            · rw [if_neg b1, if_neg b2] at h1
              by_cases c1 : y < z
              · omega
              · by_cases c2 : z < y
                · rw [if_neg c1, if_pos c2] at h2; omega
                · rw [if_neg c1, if_neg c2] at h2
                  rw [if_neg a1, if_neg (by omega)]
                  exact ih ys zs h1 h2
theorem cmpP_anti (a b : List Int × List Int) : cmpP b a = - cmpP a b := by
  unfold cmpP
  rw [cmpL_anti a.1 b.1, cmpL_anti a.2 b.2]
  by_cases h : cmpL a.1 b.1 = 0
  · rw [if_neg (by omega), if_neg (by omega)]
  · rw [if_pos (by omega), if_pos h]
theorem cmpP_zero (a b : List Int × List Int) (h : cmpP a b = 0) : a = b := by
  unfold cmpP at h
  by_cases h1 : cmpL a.1 b.1 = 0
  · rw [if_neg (by omega)] at h
    exact Prod.ext (cmpL_zero _ _ h1) (cmpL_zero _ _ h)
  · rw [if_pos h1] at h; exact absurd h h1
theorem cmpP_trans (a b c : List Int × List Int) (h1 : cmpP a b < 0) (h2 : cmpP b c < 0) : cmpP a c < 0 := by
  unfold cmpP at *
  by_cases x1 : cmpL a.1 b.1 = 0
  · rw [if_neg (by omega)] at h1
    rw [cmpL_zero _ _ x1]
    by_cases x2 : cmpL b.1 c.1 = 0
    · rw [if_neg (by omega)] at h2 ⊢
      exact cmpL_trans _ _ _ h1 h2
    · rw [if_pos x2] at h2 ⊢
      exact h2
  · rw [if_pos x1] at h1
    by_cases x2 : cmpL b.1 c.1 = 0
    · rw [← cmpL_zero _ _ x2, if_pos x1]; exact h1
    · rw [if_pos x2] at h2
      have := cmpL_trans _ _ _ h1 h2
      rw [if_pos (by omega)]
      exact this
/-- the translation that leads the X of column i to the first column and row -/
def cand (X O : List Int) (i : Nat) : List Int × List Int :=
  (trl ((X.length - i) % X.length) ((X.length - (gt X i).toNat) % X.length) X, trl ((X.length - i) % X.length) ((X.length - (gt X i).toNat) % X.length) O)
/-- p is the least of the first k translations -/
structure IsL (X O : List Int) (k : Nat) (p : List Int × List Int) : Prop where
  mem : ∃ i, i < k ∧ p = cand X O i
  le : ∀ i, i < k → 0 ≤ cmpP (cand X O i) p
theorem IsL.first (X O : List Int) : IsL X O 1 (cand X O 0) := ⟨⟨0, by omega, rfl⟩, fun i hi => by
  obtain rfl : i = 0 := by omega
  have := cmpP_anti (cand X O 0) (cand X O 0)
  omega⟩
theorem IsL.take {X O : List Int} {k : Nat} {p : List Int × List Int} (h : IsL X O k p) (hc : cmpP (cand X O k) p < 0) : IsL X O (k + 1) (cand X O k) := by
  refine ⟨⟨k, by omega, rfl⟩, fun i hi => ?_⟩
  by_cases e : i = k
  · subst e; have := cmpP_anti (cand X O i) (cand X O i); omega
  · have h1 := h.le i (by omega)
    have h2 := cmpP_trans (cand X O i) (cand X O k) p
    omega
theorem IsL.keep {X O : List Int} {k : Nat} {p : List Int × List Int} (h : IsL X O k p) (hc : ¬ cmpP (cand X O k) p < 0) : IsL X O (k + 1) p := by
  obtain ⟨i, hi, e⟩ := h.mem
  refine ⟨⟨i, by omega, e⟩, fun j hj => ?_⟩
  by_cases e : j = k
  · subst e; omega
  · exact h.le j (by omega)
theorem IsL.uniq {X O X1 O1 : List Int} {n m : Nat} {p q : List Int × List Int} (h : IsL X O n p) (h1 : IsL X1 O1 m q) (a : ∀ i, i < n → ∃ j, j < m ∧ cand X O i = cand X1 O1 j) (b : ∀ j, j < m → ∃ i, i < n ∧ cand X1 O1 j = cand X O i) : p = q := by
  obtain ⟨i, hi, rfl⟩ := h.mem
  obtain ⟨j, hj, rfl⟩ := h1.mem
  obtain ⟨j', hj', e1⟩ := a i hi
  obtain ⟨i', hi', e2⟩ := b j hj
  have l1 := h1.le j' hj'
  have l2 := h.le i' hi'
  rw [← e1] at l1
  rw [← e2] at l2
  have := cmpP_anti (cand X O i) (cand X1 O1 j)
  exact cmpP_zero _ _ (by omega)
theorem trl_length (c r : Nat) (l : List Int) : (trl c r l).length = l.length := reloc_length _ _ _ _
theorem mod_small {n i c : Nat} (hi : i < n) (hc : c < n) : (i + c) % n = if i + c < n then i + c else i + c - n := by
  by_cases h : i + c < n
  · rw [if_pos h, Nat.mod_eq_of_lt h]
  · rw [if_neg h, Nat.mod_eq_sub_mod (by omega), Nat.mod_eq_of_lt (by omega)]
theorem emod_small {n x r : Int} (h0 : 0 ≤ x) (hx : x < n) (r0 : 0 ≤ r) (hr : r < n) : (x + r) % n = if x + r < n then x + r else x + r - n := by
  by_cases h : x + r < n
  · rw [if_pos h, Int.emod_eq_of_lt (by omega) h]
  · rw [if_neg h, ← Int.sub_emod_right, Int.emod_eq_of_lt (by omega) (by omega)]
/-- what stands where -/
theorem gt_trl {l : List Int} {c r i : Nat} (hc : c < l.length) (hi : i < l.length) : gt (trl c r l) ((i + c) % l.length) = (gt l i + r) % l.length := by
  have hn : 0 < l.length := by omega
  refine gt_of ?_
  unfold trl
  rw [gt_get hi]
  refine (reloc_get (mv := mvTr l.length c r) hi (Nat.mod_lt _ hn) (by simp only [mvTr]; rw [Int.natCast_emod, Int.natCast_add]) (fun k' h' hne => ?_)).trans rfl
  simp only [mvTr]
  intro e
  have e' : (k' + c) % l.length = (i + c) % l.length := by rw [← Int.natCast_add, ← Int.natCast_emod] at e; omega
  rw [mod_small h' hc, mod_small hi hc] at e'
  split at e' <;> split at e' <;> omega
theorem trl_ext {l m : List Int} {c r : Nat} (hc : c < l.length) (hl : m.length = l.length) (h : ∀ i, i < l.length → gt m ((i + c) % l.length) = (gt l i + r) % l.length) : m = trl c r l := by
  apply List.ext_getElem
  · rw [hl, trl_length]
  · intro j h1 h2
    rw [hl] at h1
    have e : ((j + (l.length - c)) % l.length + c) % l.length = j := by
      rw [Nat.mod_add_mod, show j + (l.length - c) + c = j + l.length from by omega, Nat.add_mod_right, Nat.mod_eq_of_lt h1]
    have hi : (j + (l.length - c)) % l.length < l.length := Nat.mod_lt _ (by omega)
    have a := h _ hi
    have b := gt_trl (r := r) hc hi
    rw [e] at a b
    rw [← gt_get (l := m), ← gt_get (l := trl c r l), a, b]
theorem trl_trl {l : List Int} {c r c' r' : Nat} (hc : c < l.length) (hc' : c' < l.length) : trl c' r' (trl c r l) = trl ((c + c') % l.length) ((r + r') % l.length) l := by
  have hn : 0 < l.length := by omega
  refine trl_ext (Nat.mod_lt _ hn) (by rw [trl_length, trl_length]) (fun i hi => ?_)
  have h1 := gt_trl (r := r) hc hi
  have h2 := gt_trl (l := trl c r l) (c := c') (r := r') (i := (i + c) % l.length) (by rw [trl_length]; exact hc') (by rw [trl_length]; exact Nat.mod_lt _ hn)
  rw [trl_length, h1, Nat.mod_add_mod] at h2
  rw [Nat.add_mod_mod, ← Nat.add_assoc, h2, Int.natCast_emod, Int.add_emod_emod, Int.emod_add_emod]
  congr 1
  simp only [Int.natCast_add]
  omega
theorem trl_vd_gt {X : List Int} {c r i : Nat} (hp : Pm X) (hc : c < X.length) (hr : r < X.length) (hi : i < X.length) : gt (trl c r X) ((i + c) % X.length) = if gt X i + r < X.length then gt X i + r else gt X i + r - X.length := by
  have := hp.gt_rng hi
  rw [gt_trl hc hi, emod_small (by omega) (by omega) (by omega) (by omega)]
theorem cand_trl {X O : List Int} {c r i : Nat} (h : Vd X O) (hc : c < X.length) (hr : r < X.length) (hi : i < X.length) : cand (trl c r X) (trl c r O) ((i + c) % X.length) = cand X O i := by
  have hl := h.len
  have hg := h.pX.gt_rng hi
  have e := trl_vd_gt h.pX hc hr hi
  have hm := mod_small hi hc
  unfold cand
  rw [trl_length]
  have e1 : (X.length - i) % X.length = (c + (X.length - (i + c) % X.length) % X.length) % X.length := by
    rw [Nat.add_mod_mod, hm]
    split
    · rw [show c + (X.length - (i + c)) = X.length - i from by omega]
    · rw [show c + (X.length - (i + c - X.length)) = X.length + (X.length - i) from by omega, Nat.add_mod_left]
  have e2 : (X.length - (gt X i).toNat) % X.length = (r + (X.length - (gt (trl c r X) ((i + c) % X.length)).toNat) % X.length) % X.length := by
    rw [Nat.add_mod_mod, e]
    split
    · rw [show r + (X.length - (gt X i + r).toNat) = X.length - (gt X i).toNat from by omega]
    · rw [show r + (X.length - (gt X i + r - X.length).toNat) = X.length + (X.length - (gt X i).toNat) from by omega, Nat.add_mod_left]
  have hn : 0 < X.length := by omega
  rw [e1, e2]
  refine Prod.ext ?_ ?_
  · simp only
    rw [trl_trl hc (Nat.mod_lt _ hn)]
  · simp only
    rw [hl] at hc hn ⊢
    rw [trl_trl hc (Nat.mod_lt _ hn)]
theorem least_trl {X O : List Int} {c r : Nat} {p q : List Int × List Int} (h : Vd X O) (hc : c < X.length) (hr : r < X.length) (h1 : IsL X O X.length p) (h2 : IsL (trl c r X) (trl c r O) X.length q) : q = p := by
  refine h2.uniq h1 (fun j hj => ?_) (fun i hi => ?_)
  · refine ⟨(j + (X.length - c)) % X.length, Nat.mod_lt _ (by omega), ?_⟩
    rw [← cand_trl h hc hr (Nat.mod_lt _ (by omega)), Nat.mod_add_mod, show j + (X.length - c) + c = j + X.length from by omega, Nat.add_mod_right, Nat.mod_eq_of_lt hj]
  · exact ⟨(i + c) % X.length, Nat.mod_lt _ (by omega), (cand_trl h hc hr hi).symm⟩
/-- the translation of columns -/
theorem rotL_trl {X : List Int} (h : Pm X) (hn : 2 ≤ X.length) : rotL X = trl (X.length - 1) 0 X := by
  refine trl_ext (by omega) (rotL_length X) (fun i hi => ?_)
  have hg := h.gt_rng hi
  rw [gt_rot X (Nat.mod_lt _ (by omega)), Nat.mod_add_mod, show i + (X.length - 1) + 1 = i + X.length from by omega, Nat.add_mod_right, Nat.mod_eq_of_lt hi]
  simp only [Int.natCast_zero, Int.add_zero]
  rw [Int.emod_eq_of_lt hg.1 hg.2]
/-- the translation of rows -/
theorem rotR_trl {X : List Int} (h : Pm X) (hn : 2 ≤ X.length) : tr (rotL (tr X)) = trl 0 (X.length - 1) X := by
  have hpt := tr_pm h
  have hpr : Pm (rotL (tr X)) := by
    have hr := rotL_trl hpt (by rw [tr_length]; exact hn)
    refine Pm.mk_inj ?_ ?_
    · intro x hx
      rw [rotL_length]
      exact hpt.1 x (by unfold rotL at hx; rcases List.mem_append.1 hx with h | h; exact List.mem_of_mem_drop h; exact List.mem_of_mem_take h)
    · intro i j hi hj e
      rw [rotL_length] at hi hj
      rw [← gt_get, ← gt_get, gt_rot _ hi, gt_rot _ hj] at e
      have := hpt.gt_inj (Nat.mod_lt _ (by omega)) (Nat.mod_lt _ (by omega)) e
      exact mod_inj hi hj this
  refine trl_ext (by omega) (by rw [tr_length, rotL_length, tr_length]) (fun i hi => ?_)
  have hg := h.gt_rng hi
  have hl : (tr X).length = X.length := tr_length X
  -- the row j of the rotated one in which i stands
  have hj : ((gt X i).toNat + X.length - 1) % X.length < X.length := Nat.mod_lt _ (by omega)
  have e1 : gt (rotL (tr X)) (((gt X i).toNat + X.length - 1) % X.length) = i := by
    rw [gt_rot _ (by rw [hl]; exact hj), hl, cyc_back (by omega)]
    exact gt_tr h hi
  have e2 := gt_tr hpr (k := ((gt X i).toNat + X.length - 1) % X.length) (by rw [rotL_length, hl]; exact hj)
  rw [e1, Int.toNat_natCast] at e2
  rw [Nat.add_zero, Nat.mod_eq_of_lt hi, e2, Int.natCast_emod]
  congr 1
  omega
end Go.Proofs.YteliflcbegcdlaaGreatDoor
