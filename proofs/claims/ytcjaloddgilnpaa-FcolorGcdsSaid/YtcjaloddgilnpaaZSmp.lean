/- Elimination on matrices of numbers: plain functions. -/
import Derived.Test.YtcjaloddgilnpaaZSml
namespace Go.Proofs.Ytcjaloddgilnpaa
set_option linter.unusedVariables false

theorem gr_map_range (n : Nat) (f : Nat → List Nat) (i : Nat) : gr ((List.range n).map f) i = if i < n then f i else [] := by
  unfold gr
  by_cases h : i < n
  · simp [h]
  · rw [if_neg h, List.getElem?_eq_none (by simp; omega)]; rfl
theorem gr_out {A : List (List Nat)} {i : Nat} (h : A.length ≤ i) : gr A i = [] := by unfold gr; rw [List.getElem?_eq_none h]; rfl
/-- the rows from lo to hi are changed -/
def updR (A : List (List Nat)) (lo hi : Nat) (f : List Nat → List Nat) : List (List Nat) := (List.range A.length).map fun i => if lo ≤ i ∧ i < hi then f (gr A i) else gr A i
theorem updR_length (A : List (List Nat)) (lo hi : Nat) (f : List Nat → List Nat) : (updR A lo hi f).length = A.length := by simp [updR]
theorem gr_updR {A : List (List Nat)} {lo hi : Nat} {f : List Nat → List Nat} {i : Nat} (h : i < A.length) : gr (updR A lo hi f) i = if lo ≤ i ∧ i < hi then f (gr A i) else gr A i := by
  unfold updR; rw [gr_map_range, if_pos h]
theorem updR_start (A : List (List Nat)) (lo : Nat) (f : List Nat → List Nat) : updR A lo lo f = A := by
  apply gr_ext (updR_length _ _ _ _)
  intro i hi
  rw [updR_length] at hi
  rw [gr_updR hi, if_neg (by omega)]
theorem updR_step {A : List (List Nat)} {lo x : Nat} {f : List Nat → List Nat} (h1 : lo ≤ x) (h2 : x < A.length) : (updR A lo x f).set x (f (gr A x)) = updR A lo (x + 1) f := by
  apply gr_ext (by simp [updR_length])
  intro i hi
  have hi' : i < A.length := by simpa [updR_length] using hi
  rw [gr_set _ _ _ _ (by rw [updR_length]; exact h2), gr_updR hi', gr_updR hi']
  by_cases e : i = x
  · subst e; rw [if_pos rfl, if_pos (by omega)]
  · rw [if_neg e]
    by_cases q : lo ≤ i ∧ i < x
    · rw [if_pos q, if_pos (by omega)]
    · rw [if_neg q, if_neg (by omega)]
theorem gr_updR_at (A : List (List Nat)) (lo x : Nat) (f : List Nat → List Nat) : gr (updR A lo x f) x = gr A x := by
  by_cases h : x < A.length
  · rw [gr_updR h, if_neg (by omega)]
  · rw [gr_out (by rw [updR_length]; omega), gr_out (by omega)]
/-- two elements of a row are exchanged -/
def swp (j k : Nat) (r : List Nat) : List Nat := (r.set j (gn r k)).set k (gn r j)
theorem swp_length (j k : Nat) (r : List Nat) : (swp j k r).length = r.length := by simp [swp]
theorem gn_swp {j k : Nat} {r : List Nat} (hj : j < r.length) (hk : k < r.length) (c : Nat) : gn (swp j k r) c = if c = k then gn r j else if c = j then gn r k else gn r c := by
  unfold swp
  rw [gn_set _ _ _ _ (by simpa using hk), gn_set _ _ _ _ hj]
theorem swp_self (k : Nat) (r : List Nat) : swp k k r = r := by
  by_cases h : k < r.length
  · apply gn_ext (swp_length _ _ _)
    intro i _
    rw [gn_swp h h]
    split
    · next e => rw [e]
    · rfl
  · unfold swp; rw [List.set_eq_of_length_le (by simp; omega), List.set_eq_of_length_le (by omega)]
theorem swR_self (A : List (List Nat)) (k : Nat) : swR A k k = A := by
  by_cases h : k < A.length
  · apply gr_ext (swR_length _ _ _)
    intro i _
    rw [gr_swR h h]
    split
    · next e => rw [e]
    · rfl
  · unfold swR; rw [List.set_eq_of_length_le (by simp; omega), List.set_eq_of_length_le (by omega)]
def swC (A : List (List Nat)) (j k : Nat) : List (List Nat) := updR A 0 A.length (swp j k)
theorem swC_length (A : List (List Nat)) (j k : Nat) : (swC A j k).length = A.length := updR_length _ _ _ _
theorem gr_swC {A : List (List Nat)} {j k i : Nat} (h : i < A.length) : gr (swC A j k) i = swp j k (gr A i) := by
  unfold swC; rw [gr_updR h, if_pos (by omega)]
theorem swC_self (A : List (List Nat)) (k : Nat) : swC A k k = A := by
  apply gr_ext (swC_length _ _ _)
  intro i hi
  rw [swC_length] at hi
  rw [gr_swC hi, swp_self]

/-- the first element other than 0 of a row, from column j on -/
def fdC (r : List Nat) : Nat → Nat → Option Nat
  | _, 0 => none
  | j, f + 1 => if gn r j ≠ 0 then some j else fdC r (j + 1) f
/-- the first element other than 0 in the rows from i on, from column k on -/
def fdR (A : List (List Nat)) (k C : Nat) : Nat → Nat → Option (Nat × Nat)
  | _, 0 => none
  | i, f + 1 => match fdC (gr A i) k (C - k) with
    | some j => some (i, j)
    | none => fdR A k C (i + 1) f
def findF (A : List (List Nat)) (k C : Nat) : Option (Nat × Nat) := fdR A k C k (A.length - k)
theorem fdC_some {r : List Nat} : ∀ {f j x : Nat}, fdC r j f = some x → j ≤ x ∧ x < j + f ∧ gn r x ≠ 0
  | 0, j, x, h => by simp [fdC] at h
  | f + 1, j, x, h => by
    unfold fdC at h
    split at h
    · next q => injection h with h; subst h; exact ⟨Nat.le_refl _, by omega, q⟩
    · obtain ⟨a, b, c⟩ := fdC_some h; exact ⟨by omega, by omega, c⟩
theorem fdC_none {r : List Nat} : ∀ {f j : Nat}, fdC r j f = none → ∀ x, j ≤ x → x < j + f → gn r x = 0
  | 0, j, _, x, h1, h2 => by omega
  | f + 1, j, h, x, h1, h2 => by
    unfold fdC at h
    split at h
    · cases h
    · next q =>
      by_cases e : x = j
      · subst e; simpa using q
      · exact fdC_none h x (by omega) (by omega)
theorem fdR_some {A : List (List Nat)} {k C : Nat} : ∀ {f i x y : Nat}, fdR A k C i f = some (x, y) → i ≤ x ∧ x < i + f ∧ k ≤ y ∧ y < k + (C - k) ∧ ge A x y ≠ 0
  | 0, i, x, y, h => by simp [fdR] at h
  | f + 1, i, x, y, h => by
    unfold fdR at h
    split at h
    · next j hj =>
      injection h with h
      injection h with h1 h2
      subst h1 h2
      obtain ⟨a, b, c⟩ := fdC_some hj
      exact ⟨by omega, by omega, a, b, c⟩
    · obtain ⟨a, b, c⟩ := fdR_some h; exact ⟨by omega, by omega, c⟩
theorem fdR_none {A : List (List Nat)} {k C : Nat} : ∀ {f i : Nat}, fdR A k C i f = none → ∀ x y, i ≤ x → x < i + f → k ≤ y → y < C → ge A x y = 0
  | 0, i, _, x, y, h1, h2, _, _ => by omega
  | f + 1, i, h, x, y, h1, h2, h3, h4 => by
    unfold fdR at h
    split at h
    · cases h
    · next hn =>
      by_cases e : x = i
      · subst e; exact fdC_none hn y h3 (by omega)
      · exact fdR_none h x y (by omega) (by omega) h3 h4
theorem findF_some {A : List (List Nat)} {k C i j : Nat} (h : findF A k C = some (i, j)) : k ≤ i ∧ i < A.length ∧ k ≤ j ∧ j < C ∧ ge A i j ≠ 0 := by
  obtain ⟨a, b, c, d, e⟩ := fdR_some h; exact ⟨a, by omega, c, by omega, e⟩
theorem findF_none {A : List (List Nat)} {k C : Nat} (h : findF A k C = none) : ∀ i j, k ≤ i → i < A.length → k ≤ j → j < C → ge A i j = 0 :=
  fun i j h1 h2 h3 h4 => fdR_none h i j h1 (by omega) h3 h4
end Go.Proofs.Ytcjaloddgilnpaa
