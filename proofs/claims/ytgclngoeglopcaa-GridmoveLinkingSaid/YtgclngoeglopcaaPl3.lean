/- Plain facts: the four moves of columns as operations on lists. -/
import Derived.Test.YtgclngoeglopcaaPl2
namespace Go.Proofs.Ytgclngoeglopcaa
open Go.RowKit

def rotL (X : List Int) : List Int := X.drop 1 ++ X.take 1
def swapL (X : List Int) (a : Nat) : List Int := (X.set a (X.getD (a + 1) 0)).set (a + 1) (X.getD a 0)
def lowr (r : Int) (x : Int) : Int := if r < x then x - 1 else x
def upr (r : Int) (too : Bool) (x : Int) : Int := if r < x ∨ (x = r ∧ too = true) then x + 1 else x
def delL (X : List Int) (a : Nat) (r : Int) : List Int := (X.take a ++ X.drop (a + 1)).map (lowr r)
def addL (X : List Int) (a : Nat) (r : Int) (too : Bool) (y : Int) : List Int := (X.map (upr r too)).take a ++ y :: (X.map (upr r too)).drop a

theorem rotL_length (X : List Int) : (rotL X).length = X.length := by simp [rotL]; omega
theorem swapL_length (X : List Int) (a : Nat) : (swapL X a).length = X.length := by simp [swapL]
theorem delL_length (X : List Int) (a : Nat) (r : Int) (h : a < X.length) : (delL X a r).length = X.length - 1 := by simp [delL]; omega
theorem addL_length (X : List Int) (a : Nat) (r : Int) (t : Bool) (y : Int) (h : a ≤ X.length) : (addL X a r t y).length = X.length + 1 := by simp [addL]; omega

theorem rotL_get (X : List Int) (j : Nat) (hj : j < X.length) : (rotL X)[j]? = X[(j + 1) % X.length]? := by
  unfold rotL
  by_cases h : j + 1 < X.length
  · rw [Nat.mod_eq_of_lt h, List.getElem?_append_left (by simp; omega), List.getElem?_drop, Nat.add_comm]
  · have e : j + 1 = X.length := by omega
    rw [e, Nat.mod_self, List.getElem?_append_right (by simp; omega), List.length_drop, List.getElem?_take]
    rw [show j - (X.length - 1) = 0 from by omega]
    simp
theorem swapL_get (X : List Int) (a j : Nat) (ha : a + 1 < X.length) : (swapL X a)[j]? = X[if j = a then a + 1 else if j = a + 1 then a else j]? := by
  unfold swapL
  by_cases h1 : j = a + 1
  · subst h1
    rw [if_neg (by omega), if_pos rfl, List.getElem?_set_self (by simp; omega), List.getD_eq_getElem?_getD, List.getElem?_eq_getElem (by omega)]
    rfl
  · rw [List.getElem?_set_ne (by omega)]
    by_cases h2 : j = a
    · subst h2
      rw [if_pos rfl, List.getElem?_set_self (by omega), List.getD_eq_getElem?_getD, List.getElem?_eq_getElem (by omega)]
      rfl
    · rw [List.getElem?_set_ne (by omega), if_neg h2, if_neg h1]
theorem delL_get (X : List Int) (a j : Nat) (r : Int) (ha : a < X.length) : (delL X a r)[j]? = (X[if j < a then j else j + 1]?).map (lowr r) := by
  unfold delL
  rw [List.getElem?_map]
  congr 1
  by_cases h : j < a
  · rw [if_pos h, List.getElem?_append_left (by simp; omega), List.getElem?_take, if_pos h]
  · rw [if_neg h, List.getElem?_append_right (by simp; omega), List.getElem?_drop, List.length_take]
    congr 1
    omega
theorem addL_get (X : List Int) (a j : Nat) (r : Int) (t : Bool) (y : Int) (ha : a ≤ X.length) :
    (addL X a r t y)[j]? = if j = a then some y else (X[if j < a then j else j - 1]?).map (upr r t) := by
  unfold addL
  by_cases h : j < a
  · rw [if_neg (by omega), if_pos h, List.getElem?_append_left (by simp; omega), List.getElem?_take, if_pos h, List.getElem?_map]
  · rw [List.getElem?_append_right (by simp; omega), List.length_take, List.length_map]
    by_cases h2 : j = a
    · subst h2
      rw [if_pos rfl, show j - min j X.length = 0 from by omega]
      rfl
    · rw [if_neg h2, if_neg h, show j - min a X.length = (j - 1 - a) + 1 from by omega, List.getElem?_cons_succ, List.getElem?_drop, List.getElem?_map]
      rw [show a + (j - 1 - a) = j - 1 from by omega]

theorem mvRot_col (n k j : Nat) (hn : 2 ≤ n) (hk : k < n) (hj : j < n) : (((k : Int) + n - 1) % (n : Int) = (j : Int)) ↔ k = (j + 1) % n := by
  by_cases h : j + 1 < n
  · rw [Nat.mod_eq_of_lt h]
    by_cases h0 : k = 0
    · subst h0
      rw [show (((0 : Nat) : Int) + n - 1) = ((n - 1 : Nat) : Int) from by omega, ← Int.natCast_emod, Nat.mod_eq_of_lt (by omega)]
      omega
    · rw [show ((k : Int) + n - 1) = ((k - 1 + n : Nat) : Int) from by omega, ← Int.natCast_emod, Nat.add_mod_right, Nat.mod_eq_of_lt (by omega)]
      omega
  · have e : j + 1 = n := by omega
    rw [e, Nat.mod_self]
    by_cases h0 : k = 0
    · subst h0
      rw [show (((0 : Nat) : Int) + n - 1) = ((n - 1 : Nat) : Int) from by omega, ← Int.natCast_emod, Nat.mod_eq_of_lt (by omega)]
      omega
    · rw [show ((k : Int) + n - 1) = ((k - 1 + n : Nat) : Int) from by omega, ← Int.natCast_emod, Nat.add_mod_right, Nat.mod_eq_of_lt (by omega)]
      omega
theorem reloc_rot (X : List Int) (b : Bool) (hn : 2 ≤ X.length) : reloc (mvRot X.length) b X.length X = rotL X := by
  apply List.ext_getElem?
  intro j
  by_cases hj : j < X.length
  · rw [rotL_get X j hj]
    have hk : (j + 1) % X.length < X.length := Nat.mod_lt _ (by omega)
    rw [List.getElem?_eq_getElem hk]
    refine (reloc_get (mv := mvRot X.length) hk hj ?_ (fun k' h hne => ?_)).trans rfl
    · exact (mvRot_col _ _ _ hn hk hj).2 rfl
    · intro e
      exact hne ((mvRot_col _ _ _ hn h hj).1 e)
  · rw [List.getElem?_eq_none (by rw [reloc_length]; omega), List.getElem?_eq_none (by rw [rotL_length]; omega)]
theorem reloc_swap (X : List Int) (a : Nat) (b : Bool) (ha : a + 1 < X.length) : reloc (mvSwap a) b X.length X = swapL X a := by
  apply List.ext_getElem?
  intro j
  by_cases hj : j < X.length
  · rw [swapL_get X a j ha]
    have hk : (if j = a then a + 1 else if j = a + 1 then a else j) < X.length := by split <;> (try split) <;> omega
    rw [List.getElem?_eq_getElem hk]
    refine (reloc_get (mv := mvSwap a) hk hj ?_ (fun k' h hne => ?_)).trans rfl
    · simp only [mvSwap]
      repeat' split
      all_goals omega
    · intro e
      apply hne
      simp only [mvSwap] at e
      revert e
      repeat' split
      all_goals omega
  · rw [List.getElem?_eq_none (by rw [reloc_length]; omega), List.getElem?_eq_none (by rw [swapL_length]; omega)]
theorem reloc_del (X : List Int) (a : Nat) (low : Int) (b : Bool) (ha : a < X.length) : reloc (mvDel low a) b (X.length - 1) X = delL X a low := by
  apply List.ext_getElem?
  intro j
  by_cases hj : j < X.length - 1
  · rw [delL_get X a j low ha]
    have hk : (if j < a then j else j + 1) < X.length := by split <;> omega
    rw [List.getElem?_eq_getElem hk]
    refine (reloc_get (mv := mvDel low a) hk hj ?_ (fun k' h hne => ?_)).trans rfl
    · simp only [mvDel]
      repeat' split
      all_goals omega
    · intro e
      apply hne
      simp only [mvDel] at e
      revert e
      repeat' split
      all_goals omega
  · rw [List.getElem?_eq_none (by rw [reloc_length]; omega), List.getElem?_eq_none (by rw [delL_length _ _ _ ha]; omega)]
theorem reloc_add (X : List Int) (a : Nat) (r : Int) (st b : Bool) (y : Int) (ha : a ≤ X.length) : (reloc (mvAdd r st a) b (X.length + 1) X).set a y = addL X a r (b != st) y := by
  apply List.ext_getElem?
  intro j
  by_cases hj : j < X.length + 1
  · rw [addL_get X a j r _ y ha]
    by_cases h2 : j = a
    · subst h2
      rw [if_pos rfl, List.getElem?_set_self (by rw [reloc_length]; omega)]
    · rw [if_neg h2, List.getElem?_set_ne (by omega)]
      have hk : (if j < a then j else j - 1) < X.length := by split <;> omega
      rw [List.getElem?_eq_getElem hk]
      refine (reloc_get (mv := mvAdd r st a) hk hj ?_ (fun k' h hne => ?_)).trans ?_
      · simp only [mvAdd]
        repeat' split
        all_goals omega
      · intro e
        apply hne
        simp only [mvAdd] at e
        revert e
        repeat' split
        all_goals omega
      · simp [mvAdd, upr]
  · rw [List.getElem?_eq_none (by rw [List.length_set, reloc_length]; omega), List.getElem?_eq_none (by rw [addL_length _ _ _ _ _ ha]; omega)]
end Go.Proofs.Ytgclngoeglopcaa
