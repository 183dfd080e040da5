/- The number of solutions modulo a divisor of the modulus is kept by the steps of factors: the four basic steps (plain). -/
/- The steps of factors keep the number of solutions; what factors finds, told by numbers of solutions (plain). -/
/- Chains of divisors: kept products, and they are told by their products (plain). -/
/- The number of solutions is the product of the greatest common divisors of the invariants and the modulus (plain). -/
/- FcolorCounts returns true. -/
import Derived.Test.YtcjaloddgilnpaaZNxr
import Derived.Test.YtcjaloddgilnpaaZGcr
import Derived.Test.YtcjaloddgilnpaaZLgc
namespace Go.Proofs.Ytcjaloddgilnpaa
set_option linter.unusedVariables false

/-- the number of solutions depends on the elements modulo e -/
theorem nSol_mod {n C e : Nat} {M M' : Nat → Nat → Int} (h : ∀ i j, i < n → j < C → (e : Int) ∣ M i j - M' i j) : nSol n C M e = nSol n C M' e := by
  refine cntV_congr (fun x => ?_)
  rw [Bool.eq_iff_iff, solB_true, solB_true]
  have hd : ∀ i, i < n → (e : Int) ∣ sumI C (fun j => M i j * (x j : Int)) - sumI C (fun j => M' i j * (x j : Int)) := fun i hi => sumI_mod (fun l hl => by
    show (e : Int) ∣ M i l * (x l : Int) - M' i l * (x l : Int)
    rw [← Int.sub_mul]
    exact Int.dvd_trans (h i l hi hl) (Int.dvd_mul_right _ _))
  constructor
  · intro q i hi
    have := Int.dvd_sub (q i hi) (hd i hi)
    rwa [show ∀ a b : Int, a - (a - b) = b from fun a b => by omega] at this
  · intro q i hi
    have := Int.dvd_add (hd i hi) (q i hi)
    rwa [Int.sub_add_cancel] at this
theorem nSol_congr {n C e : Nat} {M M' : Nat → Nat → Int} (h : ∀ i j, i < n → j < C → M i j = M' i j) : nSol n C M e = nSol n C M' e :=
  nSol_mod (fun i j hi hj => by rw [h i j hi hj, Int.sub_self]; exact Int.dvd_zero _)
/-- the rows in another order -/
theorem nSol_rows {n C e : Nat} {M M' : Nat → Nat → Int} (f g : Nat → Nat) (hf : ∀ i, i < n → f i < n) (hg : ∀ i, i < n → g i < n) (h1 : ∀ i j, i < n → j < C → M' i j = M (f i) j) (h2 : ∀ i j, i < n → j < C → M i j = M' (g i) j) : nSol n C M' e = nSol n C M e := by
  refine cntV_congr (fun x => ?_)
  rw [Bool.eq_iff_iff, solB_true, solB_true]
  constructor
  · intro q i hi
    have := q (g i) (hg i hi)
    rwa [sumI_congr (g := fun j => M i j * (x j : Int)) (fun j hj => by rw [h2 i j hi hj])] at this
  · intro q i hi
    have := q (f i) (hf i hi)
    rwa [sumI_congr (g := fun j => M' i j * (x j : Int)) (fun j hj => by rw [h1 i j hi hj])] at this
theorem nSol_swap_le {n C e : Nat} {M M' : Nat → Nat → Int} (he : 0 < e) {a b : Nat} (ha : a < C) (hb : b < C) (hab : a ≠ b)
    (hg : ∀ i j, i < n → j < C → M' i j = M i (if j = b then a else if j = a then b else j)) : nSol n C M e ≤ nSol n C M' e := by
  refine cntV_le he (solB_loc n C M' e) (fun x j => x (if j = b then a else if j = a then b else j)) (fun x hx hs => ⟨?_, fun j hj => ?_⟩) (fun x y hx hy h j hj => ?_)
  · rw [solB_true] at hs ⊢
    intro i hi
    have e1 := sumI_two (f := fun j => M' i j * ((x (if j = b then a else if j = a then b else j) : Nat) : Int)) (g := fun j => M i j * (x j : Int)) ha hb hab (fun l h1 h2 h3 => by
      show M' i l * _ = _
      rw [hg i l hi h1, if_neg h3, if_neg h2])
    simp only [hg i a hi ha, hg i b hi hb, if_neg hab, if_pos] at e1
    rw [e1, show sumI C (fun j => M i j * (x j : Int)) + (M i b * (x b : Int) - M i a * (x a : Int)) + (M i a * (x a : Int) - M i b * (x b : Int)) = sumI C (fun j => M i j * (x j : Int)) by omega]
    exact hs i hi
  · show x _ < e
    apply hx
    split
    · exact ha
    · split
      · exact hb
      · exact hj
  · have h1 := h (if j = b then a else if j = a then b else j) (by
      split
      · exact ha
      · split
        · exact hb
        · exact hj)
    have e1 : (if (if j = b then a else if j = a then b else j) = b then a else if (if j = b then a else if j = a then b else j) = a then b else (if j = b then a else if j = a then b else j)) = j := by
      by_cases q1 : j = b
      · simp [q1, hab]
      · by_cases q2 : j = a
        · simp [q2, hab]
        · simp [q1, q2]
    simp only [e1] at h1
    exact h1
theorem nSol_swap {n C e : Nat} {M M' : Nat → Nat → Int} (he : 0 < e) {a b : Nat} (ha : a < C) (hb : b < C) (hab : a ≠ b)
    (hg : ∀ i j, i < n → j < C → M' i j = M i (if j = b then a else if j = a then b else j)) : nSol n C M' e = nSol n C M e := by
  apply Nat.le_antisymm _ (nSol_swap_le he ha hb hab hg)
  refine nSol_swap_le he ha hb hab (fun i j hi hj => ?_)
  rw [hg i _ hi (by
    split
    · exact ha
    · split
      · exact hb
      · exact hj)]
  by_cases q1 : j = b
  · simp [q1, hab]
  · by_cases q2 : j = a
    · simp [q2, hab]
    · simp [q1, q2]

/-- the matrix at work as integers -/
def gZ (A : List (List Nat)) (i j : Nat) : Int := (ge A i j : Int)
structure Ns (m C k : Nat) (x0 : Nat → Nat) (e N : Nat) (A : List (List Nat)) : Prop where
  blk : ∀ i j, i < A.length → j < C → (i < k ∨ j < k) → i ≠ j → ge A i j = 0
  num : nSol A.length C (gZ A) e = N
  dia : ∀ i, i < k → ge A i i = x0 i
  ep : 0 < e
  em : e ∣ m
  kl : k ≤ A.length
section
variable {m C k e N : Nat} {x0 : Nat → Nat} {A : List (List Nat)}
theorem Ns.swR (h : Ns m C k x0 e N A) {a b : Nat} (ha : a < A.length) (hb : b < A.length) (hka : k ≤ a) (hkb : k ≤ b) : Ns m C k x0 e N (swR A a b) := by
  have hg : ∀ i j, ge (Go.Proofs.Ytcjaloddgilnpaa.swR A a b) i j = if i = b then ge A a j else if i = a then ge A b j else ge A i j := by
    intro i j
    unfold ge
    rw [gr_swR ha hb]
    split
    · rfl
    · split <;> rfl
  refine ⟨fun i j hi hj hor hne => ?_, ?_, fun i hi => ?_, h.ep, h.em, by rw [swR_length]; exact h.kl⟩
  · rw [swR_length] at hi
    rw [hg]
    split
    · next e => exact h.blk a j ha hj (by omega) (by omega)
    · split
      · exact h.blk b j hb hj (by omega) (by omega)
      · exact h.blk i j hi hj hor hne
  · rw [swR_length, ← h.num]
    have hlt : ∀ i, i < A.length → (if i = b then a else if i = a then b else i) < A.length := by
      intro i hi
      split
      · exact ha
      · split
        · exact hb
        · exact hi
    refine nSol_rows (fun i => if i = b then a else if i = a then b else i) (fun i => if i = b then a else if i = a then b else i) hlt hlt (fun i j hi hj => ?_) (fun i j hi hj => ?_)
    · unfold gZ; rw [hg]
      split
      · rfl
      · split <;> rfl
    · unfold gZ; rw [hg]
      by_cases q1 : i = b
      · by_cases q3 : a = b
        · simp [q1, q3]
        · simp [q1, q3]
      · by_cases q2 : i = a
        · simp [q2]
        · simp [q1, q2]
  · rw [hg, if_neg (by omega), if_neg (by omega)]; exact h.dia i hi
/-- two columns are exchanged in all rows -/
theorem Ns.swap {B : List (List Nat)} (h : Ns m C k x0 e N A) (hl : B.length = A.length) {a b : Nat} (ha : a < C) (hb : b < C) (hka : k ≤ a) (hkb : k ≤ b) (hab : a ≠ b)
    (hg : ∀ i j, i < A.length → j < C → ge B i j = ge A i (if j = b then a else if j = a then b else j)) : Ns m C k x0 e N B := by
  refine ⟨fun i j hi hj hor hne => ?_, ?_, fun i hi => ?_, h.ep, h.em, by rw [hl]; exact h.kl⟩
  · rw [hl] at hi
    rw [hg i j hi hj]
    split
    · next e => exact h.blk i a hi ha (by omega) (by omega)
    · split
      · exact h.blk i b hi hb (by omega) (by omega)
      · exact h.blk i j hi hj hor hne
  · rw [hl, ← h.num]
    exact nSol_swap h.ep ha hb hab (fun i j hi hj => by unfold gZ; rw [hg i j hi hj])
  · rw [hg i i (by have := h.kl; omega) (by omega), if_neg (by omega), if_neg (by omega)]; exact h.dia i hi
/-- a multiple of column k is taken from column j -/
theorem Ns.col {B : List (List Nat)} (h : Ns m C k x0 e N A) (hl : B.length = A.length) {j : Nat} {b : Int} (hj : j < C) (hkC : k < C) (hkj : k < j)
    (hg : ∀ i l, i < A.length → l < C → l ≠ j → ge B i l = ge A i l) (hm : ∀ i, i < A.length → (m : Int) ∣ (ge B i j : Int) - ((ge A i j : Int) - b * (ge A i k : Int))) (hz : ∀ i, i < k → i < A.length → ge B i j = 0) : Ns m C k x0 e N B := by
  have hem' : (e : Int) ∣ (m : Int) := Int.natCast_dvd_natCast.2 h.em
  refine ⟨fun i l hi hl' hor hne => ?_, ?_, fun i hi => ?_, h.ep, h.em, by rw [hl]; exact h.kl⟩
  · rw [hl] at hi
    by_cases q : l = j
    · subst q
      exact hz i (by omega) hi
    · rw [hg i l hi hl' q]; exact h.blk i l hi hl' hor hne
  · rw [hl, ← h.num, ← nSol_col (M := gZ A) (a := j) (b := k) h.ep (-b) hj hkC (by omega)]
    refine nSol_mod (fun i l hi hl' => ?_)
    unfold cAdd gZ
    by_cases q : l = j
    · subst q
      rw [if_pos rfl, Int.neg_mul, ← Int.sub_eq_add_neg]
      exact Int.dvd_trans hem' (hm i hi)
    · rw [if_neg q, hg i l hi hl' q, Int.sub_self]; exact Int.dvd_zero _
  · rw [hg i i (by have := h.kl; omega) (by omega) (by omega)]; exact h.dia i hi
/-- a multiple of row k is taken from row i -/
theorem Ns.row {B : List (List Nat)} (h : Ns m C k x0 e N A) (hl : B.length = A.length) {i : Nat} {b : Int} (hi : i < A.length) (hki : k < i)
    (hg : ∀ r l, r < A.length → r ≠ i → ge B r l = ge A r l) (hm : ∀ l, l < C → (m : Int) ∣ (ge B i l : Int) - ((ge A i l : Int) - b * (ge A k l : Int))) (hz : ∀ l, l < k → l < C → ge B i l = 0) : Ns m C k x0 e N B := by
  have hem' : (e : Int) ∣ (m : Int) := Int.natCast_dvd_natCast.2 h.em
  refine ⟨fun r l hr hl' hor hne => ?_, ?_, fun r hr => ?_, h.ep, h.em, by rw [hl]; exact h.kl⟩
  · rw [hl] at hr
    by_cases q : r = i
    · subst q; exact hz l (by omega) hl'
    · rw [hg r l hr q]; exact h.blk r l hr hl' hor hne
  · rw [hl, ← h.num, ← nSol_row (M := gZ A) (a := i) (b := k) (-b) hi (by omega) (by omega)]
    refine nSol_mod (fun r l hr hl' => ?_)
    unfold rAdd gZ
    by_cases q : r = i
    · subst q
      rw [if_pos rfl, Int.neg_mul, ← Int.sub_eq_add_neg]
      exact Int.dvd_trans hem' (hm l hl')
    · rw [if_neg q, hg r l hr q, Int.sub_self]; exact Int.dvd_zero _
  · rw [hg r r (by have := h.kl; omega) (by omega)]; exact h.dia r hr
end
end Go.Proofs.Ytcjaloddgilnpaa

namespace Go.Proofs.Ytcjaloddgilnpaa
set_option linter.unusedVariables false

section
variable {m C k e N : Nat} {x0 : Nat → Nat} {A : List (List Nat)}
theorem Ns.elS (h : Ns m C k x0 e N A) (hc : Cl C A) {x y : Nat} (hk : k < A.length) (hkC : k < C) (hx : x < A.length) (hy : y < C) (hkx : k ≤ x) (hky : k ≤ y) : Ns m C k x0 e N (elS A k x y) := by
  have h1 := h.swR hx hk hkx (Nat.le_refl k)
  have hc1 := hc.swR hx hk
  unfold Go.Proofs.Ytcjaloddgilnpaa.elS
  by_cases e : y = k
  · rw [e, swC_self]; exact h1
  · refine h1.swap (swC_length _ _ _) hy hkC hky (Nat.le_refl k) e (fun i j hi hj => ?_)
    have hl := hc1 i hi
    unfold ge
    rw [gr_swC hi, gn_swp (by rw [hl]; exact hy) (by rw [hl]; exact hkC)]
    split
    · rfl
    · split <;> rfl
theorem Ns.rowPre (h : Ns m C k x0 e N A) (hw : Wk m k C A) {i : Nat} (hi : i < A.length) (hki : k < i) : Ns m C k x0 e N (rowPre k i A) := by
  unfold Go.Proofs.Ytcjaloddgilnpaa.rowPre
  split
  · exact h.swR hw.kn hi (Nat.le_refl _) (by omega)
  · exact h
theorem Ns.rowStep (h : Ns m C k x0 e N A) (hw : Wk m k C A) {i : Nat} (hi : i < A.length) (hki : k < i) : Ns m C k x0 e N (rowStep m k i A) := by
  have h1 := h.rowPre hw hi hki
  have hc := hw.cl.rowPre hi hw.kn (k := k) (i := i)
  have hl : (gr (Go.Proofs.Ytcjaloddgilnpaa.rowPre k i A) i).length = C := hc i (by rw [rowPre_length]; exact hi)
  have hge : ∀ l, l < C → ge (Go.Proofs.Ytcjaloddgilnpaa.rowStep m k i A) i l = if k ≤ l then (ge (Go.Proofs.Ytcjaloddgilnpaa.rowPre k i A) i l + (m - ge (Go.Proofs.Ytcjaloddgilnpaa.rowPre k i A) i k / ge (Go.Proofs.Ytcjaloddgilnpaa.rowPre k i A) k k * ge (Go.Proofs.Ytcjaloddgilnpaa.rowPre k i A) k l % m)) % m else ge (Go.Proofs.Ytcjaloddgilnpaa.rowPre k i A) i l := by
    intro l hl'
    show gn (gr (Go.Proofs.Ytcjaloddgilnpaa.rowStep m k i A) i) l = _
    rw [gr_rowStep hi, if_pos rfl, gn_cmb (by rw [hl]; exact hl')]
    by_cases q : k ≤ l
    · rw [if_pos q, if_pos ⟨q, by rw [hl]; exact hl'⟩]; rfl
    · rw [if_neg q, if_neg (fun z => q z.1)]; rfl
  have hh := h1
  have hi' : i < (Go.Proofs.Ytcjaloddgilnpaa.rowPre k i A).length := by rw [rowPre_length]; exact hi
  have hk' : k < (Go.Proofs.Ytcjaloddgilnpaa.rowPre k i A).length := by rw [rowPre_length]; exact hw.kn
  refine Ns.row (b := ((ge (Go.Proofs.Ytcjaloddgilnpaa.rowPre k i A) i k / ge (Go.Proofs.Ytcjaloddgilnpaa.rowPre k i A) k k : Nat) : Int)) hh (by rw [rowStep_length, rowPre_length]) hi' hki (fun r l hr hne => ?_) (fun l hl' => ?_) (fun l hlk hl' => ?_)
  · unfold ge; rw [gr_rowStep hi, if_neg hne]
  · rw [hge l hl']
    by_cases q : k ≤ l
    · rw [if_pos q, ← Int.natCast_mul]
      exact mod_sub_dvd m _ _ hw.m0
    · rw [if_neg q, hh.blk i l hi' hl' (by omega) (by omega), hh.blk k l hk' hl' (by omega) (by omega)]
      simp
  · rw [hge l hl', if_neg (by omega)]
    exact hh.blk i l hi' hl' (by omega) (by omega)
theorem Ns.colPre (h : Ns m C k x0 e N A) (hw : Wk m k C A) {j : Nat} (hj : j < C) (hkj : k < j) : Ns m C k x0 e N (colPre k j A) := by
  unfold Go.Proofs.Ytcjaloddgilnpaa.colPre
  split
  · have hh := h
    refine Ns.swap (a := k) (b := j) hh (updR_length _ _ _ _) hw.kC hj (Nat.le_refl k) (by omega) (by omega) (fun i l hi hl' => ?_)
    have hl := hw.cl i hi
    show gn (gr _ i) l = _
    rw [gr_updR hi]
    by_cases q : k ≤ i
    · rw [if_pos ⟨q, hi⟩, gn_swp (by rw [hl]; exact hw.kC) (by rw [hl]; exact hj)]
      split
      · rfl
      · split <;> rfl
    · rw [if_neg (fun z => q z.1)]
      have z1 := hh.blk i k hi hw.kC (by omega) (by omega)
      have z2 := hh.blk i j hi hj (by omega) (by omega)
      split
      · next e => rw [e]; exact z2.trans z1.symm
      · split
        · next e => rw [e]; exact z1.trans z2.symm
        · rfl
  · exact h
theorem Ns.colStep (h : Ns m C k x0 e N A) (hw : Wk m k C A) {j : Nat} (hj : j < C) (hkj : k < j) : Ns m C k x0 e N (colStep m k j A) := by
  have h1 := h.colPre hw hj hkj
  have hp := hw.colPre hj
  have hh := h1
  have hlen : ∀ i, i < A.length → (gr (Go.Proofs.Ytcjaloddgilnpaa.colPre k j A) i).length = C := fun i hi => hp.cl i (by rw [colPre_length]; exact hi)
  refine Ns.col (b := ((ge (Go.Proofs.Ytcjaloddgilnpaa.colPre k j A) k j / ge (Go.Proofs.Ytcjaloddgilnpaa.colPre k j A) k k : Nat) : Int)) hh (by rw [colStep_length, colPre_length]) hj hw.kC hkj (fun i l hi hl' hne => ?_) (fun i hi => ?_) (fun i hik hi => ?_)
  · rw [colPre_length] at hi
    unfold ge
    rw [gr_colStep hi]
    split
    · rw [gn_colF (by rw [hlen i hi]; exact hj), if_neg hne]
    · rfl
  · have hi' := hi
    rw [colPre_length] at hi
    by_cases q : k ≤ i
    · have e : ge (Go.Proofs.Ytcjaloddgilnpaa.colStep m k j A) i j = (ge (Go.Proofs.Ytcjaloddgilnpaa.colPre k j A) i j + (m - ge (Go.Proofs.Ytcjaloddgilnpaa.colPre k j A) k j / ge (Go.Proofs.Ytcjaloddgilnpaa.colPre k j A) k k * ge (Go.Proofs.Ytcjaloddgilnpaa.colPre k j A) i k % m)) % m := by
        show gn (gr _ i) j = _
        rw [gr_colStep hi, if_pos q, gn_colF (by rw [hlen i hi]; exact hj), if_pos rfl]; rfl
      rw [e, ← Int.natCast_mul]
      exact mod_sub_dvd m _ _ hw.m0
    · have e : ge (Go.Proofs.Ytcjaloddgilnpaa.colStep m k j A) i j = ge (Go.Proofs.Ytcjaloddgilnpaa.colPre k j A) i j := by
        show gn (gr _ i) j = _
        rw [gr_colStep hi, if_neg q]; rfl
      rw [e, hh.blk i j hi' hj (by omega) (by omega), hh.blk i k hi' hw.kC (by omega) (by omega)]
      simp
  · have hi' := hi
    rw [colPre_length] at hi
    show gn (gr _ i) j = 0
    rw [gr_colStep hi, if_neg (by omega)]
    exact hh.blk i j hi' hj (by omega) (by omega)
end
theorem Ns.rowWhile {m C k i e N : Nat} {x0 : Nat → Nat} (hki : k < i) : ∀ (f : Nat) (A : List (List Nat)), Ns m C k x0 e N A → Wk m k C A → i < A.length → Ns m C k x0 e N (rowWhile m k i f A)
  | 0, A, h, _, _ => h
  | f + 1, A, h, hw, hi => by
    rw [Go.Proofs.Ytcjaloddgilnpaa.rowWhile]; split
    · exact h
    · exact Ns.rowWhile hki f _ (h.rowStep hw hi hki) (hw.rowStep hi (by omega)) (by rw [rowStep_length]; exact hi)
theorem Ns.rowsU {m C k e N : Nat} {x0 : Nat → Nat} {A : List (List Nat)} (h : Ns m C k x0 e N A) (hw : Wk m k C A) : ∀ x, k + 1 + x ≤ A.length → Ns m C k x0 e N (rowsU m k A x)
  | 0, _ => h
  | x + 1, hx => by
    rw [Go.Proofs.Ytcjaloddgilnpaa.rowsU]
    exact Ns.rowWhile (by omega) _ _ (Ns.rowsU h hw x (by omega)) (rowsU_all hw x (by omega)).1 (by rw [rowsU_length]; omega)
theorem Ns.colWhile {m C k j e N : Nat} {x0 : Nat → Nat} (hj : j < C) (hkj : k < j) : ∀ (f : Nat) (A : List (List Nat)), Ns m C k x0 e N A → Wk m k C A → Ns m C k x0 e N (colWhile m k j f A)
  | 0, A, h, _ => h
  | f + 1, A, h, hw => by
    rw [Go.Proofs.Ytcjaloddgilnpaa.colWhile]; split
    · exact h
    · exact Ns.colWhile hj hkj f _ (h.colStep hw hj hkj) (hw.colStep hj (by omega))
theorem Ns.colsU {m C k e N : Nat} {x0 : Nat → Nat} {A : List (List Nat)} (h : Ns m C k x0 e N A) (hw : Wk m k C A) : ∀ y, k + 1 + y ≤ C → Ns m C k x0 e N (colsU m k A y)
  | 0, _ => h
  | y + 1, hy => by
    rw [Go.Proofs.Ytcjaloddgilnpaa.colsU]
    exact Ns.colWhile (by omega) (by omega) _ _ (Ns.colsU h hw y (by omega)) (colsU_all hw y (by omega)).1
theorem Ns.rowsAll {m C k e N : Nat} {x0 : Nat → Nat} {A : List (List Nat)} (h : Ns m C k x0 e N A) (hw : Wk m k C A) : Ns m C k x0 e N (rowsAll m k A) := h.rowsU hw _ (by have := hw.kn; omega)
theorem Ns.colsAll {m C k e N : Nat} {x0 : Nat → Nat} {A : List (List Nat)} (h : Ns m C k x0 e N A) (hw : Wk m k C A) : Ns m C k x0 e N (colsAll m k C A) := h.colsU hw _ (by have := hw.kC; omega)
theorem Ns.isoF {m C k e N : Nat} {x0 : Nat → Nat} : ∀ (f : Nat) (A : List (List Nat)), Ns m C k x0 e N A → Wk m k C A → Ns m C k x0 e N (isoF m k C f A)
  | 0, A, h, _ => h
  | f + 1, A, h, hw => by
    rw [Go.Proofs.Ytcjaloddgilnpaa.isoF]; split
    · exact Ns.isoF f _ ((h.rowsAll hw).colsAll hw.rowsAll) hw.rowsAll.colsAll
    · exact (h.rowsAll hw).colsAll hw.rowsAll

theorem gcd_gcd_dvd {a m e : Nat} (h : e ∣ m) : Nat.gcd (Nat.gcd a m) e = Nat.gcd a e := by
  rw [Nat.gcd_assoc, Nat.gcd_eq_right h]
/-- one more place of the diagonal -/
theorem Ns.succ {m C k e N : Nat} {x0 : Nat → Nat} {A : List (List Nat)} (h : Ns m C k x0 e N A) (hk : k < A.length) (hkC : k < C) (hc : ∀ i, k < i → i < A.length → ge A i k = 0) (hr : ∀ j, k < j → j < C → ge A k j = 0) :
    Ns m C (k + 1) (fun i => if i = k then ge A k k else x0 i) e N A := by
  refine ⟨fun i j hi hj hor hne => ?_, h.num, fun i hi => ?_, h.ep, h.em, hk⟩
  · by_cases q : i < k ∨ j < k
    · exact h.blk i j hi hj q hne
    · by_cases e : i = k
      · subst e; exact hr j (by omega) hj
      · have e2 : j = k := by omega
        subst e2; exact hc i (by omega) hi
  · show _ = if i = k then ge A k k else x0 i
    by_cases q : i = k
    · rw [if_pos q, q]
    · rw [if_neg q]; exact h.dia i (by omega)
theorem facA_ns {m C : Nat} {A : List (List Nat)} (hl : Ltm m A) (hc : Cl C A) (hm : 0 < m) {e : Nat} (he : 0 < e) (hem : e ∣ m) : ∀ k, k ≤ A.length → k ≤ C → Ns m C k (fun i => ge (facA m C A (i + 1)) i i) e (nSol A.length C (gZ A) e) (facA m C A k)
  | 0, _, _ => ⟨fun i j _ _ q => by omega, rfl, fun i hi => by omega, he, hem, Nat.zero_le _⟩
  | k + 1, h1, h2 => by
    have hx := facA_ns hl hc hm he hem k (by omega) (by omega)
    obtain ⟨l1, l2, l3⟩ := facA_all hl hc hm k
    have key : Ns m C k (fun i => ge (facA m C A (i + 1)) i i) e (nSol A.length C (gZ A) e) (facA m C A (k + 1)) ∧ (∀ i, k < i → i < A.length → ge (facA m C A (k + 1)) i k = 0) ∧ (∀ j, k < j → j < C → ge (facA m C A (k + 1)) k j = 0) ∧ (facA m C A (k + 1)).length = A.length := by
      cases hF : findF (facA m C A k) k C with
      | none =>
        have e1 : facA m C A (k + 1) = facA m C A k := by rw [facA]; exact facS_none hF
        rw [e1]
        have hz := findF_none hF
        exact ⟨hx, fun i q1 q2 => hz i k (by omega) (by omega) (Nat.le_refl _) (by omega), fun j q1 q2 => hz k j (Nat.le_refl _) (by omega) (by omega) q2, l3⟩
      | some xy =>
        obtain ⟨a, b⟩ := xy
        obtain ⟨q1, q2, q3, q4, _⟩ := findF_some hF
        have e1 : facA m C A (k + 1) = isoF m k C (isoM k C (elS (facA m C A k) k a b) + 1) (elS (facA m C A k) k a b) := by rw [facA]; exact facS_some hF
        rw [e1]
        have hw := wk_of_find hF l1 l2 hm
        have hk1 := Ns.elS (x := a) (y := b) hx l2 (by omega) (by omega) q2 q4 q1 q3
        have hx' := Ns.isoF (isoM k C (elS (facA m C A k) k a b) + 1) _ hk1 hw
        obtain ⟨z1, z2⟩ := isoF_zero (isoM k C (elS (facA m C A k) k a b) + 1) _ hw (by omega)
        exact ⟨hx', fun i p1 p2 => z1 i p1 (by rw [elS_length]; omega), z2, by rw [isoF_length, elS_length]; exact l3⟩
    obtain ⟨hx', z1, z2, l4⟩ := key
    have s1 := hx'.succ (by omega) (by omega) (fun i p1 p2 => z1 i p1 (by omega)) z2
    refine ⟨s1.blk, s1.num, fun i hi => ?_, s1.ep, s1.em, s1.kl⟩
    rw [s1.dia i hi]
    show (if i = k then _ else _) = _
    by_cases q : i = k
    · rw [if_pos q, q]
    · rw [if_neg q]
/-- the product of the greatest common divisors with e -/
def pG (d : Nat) (D : List Nat) (e : Nat) : Nat := prodN d (fun j => Nat.gcd (gn D j) e)
theorem prodN_split {f : Nat → Nat} {e d : Nat} (c : Nat) (h : ∀ j, d ≤ j → j < d + c → f j = e) : prodN (d + c) f = prodN d f * e ^ c := by
  induction c with
  | zero => simp
  | succ c ih => rw [← Nat.add_assoc, prodN, ih (fun j h1 h2 => h j h1 (by omega)), h (d + c) (by omega) (by omega), Nat.pow_succ, Nat.mul_assoc]
theorem nSol_fac {m C : Nat} {A : List (List Nat)} (hl : Ltm m A) (hc : Cl C A) (hm : 0 < m) {e : Nat} (he : 0 < e) (hem : e ∣ m) :
    nSol A.length C (gZ A) e = pG (min A.length C) (dgP m C A (min A.length C) (min A.length C)) e * e ^ (C - min A.length C) := by
  obtain ⟨d, hd⟩ : ∃ d, d = min A.length C := ⟨_, rfl⟩
  rw [← hd]
  have h := facA_ns hl hc hm he hem d (by omega) (by omega)
  obtain ⟨l1, l2, l3⟩ := facA_all hl hc hm d
  have hz : ∀ i j, i < A.length → j < C → i ≠ j → gZ (facA m C A d) i j = 0 := fun i j hi hj hne => by
    unfold gZ
    rw [h.blk i j (by omega) hj (by omega) hne]; rfl
  rw [← h.num, l3, nSol_diag he hz]
  have e1 : ∀ j, j < d → fct A.length (gZ (facA m C A d)) e j = Nat.gcd (gn (dgP m C A d d) j) e := fun j hj => by
    unfold fct gZ
    rw [if_pos (by omega), h.dia j hj, gn_dgP hj, if_pos hj, Int.natAbs_natCast]
    exact (gcd_gcd_dvd hem).symm
  have e2 : ∀ j, d ≤ j → j < d + (C - d) → fct A.length (gZ (facA m C A d)) e j = e := fun j h1 h2 => by
    unfold fct
    rw [if_neg (by omega)]
  have e3 : prodN C (fct A.length (gZ (facA m C A d)) e) = prodN (d + (C - d)) (fct A.length (gZ (facA m C A d)) e) := by rw [show d + (C - d) = C by omega]
  rw [e3, prodN_split _ e2, prodN_congr e1]; rfl
end Go.Proofs.Ytcjaloddgilnpaa

namespace Go.Proofs.Ytcjaloddgilnpaa
set_option linter.unusedVariables false

/-- two numbers may be replaced by their greatest common divisor and their least common multiple -/
theorem gcd_lcm_mul (a b : Nat) {e : Nat} (he : 0 < e) : Nat.gcd (Nat.gcd a b) e * Nat.gcd (Nat.lcm a b) e = Nat.gcd a e * Nat.gcd b e := by
  rcases Nat.eq_zero_or_pos a with q | q
  · subst q; simp [Nat.mul_comm]
  obtain ⟨g, hg⟩ : ∃ g, g = Nat.gcd a b := ⟨_, rfl⟩
  have hg0 : 0 < g := by rw [hg]; exact Nat.gcd_pos_of_pos_left _ q
  obtain ⟨a', ha⟩ : g ∣ a := by rw [hg]; exact Nat.gcd_dvd_left _ _
  obtain ⟨b', hb⟩ : g ∣ b := by rw [hg]; exact Nat.gcd_dvd_right _ _
  have hco : Nat.gcd a' b' = 1 := by
    have h1 : Nat.gcd (g * a') (g * b') = g := by rw [← ha, ← hb]; exact hg.symm
    rw [Nat.gcd_mul_left] at h1
    exact Nat.eq_of_mul_eq_mul_left hg0 (by rw [h1, Nat.mul_one])
  have hl : Nat.lcm a b = g * (a' * b') := by
    unfold Nat.lcm
    rw [← hg]
    apply Nat.div_eq_of_eq_mul_right hg0
    rw [ha, hb, Nat.mul_assoc, Nat.mul_left_comm a' g b']
  obtain ⟨h, hh⟩ : ∃ h, h = Nat.gcd g e := ⟨_, rfl⟩
  have hh0 : 0 < h := by rw [hh]; exact Nat.gcd_pos_of_pos_left _ hg0
  obtain ⟨g', hg'⟩ : h ∣ g := by rw [hh]; exact Nat.gcd_dvd_left _ _
  obtain ⟨e', he'⟩ : h ∣ e := by rw [hh]; exact Nat.gcd_dvd_right _ _
  have hco2 : Nat.gcd g' e' = 1 := by
    have h1 : Nat.gcd (h * g') (h * e') = h := by rw [← hg', ← he']; exact hh.symm
    rw [Nat.gcd_mul_left] at h1
    exact Nat.eq_of_mul_eq_mul_left hh0 (by rw [h1, Nat.mul_one])
  have key : ∀ x, Nat.gcd (g * x) e = h * Nat.gcd x e' := by
    intro x
    rw [hg', he', Nat.mul_assoc, Nat.gcd_mul_left]
    congr 1
    exact Nat.Coprime.gcd_mul_left_cancel x hco2
  have k2 : Nat.gcd (a' * b') e' = Nat.gcd a' e' * Nat.gcd b' e' := by
    rw [Nat.gcd_comm (a' * b'), Nat.gcd_comm a', Nat.gcd_comm b']
    exact Nat.Coprime.gcd_mul e' hco
  have k3 : Nat.gcd (Nat.gcd a b) e = h := by rw [← hg, hh]
  rw [k3, hl, key, k2]
  have ka : Nat.gcd a e = h * Nat.gcd a' e' := by rw [ha]; exact key a'
  have kb : Nat.gcd b e = h * Nat.gcd b' e' := by rw [hb]; exact key b'
  rw [ka, kb]
  simp only [Nat.mul_assoc, Nat.mul_left_comm]
/-- two places of a product -/
theorem prodN_two {d i k : Nat} {f g : Nat → Nat} (hi : i < d) (hk : k < d) (hik : i ≠ k) (h : ∀ j, j < d → j ≠ i → j ≠ k → f j = g j) (h2 : f i * f k = g i * g k) : prodN d f = prodN d g := by
  have one : ∀ (d j : Nat) (f : Nat → Nat), j < d → prodN d f = f j * prodN d (fun l => if l = j then 1 else f l) := by
    intro d
    induction d with
    | zero => intro j f hj; omega
    | succ d ih =>
      intro j f hj
      rw [prodN, prodN]
      by_cases e : j = d
      · subst e
        rw [prodN_congr (f := f) (g := fun l => if l = j then 1 else f l) (fun l hl => by rw [if_neg (by omega)]), if_pos rfl, Nat.mul_one, Nat.mul_comm]
      · rw [ih j f (by omega), if_neg (fun q => e q.symm), Nat.mul_assoc]
  rw [one d i f hi, one d k (fun l => if l = i then 1 else f l) hk, one d i g hi, one d k (fun l => if l = i then 1 else g l) hk, if_neg (fun q => hik q.symm), if_neg (fun q => hik q.symm), ← Nat.mul_assoc, ← Nat.mul_assoc, h2]
  congr 1
  refine prodN_congr (fun l hl => ?_)
  by_cases q1 : l = k
  · rw [if_pos q1, if_pos q1]
  · rw [if_neg q1, if_neg q1]
    by_cases q2 : l = i
    · rw [if_pos q2, if_pos q2]
    · rw [if_neg q2, if_neg q2]; exact h l hl q2 q1
theorem pG_chS {d i k : Nat} {D : List Nat} (hD : D.length = d) (hi : i < d) (hk : k < d) (hik : i ≠ k) {e : Nat} (he : 0 < e) : pG d (chS i k D) e = pG d D e := by
  unfold pG
  refine prodN_two hi hk hik (fun j hj h1 h2 => ?_) ?_
  · rw [gn_chS (by omega) (by omega), if_neg h2, if_neg h1]
  · rw [gn_chS (by omega) (by omega), gn_chS (by omega) (by omega), if_neg hik, if_pos rfl, if_pos rfl]
    exact gcd_lcm_mul _ _ he
theorem pG_chU {d i : Nat} {D : List Nat} (hD : D.length = d) (hi : i < d) {e : Nat} (he : 0 < e) : ∀ x, i + 1 + x ≤ d → pG d (chU i D x) e = pG d D e
  | 0, _ => rfl
  | x + 1, hx => by
    rw [chU, pG_chS (by rw [chU_length]; exact hD) hi (by omega) (by omega) he]
    exact pG_chU hD hi he x (by omega)
theorem pG_chI {d : Nat} {D : List Nat} (hD : D.length = d) {e : Nat} (he : 0 < e) : ∀ i, i ≤ d → pG d (chI d D i) e = pG d D e
  | 0, _ => rfl
  | i + 1, hi => by
    rw [chI, pG_chU (by rw [chI_length]; exact hD) (by omega) he _ (by omega)]
    exact pG_chI hD he i (by omega)
/-- a property of numbers that greatest common divisors and least common multiples keep -/
theorem chI_all {d : Nat} {D : List Nat} (hD : D.length = d) (P : Nat → Prop) (h1 : ∀ a b, P a → P b → P (Nat.gcd a b)) (h2 : ∀ a b, P a → P b → P (Nat.lcm a b)) (h : ∀ j, j < d → P (gn D j)) : ∀ i, i ≤ d → ∀ j, j < d → P (gn (chI d D i) j)
  | 0, _ => h
  | i + 1, hi => by
    have ih := chI_all hD P h1 h2 h i (by omega)
    have hl : (chI d D i).length = d := by rw [chI_length]; exact hD
    rw [chI]
    generalize chI d D i = E at *
    have key : ∀ x, i + 1 + x ≤ d → ∀ j, j < d → P (gn (chU i E x) j) := by
      intro x
      induction x with
      | zero => intro _; exact ih
      | succ x ihx =>
        intro hx j hj
        have hE : (chU i E x).length = d := by rw [chU_length]; exact hl
        rw [chU, gn_chS (by omega) (by omega)]
        have a := ihx (by omega) i (by omega)
        have b := ihx (by omega) (i + 1 + x) (by omega)
        split
        · exact h2 _ _ a b
        · split
          · exact h1 _ _ a b
          · exact ihx (by omega) j hj
    exact key _ (by omega)
theorem prodN_le_cancel {d : Nat} {f g : Nat → Nat} (hle : ∀ j, j < d → f j ≤ g j) (hp : ∀ j, j < d → 0 < g j) (h : prodN d f = prodN d g) : ∀ j, j < d → f j = g j := by
  induction d with
  | zero => intro j hj; omega
  | succ d ih =>
    rw [prodN, prodN] at h
    have hm : prodN d f ≤ prodN d g := prodN_mono (fun j hj => hle j (by omega))
    have hpp : 0 < prodN d g := by
      have : ∀ d, (∀ j, j < d → 0 < g j) → 0 < prodN d g := by
        intro d
        induction d with
        | zero => intro _; simp [prodN]
        | succ d ih => intro hq; rw [prodN]; exact Nat.mul_pos (ih (fun j hj => hq j (by omega))) (hq d (by omega))
      exact this d (fun j hj => hp j (by omega))
    have h1 := hle d (by omega)
    have h2 := hp d (by omega)
    have e1 : f d = g d := by
      rcases Nat.lt_or_ge (f d) (g d) with q | q
      · have h3 : prodN d f * f d ≤ prodN d g * f d := Nat.mul_le_mul_right _ hm
        have h4 : prodN d g * f d < prodN d g * g d := Nat.mul_lt_mul_of_pos_left q hpp
        omega
      · omega
    have e2 : prodN d f = prodN d g := by
      rw [e1] at h
      exact Nat.eq_of_mul_eq_mul_right h2 h
    intro j hj
    by_cases q : j = d
    · rw [q]; exact e1
    · exact ih (fun j hj => hle j (by omega)) (fun j hj => hp j (by omega)) e2 j (by omega)
/-- half of the uniqueness -/
theorem chain_half {d D : Nat} {g t : Nat → Nat} (hD : 0 < D) (ht : ∀ j, j < d → t j ∣ D) (hct : ∀ a b, a < b → b < d → t a ∣ t b)
    (h : ∀ e, 0 < e → e ∣ D → prodN d (fun j => Nat.gcd (g j) e) = prodN d (fun j => Nat.gcd (t j) e)) {i : Nat} (hi : i < d) (hs : ∀ j, j < i → g j = t j) : t i ∣ g i := by
  have ti0 : 0 < t i := Nat.pos_of_dvd_of_pos (ht i hi) hD
  have h1 := h (t i) ti0 (ht i hi)
  have h2 := prodN_le_cancel (f := fun j => Nat.gcd (g j) (t i)) (g := fun j => Nat.gcd (t j) (t i)) (d := d) (fun j hj => by
    show Nat.gcd (g j) (t i) ≤ Nat.gcd (t j) (t i)
    rcases Nat.lt_or_ge j i with q | q
    · rw [hs j q]; exact Nat.le_refl _
    · have : Nat.gcd (t j) (t i) = t i := by
        rcases Nat.eq_or_lt_of_le q with q | q
        · rw [q, Nat.gcd_self]
        · exact Nat.gcd_eq_right (hct i j q hj)
      rw [this]
      exact Nat.le_of_dvd ti0 (Nat.gcd_dvd_right _ _)) (fun j hj => Nat.gcd_pos_of_pos_right _ ti0) h1 i hi
  simp only [Nat.gcd_self] at h2
  rw [← h2]
  exact Nat.gcd_dvd_left _ _
/-- chains of divisors of D with the same products are equal -/
theorem chain_uniq {d D : Nat} {g t : Nat → Nat} (hD : 0 < D) (hg : ∀ j, j < d → g j ∣ D) (ht : ∀ j, j < d → t j ∣ D) (hcg : ∀ a b, a < b → b < d → g a ∣ g b) (hct : ∀ a b, a < b → b < d → t a ∣ t b)
    (h : ∀ e, 0 < e → e ∣ D → prodN d (fun j => Nat.gcd (g j) e) = prodN d (fun j => Nat.gcd (t j) e)) : ∀ i, i < d → g i = t i := by
  intro i
  induction i using Nat.strongRecOn with
  | ind i ih =>
    intro hi
    have hs : ∀ j, j < i → g j = t j := fun j hj => ih j hj (by omega)
    exact Nat.dvd_antisymm (chain_half hD hg hcg (fun e h1 h2 => (h e h1 h2).symm) hi (fun j hj => (hs j hj).symm)) (chain_half hD ht hct h hi hs)
end Go.Proofs.Ytcjaloddgilnpaa

namespace Go.Proofs.Ytcjaloddgilnpaa
set_option linter.unusedVariables false

/-- what is found modulo D is a chain t of divisors of the minor, if the numbers of solutions are those of t -/
theorem fac_uniq {rows : List (List Int)} {n C d : Nat} {δ : Int} {t : Nat → Nat} (hn : rows.length = n) (hd : d = min n C) (hc : ∀ r ∈ rows, r.length = C) (hδ : δ ≠ 0) (hD : smD C rows = 2 * δ.natAbs)
    (htd : ∀ j, j < d → t j = 0 ∨ t j ∣ δ.natAbs) (hct : ∀ a b, a < b → b < d → t a ∣ t b) (hs : ∀ e, 0 < e → nSol n C (matZ rows) e = prodN d (fun j => Nat.gcd (t j) e) * e ^ (C - d)) :
    ∀ j, j < d → gn (facO (smD C rows) C rows d) j = t j := by
  obtain ⟨D, hDD⟩ : ∃ D, D = smD C rows := ⟨_, rfl⟩
  rw [← hDD] at hD ⊢
  have hδ' : 0 < δ.natAbs := by omega
  have hD0 : 0 < D := by omega
  have hl := resF_ltm (m := D) hD0 rows
  have hcl := resF_cl (m := D) hc
  have hln : (resF D rows).length = n := by rw [resF_length]; exact hn
  have hmod : ∀ e, e ∣ D → nSol n C (gZ (resF D rows)) e = nSol n C (matZ rows) e := fun e he => nSol_mod (fun i j hi hj => by
    have hi' : i < rows.length := by omega
    unfold gZ
    rw [ge_resF hi' (by rw [hc _ (List.getElem_mem hi')]; exact hj), matZ_get hi']
    exact Int.dvd_trans (Int.natCast_dvd_natCast.2 he) (rs_mod hD0 _))
  have hlf : (facD D C rows d).length = d := facD_length _ _ _ _
  have hfac : ∀ e, 0 < e → e ∣ D → prodN d (fun j => Nat.gcd (gn (facD D C rows d) j) e) = prodN d (fun j => Nat.gcd (Nat.gcd (t j) D) e) := by
    intro e he hed
    have h1 := nSol_fac hl hcl hD0 he hed
    rw [hln, ← hd, hmod e hed, hs e he] at h1
    have h2 : 0 < e ^ (C - d) := Nat.pow_pos he
    have h3 := Nat.eq_of_mul_eq_mul_right h2 h1
    have h4 : prodN d (fun j => Nat.gcd (gn (facD D C rows d) j) e) = pG d (dgP D C (resF D rows) d d) e := pG_chI (dgP_length _ _ _ _ _) he d (Nat.le_refl _)
    rw [h4, ← h3]
    exact prodN_congr (fun j _ => (gcd_gcd_dvd hed).symm)
  have key := chain_uniq (d := d) (D := D) (g := fun j => gn (facD D C rows d) j) (t := fun j => Nat.gcd (t j) D) hD0
    (fun j hj => facD_dvs D C rows d j (by omega)) (fun j hj => Nat.gcd_dvd_right _ _) (fun a b h1 h2 => facD_chn D C rows d a b (by omega) h1 h2)
    (fun a b h1 h2 => Nat.dvd_gcd (Nat.dvd_trans (Nat.gcd_dvd_left _ _) (hct a b h1 h2)) (Nat.gcd_dvd_right _ _)) hfac
  intro j hj
  have hk : gn (facD D C rows d) j = Nat.gcd (t j) D := key j hj
  unfold facO
  rw [gn_outP (by omega), hk]
  rcases htd j hj with h0 | h0
  · rw [h0, Nat.gcd_zero_left, if_neg (fun z => z.2 rfl)]
  · have h1 : t j ∣ D := by rw [hD]; exact Nat.dvd_trans h0 (Nat.dvd_mul_left _ _)
    have h2 := Nat.le_of_dvd hδ' h0
    rw [Nat.gcd_eq_left h1, if_pos ⟨hj, by omega⟩]
theorem nSol_diag2 {n C d : Nat} {M : Nat → Nat → Int} {e : Nat} (hd : d = min n C) (he : 0 < e) (hz : ∀ i j, i < n → j < C → i ≠ j → M i j = 0) : nSol n C M e = prodN d (fun j => Nat.gcd (M j j).natAbs e) * e ^ (C - d) := by
  rw [nSol_diag he hz]
  have e1 : prodN C (fct n M e) = prodN (d + (C - d)) (fct n M e) := by rw [show d + (C - d) = C by omega]
  rw [e1, prodN_split (e := e) (C - d) (fun j h1 h2 => by unfold fct; rw [if_neg (by omega)])]
  congr 1
  exact prodN_congr (fun j hj => by unfold fct; rw [if_pos (by omega)])
theorem fac_sol {rows : List (List Int)} {n C d : Nat} (hn : rows.length = n) (hn14 : n ≤ 14) (hd : d = min n C) (hc : ∀ r ∈ rows, r.length = C) (hs : ∀ r ∈ rows, asum r ≤ 4) {e : Nat} (he : 0 < e) :
    nSol n C (matZ rows) e = prodN d (fun j => Nat.gcd (gn (facO (smD C rows) C rows d) j) e) * e ^ (C - d) := by
  obtain ⟨r, ρ, κ, δ, hm, hD⟩ := minor_facts (by omega) hc hs
  rw [hn] at hm
  obtain ⟨M', h1, h2, h3⟩ := diag_ex hm.tk
  obtain ⟨s, hsd⟩ : ∃ s, s = (List.range d).map (fun j => (M' j j).natAbs) := ⟨_, rfl⟩
  have hsl : s.length = d := by rw [hsd]; simp
  have hsg : ∀ j, j < d → gn s j = (M' j j).natAbs := fun j hj => by rw [hsd, gn_map_range, if_pos hj]
  have hsol : ∀ e, 0 < e → nSol n C (matZ rows) e = prodN d (fun j => Nat.gcd (gn (chI d s d) j) e) * e ^ (C - d) := by
    intro e he
    rw [← h1 e he, nSol_diag2 hd he h2]
    congr 1
    have h4 : prodN d (fun j => Nat.gcd (gn (chI d s d) j) e) = pG d s e := pG_chI hsl he d (Nat.le_refl _)
    rw [h4]
    exact prodN_congr (fun j hj => by rw [hsg j hj])
  have hall := chI_all hsl (fun a => a = 0 ∨ a ∣ δ.natAbs) (fun a b ha hb => by
      rcases ha with rfl | ha
      · rw [Nat.gcd_zero_left]; exact hb
      · exact Or.inr (Nat.dvd_trans (Nat.gcd_dvd_left _ _) ha)) (fun a b ha hb => by
      rcases ha with rfl | ha
      · left; simp
      · rcases hb with rfl | hb
        · left; simp
        · exact Or.inr (Nat.lcm_dvd ha hb)) (fun j hj => by
      rw [hsg j hj]
      rcases h3 j (by omega) (by omega) with q | q
      · left; rw [q]; rfl
      · right; exact Int.natAbs_dvd_natAbs.2 q) d (Nat.le_refl _)
  have key := fac_uniq hn hd hc hm.ne hD hall (fun a b h1 h2 => chI_chn hsl d (Nat.le_refl _) a b (by omega) h1 h2) hsol
  rw [hsol e he]
  congr 1
  exact prodN_congr (fun j hj => by rw [key j hj])
/-- so for the matrix of a diagram -/
theorem inv_sol {S M : List Int} {L : Int} (k : Ok S M L) (hn : S.length ≤ 14) {e : Nat} (he : 0 < e) : nSol S.length (colN M L) (matZ (rowsOf S M L)) e = prodN (colN M L) (fun j => Nat.gcd (gn (invL S M L) j) e) := by
  obtain ⟨C, hC⟩ : ∃ C, C = colN M L := ⟨_, rfl⟩
  obtain ⟨d, hd⟩ : ∃ d, d = min S.length C := ⟨_, rfl⟩
  have hsplit : prodN C (fun j => Nat.gcd (gn (invL S M L) j) e) = prodN d (fun j => Nat.gcd (gn (facL S M L) j) e) * e ^ (C - d) := by
    have e1 : prodN C (fun j => Nat.gcd (gn (invL S M L) j) e) = prodN (d + (C - d)) (fun j => Nat.gcd (gn (invL S M L) j) e) := by rw [show d + (C - d) = C by omega]
    have hfl := facL_length S M L
    have hcl := cols_le (S := S) (M := M) (L := L)
    rw [e1, prodN_split (e := e) (C - d) (fun j h1 h2 => by
      show Nat.gcd (gn (invL S M L) j) e = e
      rw [gn_invL (by omega), gn_out (by omega), Nat.gcd_zero_left])]
    congr 1
    exact prodN_congr (fun j hj => by
      show Nat.gcd (gn (invL S M L) j) e = Nat.gcd (gn (facL S M L) j) e
      rw [gn_invL (by omega)])
  rw [← hC, hsplit]
  rcases Nat.eq_zero_or_pos S.length with h0 | h0
  · have hd0 : d = 0 := by omega
    have h1 := nSol_diag2 (n := S.length) (C := C) (M := matZ (rowsOf S M L)) (e := e) hd he (fun i j hi => by omega)
    rw [h1, hd0]; rfl
  · have hcols := rowsOf_cols (S := S) (M := M) (L := L) h0
    rw [← hC] at hcols
    have h1 := fac_sol (rows := rowsOf S M L) (n := S.length) (C := C) (d := d) (rowsOf_length S M L) hn hd (fun r hr => by rw [rowsOf_len r hr, hcols]) rowsOf_sum he
    rw [h1]
    unfold facL
    rw [hcols, ← hd]
end Go.Proofs.Ytcjaloddgilnpaa

namespace Go.Proofs.Ytcjaloddgilnpaa
open Go.RowKit
set_option linter.unusedVariables false

/-- a power, cut at a million -/
def pwF (m : Nat) : Nat → Nat
  | 0 => 1
  | n + 1 => Nat.min (pwF m n * m) 1000000
theorem pwF_le (m : Nat) : ∀ n, pwF m n ≤ 1000000
  | 0 => by simp [pwF]
  | n + 1 => Nat.min_le_right _ _
theorem pwF_eq {m : Nat} (hm : 1 ≤ m) : ∀ n, pwF m n = Nat.min (m ^ n) 1000000
  | 0 => by simp [pwF]
  | n + 1 => by
    rw [pwF, pwF_eq hm n, Nat.pow_succ]
    rcases Nat.le_total (m ^ n) 1000000 with q | q
    · rw [show Nat.min (m ^ n) 1000000 = m ^ n from Nat.min_eq_left q]
    · rw [show Nat.min (m ^ n) 1000000 = 1000000 from Nat.min_eq_right q]
      have h1 : 1000000 * 1 ≤ 1000000 * m := Nat.mul_le_mul_left _ hm
      have h2 : 1000000 * m ≤ m ^ n * m := Nat.mul_le_mul_right _ q
      rw [show Nat.min (1000000 * m) 1000000 = 1000000 from Nat.min_eq_right (by omega), show Nat.min (m ^ n * m) 1000000 = 1000000 from Nat.min_eq_right (by omega)]
set_option maxHeartbeats 1000000 in
theorem power_any (m n : Nat) (w : World) (hm : m ≤ 1000) (hn : n ≤ 1000) :
    Calls Try.prog 19 #[.int .i64 (m : Nat), .int .i64 (n : Nat)] w fun e w' => e = .returned (.int .i64 (pwF m n : Nat)) ∧ w' = w := by
  go_enter Try.func19, Try.ntmps19
  go_wp2_with fail
  go_loopg [5, 7] n (fun gk s5 s7 wr => ∃ x : Nat, x ≤ n ∧ gk = n - x ∧ s7 = .int .i64 (x : Int) ∧ s5 = .int .i64 (pwF m x : Int) ∧ wr = w)
  case atStart => exact ⟨0, Nat.zero_le _, rfl, rfl, rfl, rfl⟩
  case round =>
    obtain ⟨x, hx, rfl, rfl, rfl, rfl⟩ := hrel
    have hp := pwF_le m x
    by_cases hlt : x < n
    · have z1 : (x : Int) < (n : Int) := by omega
      have HN := Lib.hid (show pwF m (x + 1) = Nat.min (pwF m x * m) 1000000 from rfl)
      generalize pwF m x = p at *
      have hb : p * m ≤ 1000000 * 1000 := Nat.mul_le_mul hp hm
      have e1 : (p : Int) * (m : Int) = ((p * m : Nat) : Int) := by simp
      generalize p * m = pm at *
      have HM := Lib.hid (show (min (pm : Int) 1000000) = ((Nat.min pm 1000000 : Nat) : Int) by
        rcases Nat.le_total pm 1000000 with q | q
        · rw [show Nat.min pm 1000000 = pm from Nat.min_eq_left q]; omega
        · rw [show Nat.min pm 1000000 = 1000000 from Nat.min_eq_right q]; omega)
      go_wp2_with fail
      go_roundg (n - (x + 1))
      case measure => omega
      case rel => exact ⟨x + 1, by omega, rfl, by go_num, by rw [HN.out, HM.out], rfl⟩
    · have z1 : ¬ ((x : Int) < (n : Int)) := by omega
      have hxn : x = n := by omega
      subst hxn
      go_wp2_with fail
      go_ret
      exact ⟨rfl, rfl⟩
/-- the error that is specified -/
def fltV (S M : List Int) (L md : Int) : Nat := if valB S M L = false then 1 else if md < 1 ∨ 1000 < md then 2 else if 14 < S.length ∨ 4 < L then 5 else 0
set_option maxHeartbeats 1000000 in
theorem fault_any (vs vm : Value) (S M : List Int) (L md : Int) (w : World) (hS : Ints w vs S) (hM : Ints w vm M) :
    Calls Try.prog 17 #[.agg #[vs, vm, .int .i64 L], .int .i64 md] w fun e w' => e = .returned (.int .i64 (fltV S M L md : Nat)) ∧ Below w.heap.size w w' := by
  have hW : Arr (w.alloc (.cells #[vs, vm, .int .i64 L] 24)) w.heap.size 24 [vs, vm, .int .i64 L] ∧ Below w.heap.size w (w.alloc (.cells #[vs, vm, .int .i64 L] 24)) := ⟨Arr.new w _ _, (Below.refl _ _).alloc (Nat.le_refl _) _⟩
  have HVR := Lib.hid (fun W (hb : Below w.heap.size w W) => valid_ref vs vm S M L W (hS.below hb) (hM.below hb))
  obtain ⟨A, c, rfl, hc, hx⟩ := hS
  obtain ⟨A2, c2, rfl, hc2, hx2⟩ := hM
  clear hx hx2
  cases hv : valB S M L with
  | false =>
    have HF := Lib.hid (show fltV S M L md = 1 by unfold fltV; rw [if_pos hv])
    rw [hv] at HVR
    clear hv
    go_enter Try.func17, Try.ntmps17
    go_upto_region 1 with fail
    generalize (w.alloc (.cells #[.slice A S.length c, .slice A2 M.length c2, .int .i64 L] 24)) = w4 at hW ⊢
    obtain ⟨q0, hb4⟩ := hW
    have y0 := q0.cell 0
    have y1 := q0.cell 1
    have y2 := q0.cell 2
    go_wp2_with (go_at_call 12; refine (HVR.out _ hb4).mono ?_; rintro e w5 ⟨rfl, hb5⟩)
    go_ret
    exact ⟨by rw [HF.out]; rfl, hb4.trans (hb5.mono hb4.size)⟩
  | true =>
    have HF := Lib.hid (show fltV S M L md = if md < 1 ∨ 1000 < md then 2 else if 14 < S.length ∨ 4 < L then 5 else 0 by unfold fltV; rw [hv, if_neg (by decide)])
    rw [hv] at HVR
    clear hv
    go_enter Try.func17, Try.ntmps17
    go_upto_region 1 with fail
    generalize (w.alloc (.cells #[.slice A S.length c, .slice A2 M.length c2, .int .i64 L] 24)) = w4 at hW ⊢
    obtain ⟨q0, hb4⟩ := hW
    have y0 := q0.cell 0
    have y1 := q0.cell 1
    have y2 := q0.cell 2
    go_upto_region 3 with (go_at_call 12; refine (HVR.out _ hb4).mono ?_; rintro e w5 ⟨rfl, hb5⟩)
    have q5 := q0.below hb5 q0.lt
    have hb5' := hb4.trans (hb5.mono hb4.size)
    clear y0 y1 y2 q0
    have y0 := q5.cell 0
    have y1 := q5.cell 1
    have y2 := q5.cell 2
    by_cases h1 : md < 1
    · rw [if_pos (Or.inl h1)] at HF
      go_wp2_with fail
      go_ret
      exact ⟨by rw [HF.out]; rfl, hb5'⟩
    · by_cases h2 : 1000 < md
      · rw [if_pos (Or.inr h2)] at HF
        go_wp2_with fail
        go_ret
        exact ⟨by rw [HF.out]; rfl, hb5'⟩
      · rw [if_neg (fun q => q.elim h1 h2)] at HF
        by_cases h3 : 14 < S.length
        · have z3 : (14 : Int) < (S.length : Int) := by omega
          rw [if_pos (Or.inl h3)] at HF
          go_wp2_with fail
          go_ret
          exact ⟨by rw [HF.out]; rfl, hb5'⟩
        · have z3 : ¬ ((14 : Int) < (S.length : Int)) := by omega
          by_cases h4 : 4 < L
          · rw [if_pos (Or.inr h4)] at HF
            go_wp2_with fail
            go_ret
            exact ⟨by rw [HF.out]; rfl, hb5'⟩
          · rw [if_neg (fun q => q.elim h3 h4)] at HF
            go_wp2_with fail
            go_ret
            exact ⟨by rw [HF.out]; rfl, hb5'⟩
end Go.Proofs.Ytcjaloddgilnpaa
