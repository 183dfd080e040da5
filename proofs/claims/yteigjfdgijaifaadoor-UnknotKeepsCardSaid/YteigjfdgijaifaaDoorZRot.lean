/- Rotations of grids keep the number of components and the determinant (plain). -/
import Derived.Test.YteigjfdgijaifaaDoorZGdl
namespace Go.Proofs.YteigjfdgijaifaaDoor
open Go.RowKit
set_option linter.unusedVariables false

theorem gt_rev {l : List Int} {i : Nat} (h : i < l.length) : gt l.reverse i = gt l (l.length - 1 - i) := by
  rw [gt_get (show l.length - 1 - i < l.length by omega)]
  exact gt_of (by rw [List.getElem?_reverse h, List.getElem?_eq_getElem (show l.length - 1 - i < l.length by omega)])
theorem rev_pm {l : List Int} (h : Pm l) : Pm l.reverse := by
  refine ⟨fun x hx => ?_, (List.reverse_perm l).symm.nodup h.2⟩
  rw [List.length_reverse]
  exact h.1 x (List.mem_reverse.1 hx)
theorem rev_vd {X O : List Int} (h : Vd X O) : Vd X.reverse O.reverse := by
  have hl := h.len
  refine ⟨by simpa using h.two, by simpa using h.most, by simpa using hl, rev_pm h.pX, rev_pm h.pO, fun k h1 h2 e => ?_⟩
  simp only [List.length_reverse] at h1 h2
  rw [← gt_get (l := X.reverse), ← gt_get (l := O.reverse), gt_rev h1, gt_rev h2, ← hl, gt_get (by omega), gt_get (by omega)] at e
  exact h.ne _ _ _ e
theorem swp_vd {X O : List Int} (h : Vd X O) : Vd O X :=
  ⟨by have := h.two; have := h.len; omega, by have := h.most; have := h.len; omega, h.len.symm, h.pO, h.pX, fun k h1 h2 e => h.ne k h2 h1 e.symm⟩
theorem comp_rev {X O : List Int} (h : Vd X O) : comp X.reverse O.reverse = comp X O := by
  have h1 := rev_vd h
  have hl := h.len
  have h2 := h.two
  have hb := fC_perm h1
  rw [List.length_reverse] at hb
  have gX : ∀ i, i < X.length → gt X.reverse i = gt X (X.length - 1 - i) := fun i hi => gt_rev hi
  have gO : ∀ i, i < X.length → gt O.reverse i = gt O (X.length - 1 - i) := fun i hi => by rw [gt_rev (by omega), hl]
  unfold comp
  rw [List.length_reverse]
  refine (cls_eq (fC_perm h) hb (fun i => X.length - 1 - i) (fun j => X.length - 1 - j) (fun i hi => by omega) (fun j hj => by omega) (fun i hi => ?_) (fun j hj => ?_) (fun i hi => ?_) (fun j hj => ?_)).symm
  · refine ⟨1, ?_⟩
    have hf := fC_spec h hi
    refine fC_uniq h1 (by rw [List.length_reverse]; omega) ?_
    simp only [itr]
    rw [gX _ (by omega), gO _ (by omega), show X.length - 1 - (X.length - 1 - fC X O i) = fC X O i by omega, show X.length - 1 - (X.length - 1 - i) = i by omega]
    exact hf.2
  · refine ⟨1, ?_⟩
    have hf := fC_spec h1 (i := j) (by rw [List.length_reverse]; exact hj)
    rw [List.length_reverse] at hf
    refine fC_uniq h (by omega) ?_
    simp only [itr]
    rw [← gX _ hf.1, ← gO _ hj]
    exact hf.2
  · show Rl _ (X.length - 1 - (X.length - 1 - i)) i
    rw [show X.length - 1 - (X.length - 1 - i) = i by omega]; exact Rl.refl _ _
  · show Rl _ (X.length - 1 - (X.length - 1 - j)) j
    rw [show X.length - 1 - (X.length - 1 - j) = j by omega]; exact Rl.refl _ _
theorem comp_swp {X O : List Int} (h : Vd X O) : comp O X = comp X O := by
  have h1 := swp_vd h
  have hl := h.len
  have hb := fC_perm h1
  have hp := fC_perm h
  have inv : ∀ i, i < X.length → fC O X (fC X O i) = i := fun i hi => fC_uniq h1 (by omega) (fC_spec h hi).2.symm
  have inv2 : ∀ i, i < O.length → fC X O (fC O X i) = i := fun i hi => fC_uniq h (by omega) (fC_spec h1 hi).2.symm
  unfold comp
  refine (cls_eq hp hb (fun i => i) (fun j => j) (fun i hi => by omega) (fun j hj => by omega) (fun i hi => ?_) (fun j hj => ?_) (fun i hi => Rl.refl _ _) (fun j hj => Rl.refl _ _)).symm
  · have hlt := (fC_spec h hi).1
    have : Rl (fC O X) (fC X O i) i := ⟨1, inv i hi⟩
    exact hb.symm (by omega) this
  · have hlt := (fC_spec h1 hj).1
    have : Rl (fC X O) (fC O X j) j := ⟨1, inv2 j hj⟩
    exact hp.symm (by omega) this
/-! ### the determinant -/
theorem dt_swapG {J : List Nat} {f : Nat → Nat → Int} {a b : Nat} (ha : a < J.length) (hb : b < J.length) (hab : a ≠ b) : dt J (fup (fup f a (f b)) b (f a)) = - dt J f := by
  have h1 := dt_addmul (J := J) (f := f) ha hb hab 1
  have h2 := dt_addmul (J := J) (f := fup f b (fun j => f b j + 1 * f a j)) hb ha (fun e => hab e.symm) (-1)
  have h3 := dt_addmul (J := J) (f := fup (fup f b (fun j => f b j + 1 * f a j)) a (fun j => fup f b (fun j => f b j + 1 * f a j) a j + (-1) * fup f b (fun j => f b j + 1 * f a j) b j)) ha hb hab 1
  rw [h2, h1] at h3
  rw [← h3]
  have h4 := dt_mul (J := J) (f := fup f b (f a)) (k := a) (f b) (-1) ha
  have h5 : fup (fup f a (f b)) b (f a) = fup (fup f b (f a)) a (f b) := fup_comm f hab _ _
  rw [h5]
  have h6 : dt J (fup (fup f b (f a)) a (f b)) = - dt J (fup (fup f b (f a)) a (fun j => -1 * f b j)) := by rw [h4]; omega
  rw [h6]
  congr 1
  refine dt_congr (fun l hl j _ => ?_)
  unfold fup
  by_cases e1 : l = a
  · subst e1
    have e2 : ¬ l = b := hab
    simp only [if_pos, if_neg e2, if_neg (Ne.symm hab)]
    omega
  · by_cases e2 : l = b
    · subst e2
      simp only [if_pos, if_neg e1, if_neg hab]
      omega
    · simp only [if_neg e1, if_neg e2]
/-- the rows from 1 on, the first k and the last k of them exchanged -/
def rvF (f : Nat → Nat → Int) (n k : Nat) : Nat → Nat → Int := fun l => if (1 ≤ l ∧ l ≤ k) ∨ (n - k ≤ l ∧ l < n) then f (n - l) else f l
theorem dt_rvF {J : List Nat} (f : Nat → Nat → Int) : ∀ k, 2 * k + 1 ≤ J.length → dt J (rvF f J.length k) * dt J (rvF f J.length k) = dt J f * dt J f
  | 0, h => by
    have : dt J (rvF f J.length 0) = dt J f := dt_congr fun l hl j _ => by
      unfold rvF
      rw [if_neg (by omega)]
    rw [this]
  | k + 1, h => by
    have ih := dt_rvF (J := J) f k (by omega)
    have e : dt J (rvF f J.length (k + 1)) = dt J (fup (fup (rvF f J.length k) (k + 1) (rvF f J.length k (J.length - 1 - k))) (J.length - 1 - k) (rvF f J.length k (k + 1))) := dt_congr fun l hl j _ => by
      unfold fup
      by_cases e1 : l = J.length - 1 - k
      · rw [if_pos e1]
        unfold rvF
        rw [if_pos (by omega), if_neg (by omega), show J.length - l = k + 1 by omega]
      · rw [if_neg e1]
        by_cases e2 : l = k + 1
        · rw [if_pos e2]
          unfold rvF
          rw [if_pos (by omega), if_neg (by omega), show J.length - l = J.length - 1 - k by omega]
        · rw [if_neg e2]
          unfold rvF
          by_cases c : (1 ≤ l ∧ l ≤ k) ∨ (J.length - k ≤ l ∧ l < J.length)
          · rw [if_pos c, if_pos (by omega)]
          · rw [if_neg c, if_neg (by omega)]
    rw [e, dt_swapG (J := J) (show k + 1 < J.length by omega) (show J.length - 1 - k < J.length by omega) (by omega), ← ih]
    grind
theorem sumI_rev (f : Nat → Int) (n : Nat) : ∀ l, l ≤ n → sumI l (fun k => f (n - 1 - k)) = sumI n f - sumI (n - l) f
  | 0, _ => by simp [sumI]
  | l + 1, h => by
    rw [sumI, sumI_rev f n l (by omega)]
    have : sumI (n - l) f = sumI (n - (l + 1)) f + f (n - 1 - l) := by
      rw [show n - l = n - (l + 1) + 1 by omega, sumI, show n - (l + 1) = n - 1 - l by omega]
    omega
theorem qm_rev {X : List Int} (h : Pm X) {l j : Nat} (hl : l ≤ X.length) (hj : j ≤ X.length) : qm X.reverse l j = j - qm X (X.length - l) j := by
  have e : qm X.reverse l j = sumI l (fun k => ib (gt X (X.length - 1 - k)) j) := by
    unfold qm
    refine sumI_congr fun k hk => ?_
    rw [gt_rev (by omega)]
  rw [e, sumI_rev (fun k => ib (gt X k) j) X.length l hl]
  have := qm_full h hj
  unfold qm at this ⊢
  rw [this]
theorem DG_rev {g : Gd} (h : VdG g) : DG (g.1.reverse, g.2.reverse) * DG (g.1.reverse, g.2.reverse) = DG g * DG g := by
  have hl := h.len
  have h2 := h.two
  have hJ : (List.range' 0 g.1.length).length = g.1.length := List.length_range'
  have e : DG (g.1.reverse, g.2.reverse) = dt (List.range' 0 g.1.length) (rvF (wS g.1 g.2) g.1.length ((g.1.length - 1) / 2)) := by
    unfold DG
    simp only [List.length_reverse]
    refine dt_congr fun l hlt j hj => ?_
    rw [hJ] at hlt
    have hj2 := (List.mem_range'_1.1 hj).2
    have key : wS g.1.reverse g.2.reverse l j = wS g.1 g.2 (g.1.length - l) j := by
      unfold wS
      rw [qm_rev h.pX (by omega) (by omega), qm_rev h.pO (by omega) (by omega), ← hl]
      unfold pw1
      generalize qm g.1 (g.1.length - l) j = a
      generalize qm g.2 (g.1.length - l) j = b
      by_cases c : (a + b) % 2 = 0
      · rw [if_pos c, if_pos (by omega)]
      · rw [if_neg c, if_neg (by omega)]
    rw [key]
    unfold rvF
    by_cases c : (1 ≤ l ∧ l ≤ (g.1.length - 1) / 2) ∨ (g.1.length - (g.1.length - 1) / 2 ≤ l ∧ l < g.1.length)
    · rw [if_pos c]
    · rw [if_neg c]
      by_cases l0 : l = 0
      · subst l0
        rw [Nat.sub_zero, wS_full h (by omega), wS_zero]
      · rw [show g.1.length - l = l by omega]
  rw [e]
  have := dt_rvF (J := List.range' 0 g.1.length) (wS g.1 g.2) ((g.1.length - 1) / 2) (by rw [hJ]; omega)
  rw [hJ] at this
  exact this
theorem DG_swp {g : Gd} (h : VdG g) : DG (g.2, g.1) = DG g := by
  have hl := h.len
  unfold DG
  simp only [← hl]
  refine dt_congr fun l hlt j hj => ?_
  unfold wS
  congr 1; omega
/-- the rotation -/
def rotG (g : Gd) : Gd := ((tr g.2).reverse, (tr g.1).reverse)
theorem rot_facts {g : Gd} (h : VdG g) : VdG (rotG g) ∧ (rotG g).1.length = g.1.length ∧ comp (rotG g).1 (rotG g).2 = comp g.1 g.2 ∧ Same2 g (rotG g) := by
  have ht : VdG (tr g.1, tr g.2) := tr_vd h
  have hs : VdG (tr g.2, tr g.1) := swp_vd ht
  have hl := h.len
  have hlr : (rotG g).1.length = g.1.length := by unfold rotG; simp only [List.length_reverse, tr_length]; omega
  refine ⟨rev_vd hs, hlr, ?_, ?_⟩
  · have a := comp_rev hs
    have b := comp_swp ht
    have c := comp_tr h
    simp only at a b c
    unfold rotG
    rw [a, b, c]
  · refine Same2.of_eq hlr ?_
    have a := DG_rev hs
    have b := DG_swp ht
    have c := DG_tr h
    simp only at a b c
    unfold rotG
    rw [a, b, c]
end Go.Proofs.YteigjfdgijaifaaDoor
