/- The linking number: transposition, all moves, and the sum over crossings. -/
import Derived.Test.YtgclngoeglopcaaLkp
namespace Go.Proofs.Ytgclngoeglopcaa
open Go.RowKit

section
variable {X O : List Int}
def cl (X : List Int) (j : Nat) : Nat := (gt (tr X) j).toNat
theorem cl_row {l : List Int} (h : Pm l) {i : Nat} (hi : i < l.length) : cl l (gt l i).toNat = i := by unfold cl; rw [gt_tr h hi]; omega
theorem cl_spec {l : List Int} (h : Pm l) {j : Nat} (hj : j < l.length) : cl l j < l.length ∧ gt l (cl l j) = j := by
  obtain ⟨k, hk, e1, e2⟩ := tr_get' h hj
  unfold cl
  rw [gt_of e2, Int.toNat_natCast, gt_get hk]
  exact ⟨hk, e1⟩
theorem cl_gt {l : List Int} (h : Pm l) {j : Nat} (hj : j < l.length) : gt (tr l) j = (cl l j : Int) := by
  have := (tr_pm h).gt_rng (i := j) (by rw [tr_length]; exact hj)
  unfold cl; omega
theorem row_perm {l : List Int} (h : Pm l) : PermF l.length (fun i => (gt l i).toNat) := by
  refine ⟨fun i hi => by have := h.gt_rng hi; omega, fun i j hi hj e => ?_⟩
  have h1 := h.gt_rng hi
  have h2 := h.gt_rng hj
  have e' : (gt l i).toNat = (gt l j).toNat := e
  exact h.gt_inj hi hj (by omega)
theorem cX_O (h : Vd X O) {k : Nat} (hk : k < X.length) : cl X (gt O k).toNat = fC X O k := by
  have hf := fC_spec h hk
  rw [← hf.2]; exact cl_row h.pX hf.1
theorem tr_key (h : Vd X O) {i : Nat} (hi : i < X.length) : fC (tr X) (tr O) (gt X (fC X O i)).toNat = (gt X i).toNat := by
  have hf := fC_spec h hi
  refine fC_uniq (tr_vd h) (by rw [tr_length]; exact (row_perm h.pX).lt i hi) ?_
  rw [gt_tr h.pX hi, hf.2, gt_tr h.pO (by have := h.len; omega)]
theorem tr_rel (h : Vd X O) {r s : Nat} (hr : r < X.length) (hs : s < X.length) : Rl (fC (tr X) (tr O)) r s ↔ Rl (fC X O) (cl X r) (cl X s) := by
  have hpf := fC_perm h
  have hpg := fC_perm (tr_vd h)
  rw [tr_length] at hpg
  have xr := (row_perm h.pX).lt
  constructor
  · refine fun hR => rl_map hpg (cl X) (fun j hj => ?_) hr hR
    have hg := hpg.lt j hj
    have hc := cl_spec h.pX hg
    have e := tr_key h hc.1
    rw [hc.2] at e
    have hf := fC_spec h hc.1
    have e2 : (gt X (fC X O (cl X (fC (tr X) (tr O) j)))).toNat = j := hpg.inj _ _ (xr _ hf.1) hj (by rw [e]; omega)
    have e3 : cl X j = fC X O (cl X (fC (tr X) (tr O) j)) := by
      have := cl_row h.pX hf.1
      rw [e2] at this; exact this
    rw [e3]
    exact hpf.symm hc.1 (Rl.step _ _)
  · intro hR
    have := rl_map (g := fC (tr X) (tr O)) hpf (fun i => (gt X i).toNat) (fun i hi => by
      have hf := fC_spec h hi
      refine hpg.symm (xr _ hf.1) ?_
      show Rl _ (gt X (fC X O i)).toNat (gt X i).toNat
      rw [← tr_key h hi]
      exact Rl.step _ _) (cl_spec h.pX hr).1 hR
    simp only [(cl_spec h.pX hr).2, (cl_spec h.pX hs).2, Int.toNat_natCast] at this
    exact this
theorem dl_tr (h : Vd X O) {r s : Nat} (hr : r < X.length) (hs : s < X.length) : dl (tr X) (tr O) r s = dl X O (cl X r) (cl X s) :=
  dl_congr (tr_vd h) h (by rw [tr_length]; exact hr) (cl_spec h.pX hr).1 (tr_rel h hr hs)
theorem dl_f' (h : Vd X O) {i k : Nat} (hi : i < X.length) (hk : k < X.length) : dl X O (fC X O i) k = dl X O i k := by
  have hf := fC_spec h hi
  rw [dl_symm h hf.1 hk, dl_f h hk hi, dl_symm h hk hi]
theorem sum2_perm {n : Nat} {α β : Nat → Nat} (ha : PermF n α) (hb : PermF n β) (F : Nat → Nat → Int) : sumR n (fun r => sumR n (F r)) = sumR n (fun i => sumR n (fun k => F (α i) (β k))) := by
  rw [← sumR_perm ha (fun r => sumR n (F r))]
  exact sumR_congr (fun i _ => (sumR_perm hb (F (α i))).symm)
theorem lti_nat (a b : Nat) : lti (a : Int) (b : Int) = onI (a < b) := by unfold lti onI; simp

theorem lk_tr (h : Vd X O) : lkI (tr X) (tr O) = lkI X O := by
  have hl := h.len
  have pX := row_perm h.pX
  have pO := row_perm h.pO
  rw [← hl] at pO
  have rX : ∀ i, i < X.length → 0 ≤ gt X i := fun i hi => (h.pX.gt_rng hi).1
  have rO : ∀ i, i < X.length → 0 ≤ gt O i := fun i hi => (h.oX hi).1
  -- the four parts
  have part : ∀ (A B : List Int), Pm A → Pm B → A.length = X.length → B.length = X.length → (∀ i k, i < X.length → k < X.length → dl (tr X) (tr O) (gt A i).toNat (gt B k).toNat = dl X O i k) →
      sumR X.length (fun r => sumR X.length (fun s => onI (s < r) * (dl (tr X) (tr O) r s * lti (cl A r : Int) (cl B s : Int)))) = sumR X.length (fun i => sumR X.length (fun k => lti (gt B k) (gt A i) * (dl X O i k * onI (i < k)))) := by
    intro A B hA hB lA lB hd
    have pA := row_perm hA
    have pB := row_perm hB
    rw [lA] at pA
    rw [lB] at pB
    rw [sum2_perm pA pB]
    refine sumR_congr (fun i hi => sumR_congr (fun k hk => ?_))
    have g1 := hA.gt_rng (i := i) (by omega)
    have g2 := hB.gt_rng (i := k) (by omega)
    rw [hd i k hi hk, cl_row hA (by omega), cl_row hB (by omega), lti_nat]
    congr 1
    unfold onI lti
    by_cases e : gt B k < gt A i
    · rw [if_pos e, if_pos (by omega)]
    · rw [if_neg e, if_neg (by omega)]
  have d1 : ∀ i k, i < X.length → k < X.length → dl (tr X) (tr O) (gt X i).toNat (gt X k).toNat = dl X O i k := fun i k hi hk => by
    rw [dl_tr h (pX.lt i hi) (pX.lt k hk), cl_row h.pX hi, cl_row h.pX hk]
  have d2 : ∀ i k, i < X.length → k < X.length → dl (tr X) (tr O) (gt X i).toNat (gt O k).toNat = dl X O i k := fun i k hi hk => by
    rw [dl_tr h (pX.lt i hi) (pO.lt k hk), cl_row h.pX hi, cX_O h hk, dl_f h hi hk]
  have d3 : ∀ i k, i < X.length → k < X.length → dl (tr X) (tr O) (gt O i).toNat (gt X k).toNat = dl X O i k := fun i k hi hk => by
    rw [dl_tr h (pO.lt i hi) (pX.lt k hk), cl_row h.pX hk, cX_O h hi, dl_f' h hi hk]
  have d4 : ∀ i k, i < X.length → k < X.length → dl (tr X) (tr O) (gt O i).toNat (gt O k).toNat = dl X O i k := fun i k hi hk => by
    rw [dl_tr h (pO.lt i hi) (pO.lt k hk), cX_O h hi, cX_O h hk, dl_f' h hi (fC_spec h hk).1, dl_f h hi hk]
  have e1 : lkI (tr X) (tr O) = sumR X.length (fun r => sumR X.length (fun s => onI (s < r) * (dl (tr X) (tr O) r s * lti (cl X r : Int) (cl X s : Int)))) - sumR X.length (fun r => sumR X.length (fun s => onI (s < r) * (dl (tr X) (tr O) r s * lti (cl X r : Int) (cl O s : Int)))) - sumR X.length (fun r => sumR X.length (fun s => onI (s < r) * (dl (tr X) (tr O) r s * lti (cl O r : Int) (cl X s : Int)))) + sumR X.length (fun r => sumR X.length (fun s => onI (s < r) * (dl (tr X) (tr O) r s * lti (cl O r : Int) (cl O s : Int)))) := by
    unfold lkI pairS
    rw [tr_length, ← sumR_sub, ← sumR_sub, ← sumR_add]
    refine sumR_congr (fun r hr => ?_)
    rw [← sumR_sub, ← sumR_sub, ← sumR_add]
    refine sumR_congr (fun s hs => ?_)
    unfold Tt
    rw [cl_gt h.pX hr, cl_gt h.pX hs, cl_gt h.pO (j := r) (by omega), cl_gt h.pO (j := s) (by omega)]
    simp only [← Int.mul_sub, ← Int.mul_add]
  rw [e1, part X X h.pX h.pX rfl rfl d1, part X O h.pX h.pO rfl hl.symm d2, part O X h.pO h.pX hl.symm rfl d3, part O O h.pO h.pO hl.symm hl.symm d4]
  rw [← sumR_sub, ← sumR_sub, ← sumR_add]
  unfold lkI pairS
  rw [sumR_swap]
  refine sumR_congr (fun k hk => ?_)
  rw [← sumR_sub, ← sumR_sub, ← sumR_add]
  refine sumR_congr (fun i hi => ?_)
  rw [dl_symm h hk hi]
  show _ = onI (k < i) * _
  unfold Tt
  generalize lti (gt X i) (gt X k) = a1
  generalize lti (gt O i) (gt X k) = a2
  generalize lti (gt X i) (gt O k) = a3
  generalize lti (gt O i) (gt O k) = a4
  generalize dl X O i k = dd
  generalize onI (k < i) = oo
  rw [← Int.sub_mul, ← Int.sub_mul, ← Int.add_mul, Int.mul_comm, Int.mul_comm dd oo, Int.mul_assoc]
  congr 2
  omega
theorem lk_vw {rows : Bool} (h : Vd X O) : lkI (vw rows X) (vw rows O) = lkI X O := by
  cases rows
  · rfl
  · exact lk_tr h
theorem lk_apply3 {X1 O1 : List Int} {k a v : Int} {rows : Bool} (hk : k ≠ 4) (h : applyM X O k rows a v = (0, X1, O1)) : lkI X1 O1 = lkI X O := by
  obtain ⟨hv, hr, Y, P, hc, rfl, rfl⟩ := applyM_inv h
  have hw := vw_vd (rows := rows) hv
  have hvd : Vd Y P := by
    have := colsL_vd (a := a.toNat) (v := v.toNat) hw hr.1 (by rw [vw_length]; have := hr.2.1; omega) (by rw [vw_length]; have := hr.2.2; omega) (by rw [hc])
    rwa [hc] at this
  rw [lk_vw hvd, ← lk_vw (rows := rows) hv]
  have hl := vw_length rows X
  have ha := hr.2.1
  have h1 := hr.1
  generalize vw rows X = X' at *
  generalize vw rows O = O' at *
  unfold colsL at hc
  by_cases k1 : k = 1
  · rw [if_pos k1] at hc
    injection hc with _ hc
    injection hc with e1 e2
    subst e1 e2
    exact lk_rot hw
  rw [if_neg k1] at hc
  by_cases k2 : k = 2
  · rw [if_pos k2] at hc
    split at hc
    · rename_i hcm
      injection hc with _ hc
      injection hc with e1 e2
      subst e1 e2
      subst k2
      refine lk_swap hw ?_ hcm
      simp [limAt] at ha
      omega
    · cases hc
  rw [if_neg k2] at hc
  by_cases k3 : k = 3
  · rw [if_pos k3] at hc
    split at hc
    · rename_i hd
      injection hc with _ hc
      injection hc with e1 e2
      subst e1 e2
      subst k3
      refine lk_del hw ?_ hd
      simp [limAt] at ha
      omega
    · cases hc
  · omega
/-- every move keeps the linking number -/
theorem lk_apply {X1 O1 : List Int} {k a v : Int} {rows : Bool} (h : applyM X O k rows a v = (0, X1, O1)) : lkI X1 O1 = lkI X O := by
  by_cases k4 : k = 4
  · subst k4
    exact (lk_apply3 (by decide) (undo_sta h)).symm
  · exact lk_apply3 k4 h

def sgn (n : Int) : Int := if n < 0 then -1 else if 0 < n then 1 else 0
/-- the column i crosses the row j -/
def crB (X O : List Int) (i j : Nat) : Bool := decide (minG (gt X i) (gt O i) < j) && decide ((j : Int) < maxG (gt X i) (gt O i)) && decide (minG (cl X j) (cl O j) < i) && decide ((i : Int) < maxG (cl X j) (cl O j))
/-- what a crossing adds -/
def crT (X O : List Int) (i j : Nat) : Int := dl X O i (cl X j) * - (sgn (gt O i - gt X i) * sgn ((cl X j : Int) - cl O j))
theorem half1 {x o j : Int} (h1 : x ≠ j) (h2 : o ≠ j) : (if minG x o < j ∧ j < maxG x o then sgn (o - x) else 0) = lti x j - lti o j := by
  unfold minG maxG sgn lti
  repeat' split
  all_goals omega
theorem half2 {c d i : Int} (h3 : c ≠ i) (h4 : d ≠ i) : (if minG c d < i ∧ i < maxG c d then sgn (c - d) else 0) = lti d i - lti c i := by
  unfold minG maxG sgn lti
  repeat' split
  all_goals omega
theorem cross_plain {x o c d i j : Int} (h1 : x ≠ j) (h2 : o ≠ j) (h3 : c ≠ i) (h4 : d ≠ i) :
    (if (decide (minG x o < j) && decide (j < maxG x o) && decide (minG c d < i) && decide (i < maxG c d)) = true then - (sgn (o - x) * sgn (c - d)) else 0) = - ((lti x j - lti o j) * (lti d i - lti c i)) := by
  rw [← half1 h1 h2, ← half2 h3 h4]
  by_cases p : minG x o < j ∧ j < maxG x o
  · by_cases q : minG c d < i ∧ i < maxG c d
    · rw [if_pos p, if_pos q, if_pos (by simp [p, q])]
    · rw [if_pos p, if_neg q, if_neg (by simp [p]; omega)]; simp
  · rw [if_neg p, if_neg (by simp; intro h1 h2; exact absurd ⟨h1, h2⟩ p)]; simp
theorem crT_eq (h : Vd X O) {i j : Nat} (hi : i < X.length) (hj : j < X.length) :
    (if crB X O i j = true then crT X O i j else 0) = - (dl X O i (cl X j) * ((lti (gt X i) j - lti (gt O i) j) * (onI (cl O j < i) - onI (cl X j < i)))) := by
  have cx := cl_spec h.pX hj
  have co := cl_spec h.pO (j := j) (by have := h.len; omega)
  have hfo : fC X O (cl O j) = cl X j := fC_uniq h cx.1 (by rw [cx.2, co.2])
  have col : cl O j < X.length := by have := h.len; omega
  by_cases hr : Rl (fC X O) i (cl X j)
  · unfold crT; rw [dl_zero h hi hr]; simp
  · obtain ⟨n1, n2, n3, n4⟩ := rows_ne h hi cx.1 hr
    rw [cx.2] at n1 n3
    have m1 : ((cl X j : Nat) : Int) ≠ (i : Int) := fun e => hr (by rw [show cl X j = i by omega]; exact Rl.refl _ _)
    have m2 : ((cl O j : Nat) : Int) ≠ (i : Int) := fun e => hr (by rw [← hfo, show cl O j = i by omega]; exact Rl.step _ _)
    have := cross_plain n1 n3 m1 m2
    unfold crB crT
    rw [dl_one h hi hr, Int.one_mul, Int.one_mul, this, lti_nat, lti_nat]
/-- the sum over the crossings is the sum over pairs of columns -/
theorem cross_sum (h : Vd X O) : sumR X.length (fun i => sumR X.length (fun j => if crB X O i j = true then crT X O i j else 0)) = lkI X O := by
  have hl := h.len
  have pX := row_perm h.pX
  have pO := row_perm h.pO
  rw [← hl] at pO
  unfold lkI pairS
  refine sumR_congr (fun i hi => ?_)
  have e1 : sumR X.length (fun j => if crB X O i j = true then crT X O i j else 0) = sumR X.length (fun j => dl X O i (cl X j) * ((lti (gt X i) j - lti (gt O i) j) * onI (cl X j < i))) - sumR X.length (fun j => dl X O i (cl X j) * ((lti (gt X i) j - lti (gt O i) j) * onI (cl O j < i))) := by
    rw [← sumR_sub]
    refine sumR_congr (fun j hj => ?_)
    rw [crT_eq h hi hj, ← Int.mul_sub, ← Int.mul_sub, ← Int.mul_neg, ← Int.mul_neg]
    congr 2
    omega
  rw [e1, ← sumR_perm pX (fun j => dl X O i (cl X j) * ((lti (gt X i) j - lti (gt O i) j) * onI (cl X j < i))), ← sumR_perm pO (fun j => dl X O i (cl X j) * ((lti (gt X i) j - lti (gt O i) j) * onI (cl O j < i))), ← sumR_sub]
  refine sumR_congr (fun k hk => ?_)
  have g1 := h.pX.gt_rng hk
  have g2 := h.oX hk
  have c1 : (((gt X k).toNat : Nat) : Int) = gt X k := by omega
  have c2 : (((gt O k).toNat : Nat) : Int) = gt O k := by omega
  rw [cl_row h.pX hk, cX_O h hk, dl_f h hi hk, cl_row h.pO (by omega), c1, c2]
  show _ = onI (k < i) * _
  unfold Tt
  generalize lti (gt X i) (gt X k) = a1
  generalize lti (gt X i) (gt O k) = a2
  generalize lti (gt O i) (gt X k) = a3
  generalize lti (gt O i) (gt O k) = a4
  generalize dl X O i k = dd
  generalize onI (k < i) = oo
  rw [← Int.mul_sub, ← Int.sub_mul, Int.mul_comm oo (dd * _), Int.mul_assoc]
  congr 2
  omega
end
end Go.Proofs.Ytgclngoeglopcaa
