/- All moves keep the determinant of a grid up to its sign and powers of 2; the grids of size at most 6 of one component whose determinant is that of the unknot lead to smaller ones (plain). -/
import Derived.Test.YteliflcbegcdlaaGreatDoorWwGdt
namespace Go.Proofs.YteliflcbegcdlaaGreatDoor
open Go.RowKit
set_option linter.unusedVariables false
/-- determinants that are alike -/
def Same2 (g g' : Gd) : Prop := DG g * DG g * 4 ^ g'.1.length = DG g' * DG g' * 4 ^ g.1.length
theorem Same2.symm {g g' : Gd} (h : Same2 g g') : Same2 g' g := Eq.symm h
theorem Same2.trans {a b c : Gd} (h : Same2 a b) (k : Same2 b c) : Same2 a c := by
  unfold Same2 at *
  have hp : (4 : Int) ^ b.1.length ≠ 0 := Int.pow_ne_zero (by decide)
  generalize DG a * DG a = x at *
  generalize DG b * DG b = y at *
  generalize DG c * DG c = z at *
  generalize (4 : Int) ^ a.1.length = p at *
  generalize (4 : Int) ^ b.1.length = q at *
  generalize (4 : Int) ^ c.1.length = r at *
  have : (x * r) * q = (z * p) * q := by
    rw [show x * r * q = (x * q) * r by grind, h, show y * p * r = (y * r) * p by grind, k]
    grind
  exact Int.eq_of_mul_eq_mul_right hp this
theorem Same2.of_eq {g g' : Gd} (hl : g'.1.length = g.1.length) (h : DG g' * DG g' = DG g * DG g) : Same2 g g' := by
  unfold Same2
  rw [hl, h]
theorem Same2.vw {g : Gd} (h : VdG g) (r : Bool) : Same2 g (vw r g.1, vw r g.2) := Same2.of_eq (vw_length _ _) (by rw [DG_vw h])
theorem apply_same3 {X O Y P : List Int} {k a v : Int} {r : Bool} (hk : k ≠ 4) (h : applyM X O k r a v = (0, Y, P)) : Same2 (X, O) (Y, P) := by
  obtain ⟨hv, hr, Y', P', hc, rfl, rfl⟩ := applyM_inv h
  have hw : VdG (vw r X, vw r O) := vw_vd hv
  have hw2 : VdG (Y', P') := by
    have := colsL_vd (a := a.toNat) (v := v.toNat) hw hr.1 (by simp only [vw_length]; have := hr.2.1; omega) (by simp only [vw_length]; have := hr.2.2; omega) (by rw [hc])
    rw [hc] at this
    exact this
  refine (Same2.vw (g := (X, O)) hv r).trans (Same2.trans ?_ (Same2.vw hw2 r))
  obtain ⟨⟨k1, k4⟩, ⟨a0, a1⟩, _⟩ := hr
  have hlv : (vw r X).length = X.length := vw_length _ _
  unfold colsL at hc
  by_cases e1 : k = 1
  · rw [if_pos e1] at hc
    injection hc with _ hc
    injection hc with eY eP
    subst eY; subst eP
    exact Same2.of_eq (rotL_length _) (DG_rot hw)
  rw [if_neg e1] at hc
  by_cases e2 : k = 2
  · rw [if_pos e2] at hc
    split at hc
    · next hcm =>
      injection hc with _ hc
      injection hc with eY eP
      subst eY; subst eP
      refine Same2.of_eq (swapL_length _ _) (DG_swap hw ?_ hcm)
      subst e2
      simp only [limAt] at a1
      simp at a1
      simp only [hlv]
      omega
    · injection hc with hc _; cases hc
  rw [if_neg e2] at hc
  by_cases e3 : k = 3
  · rw [if_pos e3] at hc
    split at hc
    · next hcm =>
      injection hc with _ hc
      injection hc with eY eP
      subst eY; subst eP
      have ha : a.toNat < (vw r X).length := by subst e3; simp only [limAt] at a1; simp at a1; omega
      obtain ⟨h3, hA, _⟩ := (desOk_iff hw.len).1 hcm
      have b1 := Pm.gt_rng (l := vw r X) hw.pX ha
      have b2 := Pm.gt_rng (l := vw r O) hw.pO (i := a.toNat) (by have := hw.len; simp only at this; omega)
      obtain ⟨low, hlow⟩ : ∃ low : Nat, (low : Int) = minG (gt (vw r X) a.toNat) (gt (vw r O) a.toNat) := ⟨(minG (gt (vw r X) a.toNat) (gt (vw r O) a.toNat)).toNat, by unfold minG; split <;> omega⟩
      have := DG_del hw h3 ha hA hlow
      simp only [getD_gt]
      rw [← hlow]
      unfold Same2
      simp only [delL_length _ _ _ ha] at this ⊢
      rw [this, show (vw r X).length = (vw r X).length - 1 + 1 by omega, Int.pow_succ, Nat.add_sub_cancel]
      grind
    · injection hc with hc _; cases hc
  · omega
theorem apply_same {X O Y P : List Int} {k a v : Int} {r : Bool} (h : applyM X O k r a v = (0, Y, P)) : Same2 (X, O) (Y, P) := by
  by_cases hk : k = 4
  · subst hk
    exact (apply_same3 (by decide) (undo_sta h)).symm
  · exact apply_same3 hk h
/-! ### translations -/
theorem tl_apply {g : Gd} (h : VdG g) (r : Bool) : Same2 g (vw r (rotL (vw r g.1)), vw r (rotL (vw r g.2))) := apply_same (k := 1) (a := 0) (v := 0) (r := r) (tu_app h r)
theorem col_same {g : Gd} (h : VdG g) : ∀ m, m ≤ g.1.length → Same2 g (trl ((g.1.length - m) % g.1.length) 0 g.1, trl ((g.1.length - m) % g.1.length) 0 g.2) ∧ comp (trl ((g.1.length - m) % g.1.length) 0 g.1) (trl ((g.1.length - m) % g.1.length) 0 g.2) = comp g.1 g.2
  | 0, _ => by
    rw [Nat.sub_zero, Nat.mod_self, trl_zero h.pX, trl_zero h.pO]
    exact ⟨rfl, rfl⟩
  | m + 1, hm => by
    obtain ⟨i1, i2⟩ := col_same h m (by omega)
    have h2 := h.two
    have hl := h.len
    have hlt : (g.1.length - m) % g.1.length < g.1.length := Nat.mod_lt _ (by omega)
    have hv : VdG (trl ((g.1.length - m) % g.1.length) 0 g.1, trl ((g.1.length - m) % g.1.length) 0 g.2) := trl_vd h hlt (by omega)
    have e : ∀ l : List Int, Pm l → l.length = g.1.length → rotL (trl ((g.1.length - m) % g.1.length) 0 l) = trl ((g.1.length - (m + 1)) % g.1.length) 0 l := fun l hp hll => by
      rw [rotL_trl (trl_pm hp (by omega) (by omega)) (by rw [trl_length]; omega), trl_length, trl_trl (by omega) (by omega), hll, Nat.mod_add_mod, show g.1.length - m + (g.1.length - 1) = g.1.length - (m + 1) + g.1.length by omega, Nat.add_mod_right, Nat.add_zero, Nat.zero_mod]
    have a1 := tl_apply hv false
    have a2 := comp_rot hv
    simp only [vw, Bool.false_eq_true, if_false] at a1
    simp only [e _ h.pX rfl, e _ h.pO hl.symm] at a1 a2
    exact ⟨i1.trans a1, a2.trans i2⟩
theorem trl_col_same {g : Gd} (h : VdG g) {c : Nat} (hc : c < g.1.length) : Same2 g (trl c 0 g.1, trl c 0 g.2) ∧ comp (trl c 0 g.1) (trl c 0 g.2) = comp g.1 g.2 := by
  have := col_same h (g.1.length - c) (by omega)
  rw [show g.1.length - (g.1.length - c) = c by omega, Nat.mod_eq_of_lt hc] at this
  exact this
theorem tl_same {g x : Gd} (h : VdG g) (t : Tl g x) : Same2 g x ∧ comp x.1 x.2 = comp g.1 g.2 := by
  obtain ⟨c, r, hc, hr, rfl⟩ := t
  have hl := h.len
  have h2 := h.two
  obtain ⟨a1, a2⟩ := trl_col_same h hc
  have hv : VdG (trl c 0 g.1, trl c 0 g.2) := trl_vd h hc (by omega)
  have hvt : VdG (tr (trl c 0 g.1), tr (trl c 0 g.2)) := tr_vd hv
  obtain ⟨b1, b2⟩ := trl_col_same (c := r) hvt (by simp only [tr_length, trl_length]; exact hr)
  have e : ∀ l : List Int, Pm l → l.length = g.1.length → trl r 0 (tr (trl c 0 l)) = tr (trl c r l) := fun l hp hll => by
    rw [tr_trl hp (by omega) (by omega), trl_trl (by rw [tr_length]; omega) (by rw [tr_length]; omega), tr_trl hp (by omega) (by omega), tr_length, Nat.zero_add, Nat.add_zero, Nat.mod_eq_of_lt (by omega), Nat.mod_eq_of_lt (by omega)]
  simp only at b1 b2
  rw [e _ h.pX rfl, e _ h.pO hl.symm] at b1 b2
  have hvx : VdG (trl c r g.1, trl c r g.2) := trl_vd h hc hr
  have t1 := Same2.vw hv true
  have t2 := Same2.vw hvx true
  simp only [vw, if_true] at t1 t2
  refine ⟨a1.trans (t1.trans (b1.trans t2.symm)), ?_⟩
  have c1 := comp_tr hv
  have c2 := comp_tr hvx
  simp only at c1 c2
  rw [← c2, b2, c1, a2]
/-! ### the determinant of the unknot -/
def DU (g : Gd) : Prop := 4 * (DG g * DG g) = 4 ^ g.1.length
theorem DU.same {g g' : Gd} (h : Same2 g g') (d : DU g) : DU g' := by
  unfold DU Same2 at *
  have hp : (4 : Int) ^ g.1.length ≠ 0 := Int.pow_ne_zero (by decide)
  generalize DG g * DG g = x at *
  generalize DG g' * DG g' = y at *
  generalize (4 : Int) ^ g.1.length = p at *
  generalize (4 : Int) ^ g'.1.length = q at *
  have : (4 * y) * p = q * p := by
    rw [← d] at h ⊢
    grind
  exact Int.eq_of_mul_eq_mul_right hp this
end Go.Proofs.YteliflcbegcdlaaGreatDoor
