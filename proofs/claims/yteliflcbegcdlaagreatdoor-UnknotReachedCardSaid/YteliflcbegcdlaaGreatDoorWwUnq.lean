/- Translations keep grids valid (plain). -/
import Derived.Test.YteliflcbegcdlaaGreatDoorWwUnp
namespace Go.Proofs.YteliflcbegcdlaaGreatDoor
open Go.RowKit
set_option linter.unusedVariables false
/-- where an entry of a translation comes from -/
theorem trl_from {X : List Int} {c j : Nat} (hc : c < X.length) (hj : j < X.length) : ∃ i, i < X.length ∧ j = (i + c) % X.length := by
  by_cases h : c ≤ j
  · exact ⟨j - c, by omega, by rw [mod_small (by omega) hc, if_pos (by omega)]; omega⟩
  · exact ⟨j + X.length - c, by omega, by rw [mod_small (by omega) hc, if_neg (by omega)]; omega⟩
theorem trl_pm {X : List Int} {c r : Nat} (h : Pm X) (hc : c < X.length) (hr : r < X.length) : Pm (trl c r X) := by
  refine Pm.mk_inj (fun x hx => ?_) fun i j hi hj e => ?_
  · obtain ⟨j, hj, rfl⟩ := List.getElem_of_mem hx
    rw [trl_length] at hj ⊢
    obtain ⟨i, hi, rfl⟩ := trl_from hc hj
    rw [← gt_get (by rw [trl_length]; exact hj), trl_vd_gt h hc hr hi]
    have := h.gt_rng hi
    split <;> omega
  · rw [trl_length] at hi hj
    obtain ⟨i', hi', ei⟩ := trl_from hc hi
    obtain ⟨j', hj', ej⟩ := trl_from hc hj
    rw [← gt_get (by rw [trl_length]; exact hi), ← gt_get (by rw [trl_length]; exact hj), ei, ej, trl_vd_gt h hc hr hi', trl_vd_gt h hc hr hj'] at e
    have a := h.gt_rng hi'
    have b := h.gt_rng hj'
    have e3 : gt X i' = gt X j' := by split at e <;> split at e <;> omega
    rw [gt_get hi', gt_get hj'] at e3
    rw [ei, ej, h.inj hi' hj' e3]
theorem trl_vd {X O : List Int} {c r : Nat} (h : Vd X O) (hc : c < X.length) (hr : r < X.length) : Vd (trl c r X) (trl c r O) := by
  have hl := h.len
  refine ⟨by rw [trl_length]; exact h.two, by rw [trl_length]; exact h.most, by rw [trl_length, trl_length]; exact hl, trl_pm h.pX hc hr, trl_pm h.pO (by omega) (by omega), fun k h1 h2 e => ?_⟩
  rw [trl_length] at h1
  obtain ⟨i, hi, ei⟩ := trl_from hc h1
  rw [← gt_get (by rw [trl_length]; exact h1), ← gt_get h2, ei, trl_vd_gt h.pX hc hr hi] at e
  have e2 := trl_vd_gt (X := O) (c := c) (r := r) (i := i) h.pO (by omega) (by omega) (by omega)
  rw [← hl] at e2
  rw [e2] at e
  have a := h.pX.gt_rng hi
  have b := h.pO.gt_rng (show i < O.length by omega)
  rw [← hl] at b
  have e3 : gt X i = gt O i := by split at e <;> split at e <;> omega
  rw [gt_get hi, gt_get (by omega)] at e3
  exact h.ne i hi (by omega) e3
theorem lst_cand (X O : List Int) : ∀ k, ∃ i, i ≤ k ∧ lstK X O k = cand X O i
  | 0 => ⟨0, by omega, rfl⟩
  | k + 1 => by
    obtain ⟨i, h1, h2⟩ := lst_cand X O k
    rw [lstK]
    split
    · exact ⟨k + 1, by omega, rfl⟩
    · exact ⟨i, by omega, h2⟩
theorem lstM_trl {g : Gd} (h : Vd g.1 g.2) : ∃ c r, c < g.1.length ∧ r < g.1.length ∧ lstM g = (trl c r g.1, trl c r g.2) := by
  have h2 := h.two
  obtain ⟨i, h1, e⟩ := lst_cand g.1 g.2 (g.1.length - 1)
  exact ⟨_, _, Nat.mod_lt _ (by omega), Nat.mod_lt _ (by omega), e⟩
theorem lstM_vd {g : Gd} (h : Vd g.1 g.2) : Vd (lstM g).1 (lstM g).2 := by
  obtain ⟨c, r, hc, hr, e⟩ := lstM_trl h
  rw [e]; exact trl_vd h hc hr
theorem lstM_len {g : Gd} (h : Vd g.1 g.2) : (lstM g).1.length = g.1.length := by
  obtain ⟨c, r, hc, hr, e⟩ := lstM_trl h
  rw [e]; exact trl_length _ _ _
end Go.Proofs.YteliflcbegcdlaaGreatDoor
