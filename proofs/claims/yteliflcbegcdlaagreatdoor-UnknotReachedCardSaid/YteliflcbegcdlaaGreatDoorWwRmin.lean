/- The least of all translations of a grid, as the reference looks for it (plain). -/
import Derived.Test.YteliflcbegcdlaaGreatDoorWwNbp
namespace Go.Proofs.YteliflcbegcdlaaGreatDoor
open Go.RowKit
set_option linter.unusedVariables false
theorem cmpL_app : ∀ (a b c d : List Int), a.length = b.length → cmpL (a ++ c) (b ++ d) = if cmpL a b ≠ 0 then cmpL a b else cmpL c d
  | [], [], c, d, _ => by simp [cmpL]
  | [], _ :: _, c, d, h => by simp at h
  | _ :: _, [], c, d, h => by simp at h
  | x :: a, y :: b, c, d, h => by
    have ih := cmpL_app a b c d (by simpa using h)
    simp only [List.cons_append, cmpL]
    by_cases h1 : x < y
    · simp [h1]
    · by_cases h2 : y < x
      · simp [h1, h2]
      · simp only [h1, h2, if_false]; exact ih
/-- p is the least of the translations by a < c, or by c and less than r -/
structure LsU (g : Gd) (c r : Nat) (p : Gd) : Prop where
  tl : Tl g p
  le : ∀ a b, a < g.1.length → b < g.1.length → (a < c ∨ (a = c ∧ b < r)) → 0 ≤ cmpP (trl a b g.1, trl a b g.2) p
theorem LsU.start {g : Gd} (h : VdG g) : LsU g 0 0 g := ⟨Tl.refl h, fun a b _ _ hq => by omega⟩
theorem LsU.row {g p : Gd} {c r : Nat} (h : LsU g c r p) (hr : g.1.length ≤ r) : LsU g (c + 1) 0 p :=
  ⟨h.tl, fun a b ha hb hq => h.le a b ha hb (by omega)⟩
theorem LsU.take {g p : Gd} {c r : Nat} (h : LsU g c r p) (hc : c < g.1.length) (hr : r < g.1.length) (q : cmpP (trl c r g.1, trl c r g.2) p < 0) : LsU g c (r + 1) (trl c r g.1, trl c r g.2) := by
  refine ⟨⟨c, r, hc, hr, rfl⟩, fun a b ha hb hq => ?_⟩
  by_cases e : a = c ∧ b = r
  · obtain ⟨rfl, rfl⟩ := e
    have := cmpP_anti (trl a b g.1, trl a b g.2) (trl a b g.1, trl a b g.2)
    omega
  · have h1 := h.le a b ha hb (by omega)
    have h2 := cmpP_trans (trl a b g.1, trl a b g.2) (trl c r g.1, trl c r g.2) p
    omega
theorem LsU.keep {g p : Gd} {c r : Nat} (h : LsU g c r p) (q : ¬ cmpP (trl c r g.1, trl c r g.2) p < 0) : LsU g c (r + 1) p := by
  refine ⟨h.tl, fun a b ha hb hq => ?_⟩
  by_cases e : a = c ∧ b = r
  · obtain ⟨rfl, rfl⟩ := e; omega
  · exact h.le a b ha hb (by omega)
theorem cmpP_less {p q : Gd} (e : p.1.length = q.1.length) : cmpL (p.1 ++ p.2) (q.1 ++ q.2) = cmpP p q := cmpL_app _ _ _ _ e
theorem LsU.fin {g p : Gd} (h : VdG g) (k : LsU g g.1.length 0 p) : p = lstM g := by
  have h2 := h.two
  have hl := h.len
  obtain ⟨c, r, hc, hr, rfl⟩ := k.tl
  have hL := lstM_isL h
  obtain ⟨c', r', hc', hr', e'⟩ := Tl.least h
  have k1 := k.le c' r' hc' hr' (by omega)
  rw [← e'] at k1
  -- the column that comes first
  have hn : 0 < g.1.length := by omega
  have hi : (g.1.length - c) % g.1.length < g.1.length := Nat.mod_lt _ hn
  generalize hie : (g.1.length - c) % g.1.length = i at *
  have hic : (i + c) % g.1.length = 0 := by rw [← hie, Nat.mod_add_mod, show g.1.length - c + c = g.1.length by omega, Nat.mod_self]
  have hci : (g.1.length - i) % g.1.length = c := by
    by_cases z : c = 0
    · subst z
      rw [Nat.sub_zero, Nat.mod_self] at hie
      subst hie
      rw [Nat.sub_zero, Nat.mod_self]
    · rw [Nat.mod_eq_of_lt (by omega)] at hie
      rw [← hie, show g.1.length - (g.1.length - c) = c by omega, Nat.mod_eq_of_lt hc]
  have hg := h.pX.gt_rng hi
  have v0 := trl_vd_gt h.pX hc hr hi
  rw [hic] at v0
  have hrk : (g.1.length - (gt g.1 i).toNat) % g.1.length < g.1.length := Nat.mod_lt _ hn
  have w0 := trl_vd_gt h.pX hc hrk hi
  rw [hic] at w0
  have kk := k.le c _ hc hrk (by omega)
  have hc2 : cand g.1 g.2 i = (trl c ((g.1.length - (gt g.1 i).toNat) % g.1.length) g.1, trl c ((g.1.length - (gt g.1 i).toNat) % g.1.length) g.2) := by
    unfold cand; rw [hci]
  by_cases er : r = (g.1.length - (gt g.1 i).toNat) % g.1.length
  · rw [← er] at hc2
    have := hL.le i hi
    rw [hc2] at this
    have a := cmpP_anti (lstM g) (trl c r g.1, trl c r g.2)
    exact (cmpP_zero _ _ (by omega))
  · exfalso
    have key : cmpP (trl c ((g.1.length - (gt g.1 i).toNat) % g.1.length) g.1, trl c ((g.1.length - (gt g.1 i).toNat) % g.1.length) g.2) (trl c r g.1, trl c r g.2) < 0 := by
      generalize hq : (g.1.length - (gt g.1 i).toNat) % g.1.length = q at *
      have l1 : 0 < (trl c q g.1).length := by rw [trl_length]; exact hn
      have l2 : 0 < (trl c r g.1).length := by rw [trl_length]; exact hn
      have q0 : gt (trl c q g.1) 0 = 0 := by
        rw [w0]
        by_cases z : (gt g.1 i).toNat = 0
        · rw [z, Nat.sub_zero, Nat.mod_self] at hq; subst hq; rw [if_pos (by omega)]; omega
        · rw [Nat.mod_eq_of_lt (by omega)] at hq; rw [if_neg (by omega)]; omega
      have r0 : 0 < gt (trl c r g.1) 0 := by
        rw [v0]
        by_cases z : (gt g.1 i).toNat = 0
        · rw [z, Nat.sub_zero, Nat.mod_self] at hq; subst hq; rw [if_pos (by omega)]; omega
        · rw [Nat.mod_eq_of_lt (by omega)] at hq
          split
          · omega
          · omega
      unfold cmpP
      have : cmpL (trl c q g.1) (trl c r g.1) < 0 := by
        cases ha : trl c q g.1 with
        | nil => rw [ha] at l1; simp at l1
        | cons x xs =>
          cases hb : trl c r g.1 with
          | nil => rw [hb] at l2; simp at l2
          | cons y ys =>
            rw [ha] at q0
            rw [hb] at r0
            have q0' : x = 0 := q0
            have r0' : 0 < y := r0
            simp only [cmpL]
            rw [if_pos (by omega)]
            omega
      simp only
      rw [if_pos (by omega)]
      exact this
    omega
end Go.Proofs.YteliflcbegcdlaaGreatDoor
