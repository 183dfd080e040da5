/- What the reference's Follow has found so far (plain). -/
import Derived.Test.YteliflcbegcdlaaGreatDoorZPlc
namespace Go.Proofs.YteliflcbegcdlaaGreatDoor
open Go.RowKit
set_option linter.unusedVariables false
theorem tryM_le (g : Gd) (ms : List Mv) : (tryM g ms).length ≤ 1 := by unfold tryM; split <;> simp
theorem fm_le {f : Nat → List (List Mv × Gd)} (h : ∀ i, (f i).length ≤ 1) : ∀ n, ((List.range n).flatMap f).length ≤ n
  | 0 => by simp
  | n + 1 => by
    rw [List.range_succ, List.flatMap_append, List.length_append]
    have := fm_le h n
    have := h n
    simp only [List.flatMap_cons, List.flatMap_nil, List.append_nil]
    omega
theorem nbrs_count (g : Gd) : (nbrs g).length ≤ 4 * g.1.length + 2 := by
  have one : ∀ r, (nbR g r).length ≤ 2 * g.1.length + 1 := fun r => by
    unfold nbR nb1 nb2 nb3
    rw [List.length_append, List.length_append]
    have h1 := fm_le (f := fun i : Nat => tryM g (rmL g r i)) (fun i => tryM_le _ _) g.1.length
    have h2 := fm_le (f := fun i : Nat => tryM g [coM r (i : Int)]) (fun i => tryM_le _ _) (g.1.length - 1)
    have h3 := tryM_le g [tuM r, coM r ((g.1.length : Int) - 2)]
    omega
  unfold nbrs
  rw [List.length_append]
  have := one false
  have := one true
  omega
/-- the classes gs of moves of the translations, those before (c, r, kd, a, k) all -/
structure FlI (g : Gd) (c r kd a k : Nat) (gs : List Gd) : Prop where
  fol : ∀ z ∈ gs, Fol g z
  cov : ∀ c' r' kd' a' k', c' < g.1.length → r' < g.1.length → 2 ≤ kd' → kd' ≤ 3 → a' < g.1.length → k' < 2 →
    (c' < c ∨ c' = c ∧ (r' < r ∨ r' = r ∧ (kd' < kd ∨ kd' = kd ∧ (a' < a ∨ a' = a ∧ k' < k)))) →
    ∀ y : Gd, applyM (trl c' r' g.1) (trl c' r' g.2) kd' (decide (k' = 1)) a' 0 = (0, y.1, y.2) → lstM y ∈ gs
  nd : gs.Nodup
section
variable {g : Gd} {c r kd a k : Nat} {gs : List Gd}
theorem FlI.start : FlI g 0 0 2 0 0 [] := ⟨fun z h => by simp at h, fun c' r' kd' a' k' h1 h2 h3 h4 h5 h6 h7 => by omega, List.nodup_nil⟩
theorem FlI.next (h : FlI g c r kd a k gs) (hn : ∀ y : Gd, applyM (trl c r g.1) (trl c r g.2) kd (decide (k = 1)) a 0 = (0, y.1, y.2) → lstM y ∈ gs) : FlI g c r kd a (k + 1) gs := by
  refine ⟨h.fol, fun c' r' kd' a' k' h1 h2 h3 h4 h5 h6 h7 y hy => ?_, h.nd⟩
  by_cases e : c' = c ∧ r' = r ∧ kd' = kd ∧ a' = a ∧ k' = k
  · obtain ⟨rfl, rfl, rfl, rfl, rfl⟩ := e
    exact hn y hy
  · exact h.cov c' r' kd' a' k' h1 h2 h3 h4 h5 h6 (by omega) y hy
theorem FlI.new (h : FlI g c r kd a k gs) (hc : c < g.1.length) (hr : r < g.1.length) (hk : kd = 2 ∨ kd = 3) {y : Gd} (hy : applyM (trl c r g.1) (trl c r g.2) kd (decide (k = 1)) a 0 = (0, y.1, y.2)) (hn : ¬ lstM y ∈ gs) : FlI g c r kd a (k + 1) (gs ++ [lstM y]) := by
  have h2 : FlI g c r kd a k (gs ++ [lstM y]) := by
    refine ⟨fun z hz => ?_, fun c' r' kd' a' k' h1 h2 h3 h4 h5 h6 h7 y hy => List.mem_append_left _ (h.cov c' r' kd' a' k' h1 h2 h3 h4 h5 h6 h7 y hy), ?_⟩
    · rcases List.mem_append.1 hz with hz | hz
      · exact h.fol z hz
      · rw [List.mem_singleton.1 hz]
        exact ⟨(trl c r g.1, trl c r g.2), y, kd, _, a, ⟨c, r, hc, hr, rfl⟩, by omega, hy, rfl⟩
    · rw [List.nodup_append]
      refine ⟨h.nd, by simp, ?_⟩
      intro a ha b hb e
      simp at hb
      subst hb; subst e
      exact hn ha
  refine h2.next fun y' hy' => ?_
  rw [hy] at hy'
  injection hy' with _ hy'
  injection hy' with e1 e2
  have : y = y' := Prod.ext e1 e2
  rw [← this]
  exact List.mem_append_right _ (by simp)
theorem FlI.k2 (h : FlI g c r kd a 2 gs) : FlI g c r kd (a + 1) 0 gs := ⟨h.fol, fun c' r' kd' a' k' h1 h2 h3 h4 h5 h6 h7 => h.cov c' r' kd' a' k' h1 h2 h3 h4 h5 h6 (by omega), h.nd⟩
theorem FlI.an (h : FlI g c r kd g.1.length 0 gs) : FlI g c r (kd + 1) 0 0 gs := ⟨h.fol, fun c' r' kd' a' k' h1 h2 h3 h4 h5 h6 h7 => h.cov c' r' kd' a' k' h1 h2 h3 h4 h5 h6 (by omega), h.nd⟩
theorem FlI.kd4 (h : FlI g c r 4 0 0 gs) : FlI g c (r + 1) 2 0 0 gs := ⟨h.fol, fun c' r' kd' a' k' h1 h2 h3 h4 h5 h6 h7 => h.cov c' r' kd' a' k' h1 h2 h3 h4 h5 h6 (by omega), h.nd⟩
theorem FlI.rn (h : FlI g c g.1.length 2 0 0 gs) : FlI g (c + 1) 0 2 0 0 gs := ⟨h.fol, fun c' r' kd' a' k' h1 h2 h3 h4 h5 h6 h7 => h.cov c' r' kd' a' k' h1 h2 h3 h4 h5 h6 (by omega), h.nd⟩
theorem FlI.len (h : FlI g c r kd a k gs) (hv : VdG g) : gs.length ≤ 162 := by
  have h1 := len_subG gs ((nbrs g).map fun p => lstM p.2) h.nd fun z hz => by
    obtain ⟨ms, y, hm, e⟩ := fol_nbrs hv (h.fol z hz)
    exact List.mem_map.2 ⟨(ms, y), hm, e⟩
  rw [List.length_map] at h1
  have := nbrs_count g
  have := hv.most
  omega
end
/-- the list of the classes that follow -/
def IsF (g : Gd) (gs : List Gd) : Prop := gs.Nodup ∧ gs.length ≤ 162 ∧ ∀ z, z ∈ gs ↔ Fol g z
theorem FlI.fin {g : Gd} {gs : List Gd} (hv : VdG g) (h : FlI g g.1.length 0 2 0 0 gs) : IsF g gs := by
  refine ⟨h.nd, h.len hv, fun z => ⟨h.fol z, ?_⟩⟩
  rintro ⟨x, y, kk, rr, a, ⟨c, r, hc, hr, rfl⟩, hk, hy, rfl⟩
  obtain ⟨_, hrg, _⟩ := applyM_inv hy
  obtain ⟨_, ⟨ha0, ha1⟩, _⟩ := hrg
  simp only [trl_length] at ha1
  have ha : a < (g.1.length : Int) := by
    rcases hk with rfl | rfl <;> simp only [limAt] at ha1 <;> simp at ha1 <;> omega
  obtain ⟨j, rfl⟩ : ∃ j : Nat, a = j := ⟨a.toNat, by omega⟩
  obtain ⟨kd, rfl, hkd⟩ : ∃ kd : Nat, kk = kd ∧ (2 ≤ kd ∧ kd ≤ 3) := ⟨kk.toNat, by omega, by omega⟩
  exact h.cov c r kd j (if rr then 1 else 0) hc hr hkd.1 hkd.2 (by omega) (by split <;> omega) (by omega) y (by cases rr <;> exact hy)
end Go.Proofs.YteliflcbegcdlaaGreatDoor
