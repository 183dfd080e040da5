/- Fox derivatives of reduced words, of inverses: plain. -/
import Derived.Test.YtlbihllmpbhhcaaGreatDoorGrt
namespace Go.Proofs.YtlbihllmpbhhcaaGreatDoor
set_option linter.unusedVariables false

theorem psh_mem {s : List Int} {x y : Int} (h : y ∈ psh s x) : y ∈ s ∨ y = x := by
  unfold psh at h
  split at h
  · exact .inl ((List.dropLast_sublist s).subset h)
  · rcases List.mem_append.1 h with h | h
    · exact .inl h
    · exact .inr (List.mem_singleton.1 h)
theorem pshL_mem {y : Int} : ∀ (l s : List Int), y ∈ pshL s l → y ∈ s ∨ y ∈ l
  | [], s, h => .inl h
  | x :: l, s, h => by
    rw [pshL_cons] at h
    rcases pshL_mem l _ h with h | h
    · rcases psh_mem h with h | h
      · exact .inl h
      · exact .inr (by rw [h]; exact List.mem_cons_self ..)
    · exact .inr (List.mem_cons_of_mem _ h)
theorem invW_mem {w : List Int} {y : Int} (h : y ∈ invW w) : -y ∈ w := by
  unfold invW at h
  rw [List.mem_reverse, List.mem_map] at h
  obtain ⟨x, hx, rfl⟩ := h
  rw [Int.neg_neg]; exact hx
theorem invW_len (w : List Int) : (invW w).length = w.length := by unfold invW; simp
theorem fitB_mem {ws comp : List Int} {gen : Int} (h : fitB ws comp gen = true) : 0 ≤ gen ∧ gen < comp.length ∧ (∀ x ∈ ws, x ≠ 0 ∧ x ≤ comp.length ∧ -(comp.length : Int) ≤ x) ∧ ∀ c ∈ comp, -1000 ≤ c ∧ c ≤ 1000 := by
  unfold fitB at h
  simp only [Bool.and_eq_true, decide_eq_true_eq] at h
  obtain ⟨⟨⟨h1, h2⟩, h3⟩, h4⟩ := h
  refine ⟨h1, h2, fun x hx => ?_, fun c hc => ?_⟩
  · have := vldW_iff.1 h3 x hx
    exact ⟨this.2.1, this.2.2.1, this.2.2.2⟩
  · exact of_decide_eq_true (List.all_eq_true.1 h4 c hc)
theorem fitB_mk {ws comp : List Int} {gen : Int} (h1 : 0 ≤ gen) (h2 : gen < comp.length) (h3 : ∀ x ∈ ws, x ≠ 0 ∧ x ≤ comp.length ∧ -(comp.length : Int) ≤ x) (h4 : ∀ c ∈ comp, -1000 ≤ c ∧ c ≤ 1000) : fitB ws comp gen = true :=
  fitB_ok h1 h2 (vldW_iff.2 fun x hx => ⟨by omega, (h3 x hx).1, (h3 x hx).2.1, (h3 x hx).2.2⟩) h4
theorem fitB_inv {ws comp : List Int} {gen : Int} (h : fitB ws comp gen = true) : fitB (pshL [] (invW ws)) comp gen = true := by
  obtain ⟨h1, h2, h3, h4⟩ := fitB_mem h
  refine fitB_mk h1 h2 (fun x hx => ?_) h4
  rcases pshL_mem _ _ hx with q | q
  · cases q
  · have := h3 _ (invW_mem q); omega
theorem fitB_red {ws comp : List Int} {gen : Int} (h : fitB ws comp gen = true) : fitB (pshL [] ws) comp gen = true := by
  obtain ⟨h1, h2, h3, h4⟩ := fitB_mem h
  refine fitB_mk h1 h2 (fun x hx => ?_) h4
  rcases pshL_mem _ _ hx with q | q
  · cases q
  · exact h3 _ q
theorem fitB_app {us vs comp : List Int} {gen : Int} (h : fitB us comp gen = true) (k : fitB vs comp gen = true) : fitB (us ++ vs) comp gen = true := by
  obtain ⟨h1, h2, h3, h4⟩ := fitB_mem h
  obtain ⟨_, _, k3, _⟩ := fitB_mem k
  refine fitB_mk h1 h2 (fun x hx => ?_) h4
  rcases List.mem_append.1 hx with q | q
  · exact h3 _ q
  · exact k3 _ q
theorem fitB_take {vs comp : List Int} {gen : Int} (k : Nat) (h : fitB vs comp gen = true) : fitB (vs.take k) comp gen = true := by
  obtain ⟨h1, h2, h3, h4⟩ := fitB_mem h
  exact fitB_mk h1 h2 (fun x hx => h3 _ (List.mem_of_mem_take hx)) h4
theorem fitB_drop {vs comp : List Int} {gen : Int} (k : Nat) (h : fitB vs comp gen = true) : fitB (vs.drop k) comp gen = true := by
  obtain ⟨h1, h2, h3, h4⟩ := fitB_mem h
  exact fitB_mk h1 h2 (fun x hx => h3 _ (List.mem_of_mem_drop hx)) h4
theorem fitB_ne {ws comp : List Int} {gen : Int} (h : fitB ws comp gen = true) : ∀ x ∈ ws, x ≠ 0 := fun x hx => ((fitB_mem h).2.2.1 x hx).1
theorem fitB_bd {ws comp : List Int} {gen : Int} (h : fitB ws comp gen = true) (hc : comp.length ≤ 8) : ∀ x ∈ ws, -1000000000 ≤ x ∧ x ≤ 1000000000 := fun x hx => by
  have := (fitB_mem h).2.2.1 x hx; omega
theorem dF_red (comp : List Int) (g : Int) {w : List Int} (h : ∀ x ∈ w, x ≠ 0) (e : Int) : dF comp g (pshL [] w) e = dF comp g w e := (dgF_pshL comp g w [] h).2 e
theorem dg_red (comp : List Int) {w : List Int} (h : ∀ x ∈ w, x ≠ 0) : dg comp (pshL [] w) = dg comp w := (dgF_pshL comp 0 w [] h).1
theorem dF_inv (comp : List Int) (g : Int) {w : List Int} (h : ∀ x ∈ w, x ≠ 0) (e : Int) : dF comp g (pshL [] (invW w)) e = - dF comp g w (e + dg comp w) := by
  rw [dF_red comp g (invW_ne h), dF_invW comp g h]
theorem dg_inv2 (comp : List Int) {w : List Int} (h : ∀ x ∈ w, x ≠ 0) : dg comp (pshL [] (invW w)) = - dg comp w := by
  rw [dg_red comp (invW_ne h), dg_invW comp h]
/-- a word with another and its inverse put in -/
theorem dF_around (comp : List Int) (g : Int) (u v : List Int) (k : Nat) (h : ∀ x ∈ u, x ≠ 0) (e : Int) : dF comp g (v.take k ++ u ++ pshL [] (invW u) ++ v.drop k) e = dF comp g v e := by
  have h1 : dg comp (v.take k ++ u ++ pshL [] (invW u)) = dg comp (v.take k) := by rw [dg_append, dg_append, dg_inv2 comp h]; omega
  have h2 : dF comp g (v.take k ++ u ++ pshL [] (invW u)) e = dF comp g (v.take k) e := by
    rw [dF_append, dF_append, dF_inv comp g h, dg_append]
    have : e - (dg comp (v.take k) + dg comp u) + dg comp u = e - dg comp (v.take k) := by omega
    rw [this]; omega
  rw [dF_append, h1, h2]
  conv => rhs; rw [← List.take_append_drop k v, dF_append]
theorem around_len (u v : List Int) (k : Nat) (hu : u.length ≤ 40) (hv : v.length ≤ 40) : (v.take k ++ u ++ pshL [] (invW u) ++ v.drop k).length ≤ 1000 := by
  have h1 := pshL_len (invW u) []
  rw [invW_len] at h1
  simp only [List.length_append, List.length_take, List.length_drop, List.length_nil] at *
  omega
end Go.Proofs.YtlbihllmpbhhcaaGreatDoor
