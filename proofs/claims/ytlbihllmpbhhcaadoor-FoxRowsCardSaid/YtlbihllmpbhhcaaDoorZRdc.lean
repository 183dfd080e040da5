/- Fox derivatives of reduced words, of inverses: plain. -/
/- Sums of coefficients: plain. -/
/- The rows of the matrix of a link group: plain. -/
/- word.Reduce. -/
import Derived.Test.YtlbihllmpbhhcaaDoorZGrt
import Derived.Test.YtlbihllmpbhhcaaDoorZPsh
namespace Go.Proofs.YtlbihllmpbhhcaaDoor
set_option linter.unusedVariables false

theorem psh_mem {s : List Int} {x y : Int} (h : y ∈ psh s x) : y ∈ s ∨ y = x := by
  unfold psh at h
  split at h
  · exact .inl ((List.dropLast_sublist s).subset h)
  · rcases List.mem_append.1 h with h | h
    · exact .inl h
    · exact .inr (List.mem_singleton.1 h)
theorem pshL_mem {y : Int} : ∀ (l s : List Int), y ∈ pshL s l → y ∈ s ∨ y ∈ l
  | [], s, h => .inl h
  | x :: l, s, h => by
    rw [pshL_cons] at h
    rcases pshL_mem l _ h with h | h
    · rcases psh_mem h with h | h
      · exact .inl h
      · exact .inr (by rw [h]; exact List.mem_cons_self ..)
    · exact .inr (List.mem_cons_of_mem _ h)
theorem invW_mem {w : List Int} {y : Int} (h : y ∈ invW w) : -y ∈ w := by
  unfold invW at h
  rw [List.mem_reverse, List.mem_map] at h
  obtain ⟨x, hx, rfl⟩ := h
  rw [Int.neg_neg]; exact hx
theorem invW_len (w : List Int) : (invW w).length = w.length := by unfold invW; simp
theorem fitB_mem {ws comp : List Int} {gen : Int} (h : fitB ws comp gen = true) : 0 ≤ gen ∧ gen < comp.length ∧ (∀ x ∈ ws, x ≠ 0 ∧ x ≤ comp.length ∧ -(comp.length : Int) ≤ x) ∧ ∀ c ∈ comp, -1000 ≤ c ∧ c ≤ 1000 := by
  unfold fitB at h
  simp only [Bool.and_eq_true, decide_eq_true_eq] at h
  obtain ⟨⟨⟨h1, h2⟩, h3⟩, h4⟩ := h
  refine ⟨h1, h2, fun x hx => ?_, fun c hc => ?_⟩
  · have := vldW_iff.1 h3 x hx
    exact ⟨this.2.1, this.2.2.1, this.2.2.2⟩
  · exact of_decide_eq_true (List.all_eq_true.1 h4 c hc)
theorem fitB_mk {ws comp : List Int} {gen : Int} (h1 : 0 ≤ gen) (h2 : gen < comp.length) (h3 : ∀ x ∈ ws, x ≠ 0 ∧ x ≤ comp.length ∧ -(comp.length : Int) ≤ x) (h4 : ∀ c ∈ comp, -1000 ≤ c ∧ c ≤ 1000) : fitB ws comp gen = true :=
  fitB_ok h1 h2 (vldW_iff.2 fun x hx => ⟨by omega, (h3 x hx).1, (h3 x hx).2.1, (h3 x hx).2.2⟩) h4
theorem fitB_inv {ws comp : List Int} {gen : Int} (h : fitB ws comp gen = true) : fitB (pshL [] (invW ws)) comp gen = true := by
  obtain ⟨h1, h2, h3, h4⟩ := fitB_mem h
  refine fitB_mk h1 h2 (fun x hx => ?_) h4
  rcases pshL_mem _ _ hx with q | q
  · cases q
  · have := h3 _ (invW_mem q); omega
theorem fitB_red {ws comp : List Int} {gen : Int} (h : fitB ws comp gen = true) : fitB (pshL [] ws) comp gen = true := by
  obtain ⟨h1, h2, h3, h4⟩ := fitB_mem h
  refine fitB_mk h1 h2 (fun x hx => ?_) h4
  rcases pshL_mem _ _ hx with q | q
  · cases q
  · exact h3 _ q
theorem fitB_app {us vs comp : List Int} {gen : Int} (h : fitB us comp gen = true) (k : fitB vs comp gen = true) : fitB (us ++ vs) comp gen = true := by
  obtain ⟨h1, h2, h3, h4⟩ := fitB_mem h
  obtain ⟨_, _, k3, _⟩ := fitB_mem k
  refine fitB_mk h1 h2 (fun x hx => ?_) h4
  rcases List.mem_append.1 hx with q | q
  · exact h3 _ q
  · exact k3 _ q
theorem fitB_take {vs comp : List Int} {gen : Int} (k : Nat) (h : fitB vs comp gen = true) : fitB (vs.take k) comp gen = true := by
  obtain ⟨h1, h2, h3, h4⟩ := fitB_mem h
  exact fitB_mk h1 h2 (fun x hx => h3 _ (List.mem_of_mem_take hx)) h4
theorem fitB_drop {vs comp : List Int} {gen : Int} (k : Nat) (h : fitB vs comp gen = true) : fitB (vs.drop k) comp gen = true := by
  obtain ⟨h1, h2, h3, h4⟩ := fitB_mem h
  exact fitB_mk h1 h2 (fun x hx => h3 _ (List.mem_of_mem_drop hx)) h4
theorem fitB_ne {ws comp : List Int} {gen : Int} (h : fitB ws comp gen = true) : ∀ x ∈ ws, x ≠ 0 := fun x hx => ((fitB_mem h).2.2.1 x hx).1
theorem fitB_bd {ws comp : List Int} {gen : Int} (h : fitB ws comp gen = true) (hc : comp.length ≤ 8) : ∀ x ∈ ws, -1000000000 ≤ x ∧ x ≤ 1000000000 := fun x hx => by
  have := (fitB_mem h).2.2.1 x hx; omega
theorem dF_red (comp : List Int) (g : Int) {w : List Int} (h : ∀ x ∈ w, x ≠ 0) (e : Int) : dF comp g (pshL [] w) e = dF comp g w e := (dgF_pshL comp g w [] h).2 e
theorem dg_red (comp : List Int) {w : List Int} (h : ∀ x ∈ w, x ≠ 0) : dg comp (pshL [] w) = dg comp w := (dgF_pshL comp 0 w [] h).1
theorem dF_inv (comp : List Int) (g : Int) {w : List Int} (h : ∀ x ∈ w, x ≠ 0) (e : Int) : dF comp g (pshL [] (invW w)) e = - dF comp g w (e + dg comp w) := by
  rw [dF_red comp g (invW_ne h), dF_invW comp g h]
theorem dg_inv2 (comp : List Int) {w : List Int} (h : ∀ x ∈ w, x ≠ 0) : dg comp (pshL [] (invW w)) = - dg comp w := by
  rw [dg_red comp (invW_ne h), dg_invW comp h]
/-- a word with another and its inverse put in -/
theorem dF_around (comp : List Int) (g : Int) (u v : List Int) (k : Nat) (h : ∀ x ∈ u, x ≠ 0) (e : Int) : dF comp g (v.take k ++ u ++ pshL [] (invW u) ++ v.drop k) e = dF comp g v e := by
  have h1 : dg comp (v.take k ++ u ++ pshL [] (invW u)) = dg comp (v.take k) := by rw [dg_append, dg_append, dg_inv2 comp h]; omega
  have h2 : dF comp g (v.take k ++ u ++ pshL [] (invW u)) e = dF comp g (v.take k) e := by
    rw [dF_append, dF_append, dF_inv comp g h, dg_append]
    have : e - (dg comp (v.take k) + dg comp u) + dg comp u = e - dg comp (v.take k) := by omega
    rw [this]; omega
  rw [dF_append, h1, h2]
  conv => rhs; rw [← List.take_append_drop k v, dF_append]
theorem around_len (u v : List Int) (k : Nat) (hu : u.length ≤ 40) (hv : v.length ≤ 40) : (v.take k ++ u ++ pshL [] (invW u) ++ v.drop k).length ≤ 1000 := by
  have h1 := pshL_len (invW u) []
  rw [invW_len] at h1
  simp only [List.length_append, List.length_take, List.length_drop, List.length_nil] at *
  omega
end Go.Proofs.YtlbihllmpbhhcaaDoor

namespace Go.Proofs.YtlbihllmpbhhcaaDoor
set_option linter.unusedVariables false

def sumC : List (Int × Int) → Int
  | [] => 0
  | t :: l => t.2 + sumC l
def asum : List (Int × Int) → Nat
  | [] => 0
  | t :: l => t.2.natAbs + asum l
/-- the sum of the coefficients below an exponent -/
def psum : List (Int × Int) → Int → Int
  | [], _ => 0
  | t :: l, e => (if t.1 < e then t.2 else 0) + psum l e
theorem psum_succ (l : List (Int × Int)) (e : Int) : psum l (e + 1) = psum l e + cf l e := by
  induction l with
  | nil => rfl
  | cons t l ih =>
    rw [psum, psum, cf_cons, ih]
    by_cases h : t.1 < e
    · rw [if_pos (by omega), if_pos h, if_neg (by omega)]; omega
    · by_cases h2 : t.1 = e
      · rw [if_pos (by omega), if_neg h, if_pos h2]; omega
      · rw [if_neg (by omega), if_neg h, if_neg h2]; omega
theorem psum_bd (l : List (Int × Int)) (e : Int) : -(asum l : Int) ≤ psum l e ∧ psum l e ≤ asum l := by
  induction l with
  | nil => simp [psum, asum]
  | cons t l ih =>
    rw [psum, asum]
    split <;> omega
theorem psum_0 {l : List (Int × Int)} {e : Int} (h : ∀ t ∈ l, e ≤ t.1) : psum l e = 0 := by
  induction l with
  | nil => rfl
  | cons t l ih =>
    rw [psum, if_neg (by have := h t (List.mem_cons_self ..); omega), ih (fun s hs => h s (List.mem_cons_of_mem _ hs))]; rfl
theorem psum_all {l : List (Int × Int)} {e : Int} (h : ∀ t ∈ l, t.1 < e) : psum l e = sumC l := by
  induction l with
  | nil => rfl
  | cons t l ih =>
    rw [psum, sumC, if_pos (h t (List.mem_cons_self ..)), ih (fun s hs => h s (List.mem_cons_of_mem _ hs))]
theorem exists_below (l : List (Int × Int)) : ∃ B : Int, ∀ t ∈ l, B ≤ t.1 ∧ t.1 ≤ -B := by
  induction l with
  | nil => exact ⟨0, fun t h => by cases h⟩
  | cons t l ih =>
    obtain ⟨B, hB⟩ := ih
    refine ⟨min B (-(t.1.natAbs : Int)), fun s hs => ?_⟩
    rcases List.mem_cons.1 hs with rfl | hs
    · omega
    · have := hB s hs; omega
theorem sumC_cf {l m : List (Int × Int)} (h : ∀ e, cf l e = cf m e) : sumC l = sumC m := by
  obtain ⟨B1, h1⟩ := exists_below l
  obtain ⟨B2, h2⟩ := exists_below m
  have key : ∀ n : Nat, psum l (min B1 B2 + n) = psum m (min B1 B2 + n) := by
    intro n
    induction n with
    | zero => rw [psum_0 (fun t ht => by have := h1 t ht; omega), psum_0 (fun t ht => by have := h2 t ht; omega)]
    | succ n ih =>
      have e : min B1 B2 + ((n + 1 : Nat) : Int) = (min B1 B2 + n) + 1 := by omega
      rw [e, psum_succ, psum_succ, ih, h]
  have h3 := key (max (1 - B1 - min B1 B2) (1 - B2 - min B1 B2)).toNat
  rwa [psum_all (fun t ht => by have := h1 t ht; omega), psum_all (fun t ht => by have := h2 t ht; omega)] at h3
theorem sumC_append (l m : List (Int × Int)) : sumC (l ++ m) = sumC l + sumC m := by
  induction l with
  | nil => simp [sumC]
  | cons t l ih => rw [List.cons_append, sumC, sumC, ih]; omega
/-- the exponent of a generator in a word -/
def expo (g : Int) : List Int → Int
  | [] => 0
  | x :: w => (if gnr x = g then (if 0 < x then 1 else -1) else 0) + expo g w
theorem sumC_drv (comp : List Int) (g : Int) (w : List Int) (d : Int) : sumC (drv comp g w d) = expo g w := by
  induction w generalizing d with
  | nil => rfl
  | cons x w ih =>
    rw [drv, sumC_append, ih, expo]
    congr 1
    split
    · show (trm comp d x).2 + 0 = _
      unfold trm
      split <;> rfl
    · rfl
theorem expo_snoc (g : Int) (w : List Int) (x : Int) : expo g (w ++ [x]) = expo g w + (if gnr x = g then (if 0 < x then 1 else -1) else 0) := by
  induction w with
  | nil => simp [expo]
  | cons y w ih => rw [List.cons_append, expo, expo, ih]; omega
theorem expo_bd (g : Int) (w : List Int) : -(w.length : Int) ≤ expo g w ∧ expo g w ≤ w.length := by
  induction w with
  | nil => simp [expo]
  | cons x w ih =>
    rw [expo, List.length_cons]
    split
    · split <;> omega
    · omega
theorem asum_le {l : List (Int × Int)} {N : Nat} (h : ∀ t ∈ l, t.2.natAbs ≤ N) : asum l ≤ N * l.length := by
  induction l with
  | nil => simp [asum]
  | cons t l ih =>
    rw [asum, List.length_cons, Nat.mul_add]
    have h1 := h t (List.mem_cons_self ..)
    have h2 := ih (fun s hs => h s (List.mem_cons_of_mem _ hs))
    omega
/-- the terms of consecutive coefficients -/
def ofL : Int → List Int → List (Int × Int)
  | _, [] => []
  | low, c :: cs => (if c = 0 then [] else [(low, c)]) ++ ofL (low + 1) cs
def ofB : Int → List Int → Bool
  | _, [] => true
  | low, c :: cs => (c == 0 || (decide (-1125899906842624 ≤ c ∧ c ≤ 1125899906842624) && decide (-1048576 ≤ low ∧ low ≤ 1048576))) && ofB (low + 1) cs
def ofP (low : Int) (cs : List Int) : Option (List (Int × Int)) := if ofB low cs = true then some (ofL low cs) else none
theorem ofL_snoc (low : Int) (cs : List Int) (c : Int) : ofL low (cs ++ [c]) = ofL low cs ++ (if c = 0 then [] else [(low + cs.length, c)]) := by
  induction cs generalizing low with
  | nil => simp [ofL]
  | cons d cs ih =>
    rw [List.cons_append, ofL, ofL, ih, List.append_assoc, List.length_cons]
    congr 2
    have : low + 1 + (cs.length : Int) = low + ((cs.length + 1 : Nat) : Int) := by omega
    rw [this]
theorem ofB_snoc (low : Int) (cs : List Int) (c : Int) : ofB low (cs ++ [c]) = (ofB low cs && (c == 0 || (decide (-1125899906842624 ≤ c ∧ c ≤ 1125899906842624) && decide (-1048576 ≤ low + cs.length ∧ low + cs.length ≤ 1048576)))) := by
  induction cs generalizing low with
  | nil => simp [ofB]
  | cons d cs ih =>
    rw [List.cons_append, ofB, ofB, ih, Bool.and_assoc, List.length_cons]
    have : low + 1 + (cs.length : Int) = low + ((cs.length + 1 : Nat) : Int) := by omega
    rw [this]
theorem ofB_take {low : Int} {cs : List Int} {k : Nat} (h : ofB low (cs.take k) = false) : ofB low cs = false := by
  induction cs generalizing low k with
  | nil => simp [ofB] at h
  | cons c cs ih =>
    cases k with
    | zero => simp [ofB] at h
    | succ k =>
      rw [List.take_succ_cons, ofB, Bool.and_eq_false_iff] at h
      rw [ofB, Bool.and_eq_false_iff]
      rcases h with h | h
      · exact .inl h
      · exact .inr (ih h)
theorem ofL_ge (low : Int) (cs : List Int) : ∀ t ∈ ofL low cs, low ≤ t.1 ∧ t.2 ≠ 0 ∧ t.2 ∈ cs := by
  induction cs generalizing low with
  | nil => intro t h; cases h
  | cons c cs ih =>
    intro t h
    rw [ofL] at h
    rcases List.mem_append.1 h with h | h
    · split at h
      · cases h
      · next hc => rw [List.mem_singleton.1 h]; exact ⟨Int.le_refl _, hc, List.mem_cons_self ..⟩
    · have := ih (low + 1) t h
      exact ⟨by omega, this.2.1, List.mem_cons_of_mem _ this.2.2⟩
theorem ofL_can (low : Int) (cs : List Int) : Can (ofL low cs) := by
  refine ⟨?_, fun t ht => (ofL_ge low cs t ht).2.1⟩
  induction cs generalizing low with
  | nil => exact List.Pairwise.nil
  | cons c cs ih =>
    rw [ofL]
    refine List.pairwise_append.2 ⟨?_, ih (low + 1), fun a ha b hb => ?_⟩
    · split
      · exact List.Pairwise.nil
      · exact List.pairwise_singleton _ _
    · split at ha
      · cases ha
      · rw [List.mem_singleton.1 ha]
        have := ofL_ge (low + 1) cs b hb
        show low < b.1
        omega
theorem ofL_lim {low : Int} {cs : List Int} (h : ofB low cs = true) : Lim (ofL low cs) := by
  have key : ∀ t ∈ ofL low cs, (-1125899906842624 ≤ t.2 ∧ t.2 ≤ 1125899906842624) ∧ (-1048576 ≤ t.1 ∧ t.1 ≤ 1048576) := by
    induction cs generalizing low with
    | nil => intro t h; cases h
    | cons c cs ih =>
      intro t ht
      rw [ofB, Bool.and_eq_true] at h
      rw [ofL] at ht
      rcases List.mem_append.1 ht with ht | ht
      · split at ht
        · cases ht
        · next hc =>
          rw [List.mem_singleton.1 ht]
          have h1 := h.1
          simp only [Bool.or_eq_true, beq_iff_eq, Bool.and_eq_true, decide_eq_true_eq] at h1
          rcases h1 with h1 | h1
          · exact absurd h1 hc
          · exact h1
      · exact ih h.2 t ht
  exact ⟨fun t ht => (key t ht).1, fun t ht => (key t ht).2⟩
theorem ofL_sum (low : Int) (cs : List Int) : sumC (ofL low cs) = cs.foldl (· + ·) 0 := by
  have key : ∀ (cs : List Int) (low a : Int), a + sumC (ofL low cs) = cs.foldl (· + ·) a := by
    intro cs
    induction cs with
    | nil => intro low a; simp [ofL, sumC]
    | cons c cs ih =>
      intro low a
      rw [ofL, sumC_append, List.foldl_cons, ← ih (low + 1) (a + c)]
      split
      · next h => rw [h]; simp [sumC]
      · simp [sumC]; omega
  have := key cs low 0
  rwa [Int.zero_add] at this
theorem ofL_len (low : Int) (cs : List Int) : (ofL low cs).length ≤ cs.length := by
  induction cs generalizing low with
  | nil => simp [ofL]
  | cons c cs ih =>
    rw [ofL, List.length_append, List.length_cons]
    have := ih (low + 1)
    split <;> simp <;> omega
end Go.Proofs.YtlbihllmpbhhcaaDoor

namespace Go.Proofs.YtlbihllmpbhhcaaDoor
set_option linter.unusedVariables false

/-- the relator of a crossing -/
def rel4 (σ a b o : Int) : List Int := if 0 < σ then [-b, -o, a, o] else [-b, o, a, -o]
/-- a relator of a group with n generators -/
def RelIs (n : Nat) (ws : List Int) : Prop := ∃ σ a b o : Int, (1 ≤ a ∧ a ≤ n) ∧ (1 ≤ b ∧ b ≤ n) ∧ (1 ≤ o ∧ o ≤ n) ∧ ws = pshL [] (rel4 σ a b o)
theorem rel4_mem {σ a b o x : Int} {n : Nat} (ha : 1 ≤ a ∧ a ≤ n) (hb : 1 ≤ b ∧ b ≤ n) (ho : 1 ≤ o ∧ o ≤ n) (h : x ∈ rel4 σ a b o) : x ≠ 0 ∧ x ≤ n ∧ -(n : Int) ≤ x := by
  unfold rel4 at h
  split at h <;> simp at h <;> omega
theorem RelIs.mem {n : Nat} {ws : List Int} (h : RelIs n ws) : ∀ x ∈ ws, x ≠ 0 ∧ x ≤ n ∧ -(n : Int) ≤ x := by
  obtain ⟨σ, a, b, o, ha, hb, ho, rfl⟩ := h
  intro x hx
  rcases pshL_mem _ _ hx with h | h
  · cases h
  · exact rel4_mem ha hb ho h
theorem RelIs.len {n : Nat} {ws : List Int} (h : RelIs n ws) : ws.length ≤ 4 := by
  obtain ⟨σ, a, b, o, ha, hb, ho, rfl⟩ := h
  have key : ∀ (l s : List Int), (pshL s l).length ≤ s.length + l.length := by
    intro l
    induction l with
    | nil => intro s; exact Nat.le_refl _
    | cons x l ih =>
      intro s
      rw [pshL_cons]
      have h1 := ih (psh s x)
      have h2 : (psh s x).length ≤ s.length + 1 := by unfold psh; split <;> simp <;> omega
      simp only [List.length_cons]; omega
  have := key (rel4 σ a b o) []
  have h4 : (rel4 σ a b o).length = 4 := by unfold rel4; split <;> rfl
  simp at this
  omega
/-- the sum of the derivatives -/
def psF (comp w : List Int) : Nat → Int → Int
  | 0, _ => 0
  | k + 1, e => psF comp w k e + dF comp (k : Int) w e
theorem fsm_psF (comp w : List Int) : ∀ (n : Nat), (∀ k : Nat, k < n → cg comp (k : Int) = 1) → ∀ e, fsm comp w n e = psF comp w n (e - 1) - psF comp w n e
  | 0, _, e => rfl
  | k + 1, h, e => by
    rw [fsm, psF, psF, fsm_psF comp w k (fun j hj => h j (by omega)), h k (by omega)]
    omega
theorem dF_out {comp w : List Int} {g e : Int} (h : ∀ c ∈ comp, -1 ≤ c ∧ c ≤ 1) (he : e < -(w.length : Int) ∨ (w.length : Int) < e) : dF comp g w e = 0 := by
  by_cases h0 : dF comp g w e = 0
  · exact h0
  · unfold dF at h0
    obtain ⟨s, hs, hse⟩ := cf_ne h0
    have := drv_bd (N := 1) (by omega) h g w 0 s hs
    omega
theorem psF_out {comp w : List Int} {e : Int} (h : ∀ c ∈ comp, -1 ≤ c ∧ c ≤ 1) (he : e < -(w.length : Int) ∨ (w.length : Int) < e) : ∀ n, psF comp w n e = 0
  | 0 => rfl
  | n + 1 => by rw [psF, psF_out h he n, dF_out h he]; rfl
theorem psF_zero {comp w : List Int} {n : Nat} (hc : ∀ c ∈ comp, -1 ≤ c ∧ c ≤ 1) (h1 : ∀ k : Nat, k < n → cg comp (k : Int) = 1) (hw : ∀ x ∈ w, 0 ≤ gnr x ∧ gnr x < n) (hd : dg comp w = 0) (e : Int) : psF comp w n e = 0 := by
  have hs : ∀ e, psF comp w n (e - 1) = psF comp w n e := fun e => by
    have h2 := fund comp n w hw e
    rw [fsm_psF comp w n h1, hd] at h2
    omega
  have key : ∀ (k : Nat) e, psF comp w n (e - k) = psF comp w n e := by
    intro k
    induction k with
    | zero => intro e; simp
    | succ k ih => intro e; rw [← ih e, ← hs (e - k)]; congr 1; omega
  rw [← key (e + w.length + 1).toNat e]
  exact psF_out hc (by omega) n
theorem psF_bd (comp w : List Int) : ∀ (n : Nat) (e : Int), (psF comp w n e).natAbs ≤ n * w.length
  | 0, e => by simp [psF]
  | n + 1, e => by
    have h1 := psF_bd comp w n e
    have h2 := dF_bd comp (n : Int) w e
    rw [psF, Nat.succ_mul]; omega
theorem cg_ones {n k : Nat} (h : k < n) : cg (List.replicate n 1) (k : Int) = 1 := by
  unfold cg
  rw [show ((k : Int)).toNat = k by omega, List.getElem?_replicate, if_pos h]; rfl
theorem dg_ones1 {n : Nat} {x : Int} (h : 1 ≤ x ∧ x ≤ n) : dg (List.replicate n 1) [x] = 1 := by
  rw [dg_one, if_pos (by omega)]
  have := cg_ones (n := n) (k := (x - 1).toNat) (by omega)
  rwa [show (((x - 1).toNat : Nat) : Int) = x - 1 by omega] at this
theorem dg_ones2 {n : Nat} {x : Int} (h : 1 ≤ x ∧ x ≤ n) : dg (List.replicate n 1) [-x] = -1 := by
  rw [dg_one, if_neg (by omega), Int.neg_neg]
  have := cg_ones (n := n) (k := (x - 1).toNat) (by omega)
  rw [show (((x - 1).toNat : Nat) : Int) = x - 1 by omega] at this
  rw [this]
theorem dg_rel {n : Nat} {ws : List Int} (h : RelIs n ws) : dg (List.replicate n 1) ws = 0 := by
  obtain ⟨σ, a, b, o, ha, hb, ho, rfl⟩ := h
  rw [dg_red _ (fun x hx => (rel4_mem ha hb ho hx).1)]
  unfold rel4
  split
  · rw [dg_cons, dg_cons _ (-o), dg_cons _ a, dg_ones1 ha, dg_ones2 hb, dg_ones1 ho, dg_ones2 ho]; rfl
  · rw [dg_cons, dg_cons _ o, dg_cons _ a, dg_ones1 ha, dg_ones2 hb, dg_ones1 ho, dg_ones2 ho]; rfl
theorem psF_rel {n : Nat} {ws : List Int} (h : RelIs n ws) (e : Int) : psF (List.replicate n 1) ws n e = 0 :=
  psF_zero (fun c hc => by rw [List.eq_of_mem_replicate hc]; omega) (fun k hk => cg_ones hk) (fun x hx => by
    have := h.mem x hx
    exact gnr_bd this.1 this.2.1 this.2.2) (dg_rel h) e
theorem expo_red (g : Int) {w : List Int} (h : ∀ x ∈ w, x ≠ 0) : expo g (pshL [] w) = expo g w := by
  rw [← sumC_drv [] g _ 0, ← sumC_drv [] g w 0]
  exact sumC_cf (dF_red [] g h)
/-- the exponents of a relator -/
theorem expo_rel {n : Nat} {σ a b o : Int} (ha : 1 ≤ a ∧ a ≤ n) (hb : 1 ≤ b ∧ b ≤ n) (ho : 1 ≤ o ∧ o ≤ n) (g : Int) : expo g (pshL [] (rel4 σ a b o)) = (if a - 1 = g then 1 else 0) - (if b - 1 = g then 1 else 0) := by
  rw [expo_red g (fun x hx => (rel4_mem ha hb ho hx).1)]
  have ga : gnr a = a - 1 := by unfold gnr; rw [if_pos (by omega)]
  have gb : gnr (-b) = b - 1 := by unfold gnr; rw [if_neg (by omega)]; omega
  have go1 : gnr o = o - 1 := by unfold gnr; rw [if_pos (by omega)]
  have go2 : gnr (-o) = o - 1 := by unfold gnr; rw [if_neg (by omega)]; omega
  unfold rel4
  split
  · simp only [expo]
    rw [ga, gb, go1, go2, if_neg (show ¬ 0 < -b by omega), if_neg (show ¬ 0 < -o by omega), if_pos (show 0 < a by omega), if_pos (show 0 < o by omega)]
    split <;> split <;> split <;> omega
  · simp only [expo]
    rw [ga, gb, go1, go2, if_neg (show ¬ 0 < -b by omega), if_neg (show ¬ 0 < -o by omega), if_pos (show 0 < a by omega), if_pos (show 0 < o by omega)]
    split <;> split <;> split <;> omega
/-- how many 1 and -1 there are among the first exponents -/
def plN (a b : Int) (k : Nat) : Int := if a ≠ b ∧ a - 1 < k then 1 else 0
theorem plN_le (a b : Int) (k : Nat) : 0 ≤ plN a b k ∧ plN a b k ≤ 1 := by unfold plN; split <;> omega
theorem plN_step (a b : Int) (k : Nat) : plN a b (k + 1) = plN a b k + (if a ≠ b ∧ a - 1 = (k : Int) then 1 else 0) := by
  unfold plN
  split <;> split <;> split <;> omega
theorem plN_all {a b : Int} {n : Nat} (ha : 1 ≤ a ∧ a ≤ n) (hb : 1 ≤ b ∧ b ≤ n) : plN a b n = plN b a n := by
  unfold plN
  by_cases h : a = b
  · rw [if_neg (by omega), if_neg (by omega)]
  · rw [if_pos (by omega), if_pos (by omega)]
end Go.Proofs.YtlbihllmpbhhcaaDoor

namespace Go.Proofs.YtlbihllmpbhhcaaDoor
open Go.RowKit
set_option linter.unusedVariables false

theorem run_make_word (n : Nat) (hn : n ≤ 10000000) (W : World) : ∃ cs, (Instr.makeSlice 42 (.int .i64 0) (.int .i64 (n : Int))).run Tryd.prog W = .ok (.slice (some ⟨W.heap.size, 0, none⟩) 0 n) (W.alloc (.cells cs 3)) ∧ cs.size = n := by
  obtain ⟨i, hi, hz, hs, hby⟩ := info_parts info_intQ
  have h := run_make (P := Tryd.prog) W 42 3 i _ Tryd.underlying42 hi hz .i64 .i64 0 (n : Int) (Int.le_refl _) (by omega) (by rw [hby]; omega) (by omega)
  refine ⟨_, h, ?_⟩
  rw [size_madeCells, hs]; omega
theorem OwnI.made {w : World} {e : TypeId} {base n : Nat} {cs : Array Value} (hb : base ≤ w.heap.size) (hn : n ≤ 10000000) (hc : cs.size = n) : OwnI e base (w.alloc (.cells cs e)) (.slice (some ⟨w.heap.size, 0, none⟩) 0 n) [] :=
  ⟨rfl, .inr ⟨w.heap.size, n, cs, rfl, hb, heap_alloc_new w _, Nat.zero_le _, by unfold maxLen; omega, by omega, by simp⟩⟩
set_option maxHeartbeats 1000000 in
theorem Reduce_any (vw : Value) (ws : List Int) (w : World) (hw : Ints w vw ws) (hl : ws.length ≤ 100000) (hx : ∀ x ∈ ws, -1000000000 ≤ x ∧ x ≤ 1000000000) :
    Calls Tryd.prog 20 #[vw] w fun e w' => ∃ v', e = .returned v' ∧ Ints w' v' (pshL [] ws) ∧ Below w.heap.size w w' := by
  have HW := Lib.hid hw
  obtain ⟨A, c, rfl, _, _⟩ := hw
  obtain ⟨cs, hmk, hcs⟩ := run_make_word ws.length (by omega) w
  have HX := Lib.hid hx
  have hB : Below w.heap.size w (w.alloc (.cells cs 3)) := (Below.refl _ _).alloc (Nat.le_refl _) _
  have HP := Lib.hid (push_any w.heap.size (.slice (some ⟨w.heap.size, 0, none⟩) 0 ws.length) (.slice A ws.length c) [] ws (w.alloc (.cells cs 3)) (OwnI.made (Nat.le_refl _) (by omega) hcs)
    (fun W hk => HW.out.keepW fun b hb => (hk b (by simp; omega) (fun e => by injection e with e; simp at e; omega)).trans (hB.block b hb)) (by simp) (by simp; omega) hx)
  clear hx
  go_enter Tryd.func20, Tryd.ntmps20
  go_wp2_with fail
  refine HP.out.mono ?_
  rintro e w4 ⟨v', rfl, hst⟩
  have HS := Lib.hid hst
  obtain ⟨A4, c4, rfl⟩ := hst.own.form
  clear hst
  go_wp2_with fail
  go_ret
  exact ⟨_, rfl, HS.out.own.ints, hB.trans (HS.out.bel.mono (by simp))⟩
end Go.Proofs.YtlbihllmpbhhcaaDoor
