/- The reference's sorted sums: plain. -/
import Derived.Test.YtlbihllmpbhhcaaDoorLau
import Derived.Test.YtlbihllmpbhhcaaDoorRwp
namespace Go.Proofs.YtlbihllmpbhhcaaDoor
set_option linter.unusedVariables false

def insL : List (Int × Int) → Int → Int → List (Int × Int)
  | [], x, X => [(x, X)]
  | t :: L, x, X => if t.1 < x then t :: insL L x X else if t.1 = x then (x, t.2 + X) :: L else (x, X) :: t :: L
theorem insL_cf (L : List (Int × Int)) (x X e : Int) : cf (insL L x X) e = cf L e + if x = e then X else 0 := by
  induction L with
  | nil => rw [insL, cf_one, cf_nil]; omega
  | cons t L ih =>
    rw [insL]
    split
    · rw [cf_cons, cf_cons, ih]; omega
    · split
      · next h =>
        rw [cf_cons, cf_cons, h]
        split <;> omega
      · rw [cf_cons]
        split <;> omega
theorem insL_mem {L : List (Int × Int)} {x X : Int} {t : Int × Int} (h : t ∈ insL L x X) : (∃ s ∈ L, s.1 = t.1) ∨ t.1 = x := by
  induction L with
  | nil => rw [insL, List.mem_singleton] at h; rw [h]; exact .inr rfl
  | cons s L ih =>
    rw [insL] at h
    split at h
    · rcases List.mem_cons.1 h with rfl | h
      · exact .inl ⟨t, List.mem_cons_self .., rfl⟩
      · rcases ih h with ⟨q, hq, e⟩ | e
        · exact .inl ⟨q, List.mem_cons_of_mem _ hq, e⟩
        · exact .inr e
    · split at h
      · rcases List.mem_cons.1 h with rfl | h
        · exact .inr rfl
        · exact .inl ⟨t, List.mem_cons_of_mem _ h, rfl⟩
      · rcases List.mem_cons.1 h with rfl | h
        · exact .inr rfl
        · exact .inl ⟨t, h, rfl⟩
theorem insL_srt {L : List (Int × Int)} {x X : Int} (h : Srt L) : Srt (insL L x X) := by
  induction L with
  | nil => exact List.pairwise_singleton _ _
  | cons s L ih =>
    obtain ⟨h1, h2⟩ := List.pairwise_cons.1 h
    rw [insL]
    split
    · next hx =>
      refine List.pairwise_cons.2 ⟨fun t ht => ?_, ih h2⟩
      rcases insL_mem ht with ⟨q, hq, e⟩ | e
      · have := h1 q hq; omega
      · omega
    · split
      · next hx => exact List.pairwise_cons.2 ⟨fun t ht => by have := h1 t ht; show x < t.1; omega, h2⟩
      · refine List.pairwise_cons.2 ⟨fun t ht => ?_, h⟩
        rcases List.mem_cons.1 ht with rfl | ht
        · show x < t.1; omega
        · have := h1 t ht; show x < t.1; omega
theorem insL_len (L : List (Int × Int)) (x X : Int) : (insL L x X).length ≤ L.length + 1 := by
  induction L with
  | nil => simp [insL]
  | cons t L ih =>
    rw [insL]
    split
    · simp; omega
    · split <;> simp
theorem insL_new : ∀ {L : List (Int × Int)} {x X : Int} {i : Nat}, i ≤ L.length → (∀ j (hj : j < L.length), j < i → L[j].1 < x) → (∀ hi : i < L.length, x < L[i].1) → insL L x X = L.take i ++ [(x, X)] ++ L.drop i
  | [], x, X, i, hi, _, _ => by
    obtain rfl : i = 0 := by simpa using hi
    rfl
  | t :: L, x, X, 0, hi, h1, h2 => by
    have := h2 (by simp)
    simp only [List.getElem_cons_zero] at this
    rw [insL, if_neg (by omega), if_neg (by omega)]; rfl
  | t :: L, x, X, i + 1, hi, h1, h2 => by
    have h0 := h1 0 (by simp) (by omega)
    simp only [List.getElem_cons_zero] at h0
    rw [insL, if_pos h0, insL_new (i := i) (by simpa using hi) (fun j hj hji => by have := h1 (j + 1) (by simpa using hj) (by omega); simpa using this) (fun hi => by have := h2 (by simpa using hi); simpa using this)]
    rfl
theorem insL_old : ∀ {L : List (Int × Int)} {x X : Int} {i : Nat} (hi : i < L.length), (∀ j (hj : j < L.length), j < i → L[j].1 < x) → L[i].1 = x → insL L x X = L.set i (x, L[i].2 + X)
  | [], x, X, i, hi, _, _ => by simp at hi
  | t :: L, x, X, 0, hi, h1, h2 => by
    simp only [List.getElem_cons_zero] at h2
    rw [insL, if_neg (by omega), if_pos h2]; rfl
  | t :: L, x, X, i + 1, hi, h1, h2 => by
    have h0 := h1 0 (by simp) (by omega)
    simp only [List.getElem_cons_zero] at h0
    simp only [List.getElem_cons_succ] at h2
    rw [insL, if_pos h0, insL_old (i := i) (by simpa using hi) (fun j hj hji => by have := h1 (j + 1) (by simpa using hj) (by omega); simpa using this) h2]
    rfl
theorem map_set_fst {L : List (Int × Int)} {x X : Int} {i : Nat} (hi : i < L.length) (h : L[i].1 = x) : (L.set i (x, X)).map (·.1) = L.map (·.1) := by
  rw [List.map_set]
  apply List.ext_getElem?
  intro j
  rw [List.getElem?_set]
  by_cases e : i = j
  · subst e
    rw [if_pos rfl, if_pos (by simpa using hi), List.getElem?_map, List.getElem?_eq_getElem hi, ← h]; rfl
  · rw [if_neg e]
/-- collecting the sums -/
def colL : List (Int × Int) → List (Int × Int)
  | [] => []
  | t :: L => (if t.2 = 0 then [] else [t]) ++ colL L
def colB : List (Int × Int) → Bool
  | [] => true
  | t :: L => (t.2 == 0 || (decide (-1125899906842624 ≤ t.2 ∧ t.2 ≤ 1125899906842624) && decide (-1048576 ≤ t.1 ∧ t.1 ≤ 1048576))) && colB L
theorem colL_append (L M : List (Int × Int)) : colL (L ++ M) = colL L ++ colL M := by
  induction L with
  | nil => rfl
  | cons t L ih => rw [List.cons_append, colL, colL, ih, List.append_assoc]
theorem colB_append (L M : List (Int × Int)) : colB (L ++ M) = (colB L && colB M) := by
  induction L with
  | nil => rfl
  | cons t L ih => rw [List.cons_append, colB, colB, ih, Bool.and_assoc]
theorem colL_mem {L : List (Int × Int)} {t : Int × Int} (h : t ∈ colL L) : t ∈ L ∧ t.2 ≠ 0 := by
  induction L with
  | nil => cases h
  | cons s L ih =>
    rw [colL] at h
    rcases List.mem_append.1 h with h | h
    · split at h
      · cases h
      · next h0 => rw [List.mem_singleton.1 h]; exact ⟨List.mem_cons_self .., h0⟩
    · have := ih h; exact ⟨List.mem_cons_of_mem _ this.1, this.2⟩
theorem colL_can {L : List (Int × Int)} (h : Srt L) : Can (colL L) := by
  induction L with
  | nil => exact Can.nil
  | cons s L ih =>
    obtain ⟨h1, h2⟩ := List.pairwise_cons.1 h
    have := ih h2
    rw [colL]
    split
    · exact this
    · next h0 =>
      refine ⟨List.pairwise_cons.2 ⟨fun t ht => h1 t (colL_mem ht).1, this.srt⟩, fun t ht => ?_⟩
      rcases List.mem_cons.1 ht with rfl | ht
      · exact h0
      · exact this.nz t ht
theorem colL_cf (L : List (Int × Int)) (e : Int) : cf (colL L) e = cf L e := by
  induction L with
  | nil => rfl
  | cons s L ih =>
    rw [colL, cf_append, ih, cf_cons]
    split
    · next h0 => rw [h0, cf_nil]; split <;> omega
    · rw [cf_one]
theorem colL_len (L : List (Int × Int)) : (colL L).length ≤ L.length := by
  induction L with
  | nil => exact Nat.le_refl _
  | cons s L ih =>
    rw [colL, List.length_append]
    split <;> simp <;> omega
theorem colB_iff {L : List (Int × Int)} : colB L = true ↔ Lim (colL L) := by
  induction L with
  | nil => exact ⟨fun _ => Lim.nil, fun _ => rfl⟩
  | cons s L ih =>
    rw [colB, colL, Bool.and_eq_true, ih]
    by_cases h0 : s.2 = 0
    · rw [if_pos h0, h0]; simp
    · rw [if_neg h0]
      have e : (s.2 == 0) = false := by simp [h0]
      rw [e, Bool.false_or, Bool.and_eq_true, decide_eq_true_eq, decide_eq_true_eq]
      constructor
      · rintro ⟨⟨a, b⟩, c⟩
        exact ⟨fun t ht => by rcases List.mem_cons.1 ht with rfl | ht; exact a; exact c.co t ht, fun t ht => by rcases List.mem_cons.1 ht with rfl | ht; exact b; exact c.ex t ht⟩
      · intro h
        exact ⟨⟨h.co s (List.mem_cons_self ..), h.ex s (List.mem_cons_self ..)⟩, fun t ht => h.co t (List.mem_cons_of_mem _ ht), fun t ht => h.ex t (List.mem_cons_of_mem _ ht)⟩
theorem colB_take {L : List (Int × Int)} {k : Nat} (h : colB (L.take k) = false) : colB L = false := by
  have e : L = L.take k ++ L.drop k := (List.take_append_drop k L).symm
  rw [e, colB_append, h]; rfl
/-- what collect returns -/
def colP (L : List (Int × Int)) : Pol := if colB L = true then some (colL L) else none
end Go.Proofs.YtlbihllmpbhhcaaDoor
