/- Sums of coefficients: plain. -/
import Derived.Test.YtlbihllmpbhhcaaGreatDoorFod
namespace Go.Proofs.YtlbihllmpbhhcaaGreatDoor
set_option linter.unusedVariables false

def sumC : List (Int × Int) → Int
  | [] => 0
  | t :: l => t.2 + sumC l
def asum : List (Int × Int) → Nat
  | [] => 0
  | t :: l => t.2.natAbs + asum l
/-- the sum of the coefficients below an exponent -/
def psum : List (Int × Int) → Int → Int
  | [], _ => 0
  | t :: l, e => (if t.1 < e then t.2 else 0) + psum l e
theorem psum_succ (l : List (Int × Int)) (e : Int) : psum l (e + 1) = psum l e + cf l e := by
  induction l with
  | nil => rfl
  | cons t l ih =>
    rw [psum, psum, cf_cons, ih]
    by_cases h : t.1 < e
    · rw [if_pos (by omega), if_pos h, if_neg (by omega)]; omega
    · by_cases h2 : t.1 = e
      · rw [if_pos (by omega), if_neg h, if_pos h2]; omega
      · rw [if_neg (by omega), if_neg h, if_neg h2]; omega
theorem psum_bd (l : List (Int × Int)) (e : Int) : -(asum l : Int) ≤ psum l e ∧ psum l e ≤ asum l := by
  induction l with
  | nil => simp [psum, asum]
  | cons t l ih =>
    rw [psum, asum]
    split <;> omega
theorem psum_0 {l : List (Int × Int)} {e : Int} (h : ∀ t ∈ l, e ≤ t.1) : psum l e = 0 := by
  induction l with
  | nil => rfl
  | cons t l ih =>
    rw [psum, if_neg (by have := h t (List.mem_cons_self ..); omega), ih (fun s hs => h s (List.mem_cons_of_mem _ hs))]; rfl
theorem psum_all {l : List (Int × Int)} {e : Int} (h : ∀ t ∈ l, t.1 < e) : psum l e = sumC l := by
  induction l with
  | nil => rfl
  | cons t l ih =>
    rw [psum, sumC, if_pos (h t (List.mem_cons_self ..)), ih (fun s hs => h s (List.mem_cons_of_mem _ hs))]
theorem exists_below (l : List (Int × Int)) : ∃ B : Int, ∀ t ∈ l, B ≤ t.1 ∧ t.1 ≤ -B := by
  induction l with
  | nil => exact ⟨0, fun t h => by cases h⟩
  | cons t l ih =>
    obtain ⟨B, hB⟩ := ih
    refine ⟨min B (-(t.1.natAbs : Int)), fun s hs => ?_⟩
    rcases List.mem_cons.1 hs with rfl | hs
    · omega
    · have := hB s hs; omega
theorem sumC_cf {l m : List (Int × Int)} (h : ∀ e, cf l e = cf m e) : sumC l = sumC m := by
  obtain ⟨B1, h1⟩ := exists_below l
  obtain ⟨B2, h2⟩ := exists_below m
  have key : ∀ n : Nat, psum l (min B1 B2 + n) = psum m (min B1 B2 + n) := by
    intro n
    induction n with
    | zero => rw [psum_0 (fun t ht => by have := h1 t ht; omega), psum_0 (fun t ht => by have := h2 t ht; omega)]
    | succ n ih =>
      have e : min B1 B2 + ((n + 1 : Nat) : Int) = (min B1 B2 + n) + 1 := by omega
      rw [e, psum_succ, psum_succ, ih, h]
  have h3 := key (max (1 - B1 - min B1 B2) (1 - B2 - min B1 B2)).toNat
  rwa [psum_all (fun t ht => by have := h1 t ht; omega), psum_all (fun t ht => by have := h2 t ht; omega)] at h3
theorem sumC_append (l m : List (Int × Int)) : sumC (l ++ m) = sumC l + sumC m := by
  induction l with
  | nil => simp [sumC]
  | cons t l ih => rw [List.cons_append, sumC, sumC, ih]; omega
/-- the exponent of a generator in a word -/
def expo (g : Int) : List Int → Int
  | [] => 0
  | x :: w => (if gnr x = g then (if 0 < x then 1 else -1) else 0) + expo g w
theorem sumC_drv (comp : List Int) (g : Int) (w : List Int) (d : Int) : sumC (drv comp g w d) = expo g w := by
  induction w generalizing d with
  | nil => rfl
  | cons x w ih =>
    rw [drv, sumC_append, ih, expo]
    congr 1
    split
    · show (trm comp d x).2 + 0 = _
      unfold trm
      split <;> rfl
    · rfl
theorem expo_snoc (g : Int) (w : List Int) (x : Int) : expo g (w ++ [x]) = expo g w + (if gnr x = g then (if 0 < x then 1 else -1) else 0) := by
  induction w with
  | nil => simp [expo]
  | cons y w ih => rw [List.cons_append, expo, expo, ih]; omega
theorem expo_bd (g : Int) (w : List Int) : -(w.length : Int) ≤ expo g w ∧ expo g w ≤ w.length := by
  induction w with
  | nil => simp [expo]
  | cons x w ih =>
    rw [expo, List.length_cons]
    split
    · split <;> omega
    · omega
theorem asum_le {l : List (Int × Int)} {N : Nat} (h : ∀ t ∈ l, t.2.natAbs ≤ N) : asum l ≤ N * l.length := by
  induction l with
  | nil => simp [asum]
  | cons t l ih =>
    rw [asum, List.length_cons, Nat.mul_add]
    have h1 := h t (List.mem_cons_self ..)
    have h2 := ih (fun s hs => h s (List.mem_cons_of_mem _ hs))
    omega
/-- the terms of consecutive coefficients -/
def ofL : Int → List Int → List (Int × Int)
  | _, [] => []
  | low, c :: cs => (if c = 0 then [] else [(low, c)]) ++ ofL (low + 1) cs
def ofB : Int → List Int → Bool
  | _, [] => true
  | low, c :: cs => (c == 0 || (decide (-1125899906842624 ≤ c ∧ c ≤ 1125899906842624) && decide (-1048576 ≤ low ∧ low ≤ 1048576))) && ofB (low + 1) cs
def ofP (low : Int) (cs : List Int) : Option (List (Int × Int)) := if ofB low cs = true then some (ofL low cs) else none
theorem ofL_snoc (low : Int) (cs : List Int) (c : Int) : ofL low (cs ++ [c]) = ofL low cs ++ (if c = 0 then [] else [(low + cs.length, c)]) := by
  induction cs generalizing low with
  | nil => simp [ofL]
  | cons d cs ih =>
    rw [List.cons_append, ofL, ofL, ih, List.append_assoc, List.length_cons]
    congr 2
    have : low + 1 + (cs.length : Int) = low + ((cs.length + 1 : Nat) : Int) := by omega
    rw [this]
theorem ofB_snoc (low : Int) (cs : List Int) (c : Int) : ofB low (cs ++ [c]) = (ofB low cs && (c == 0 || (decide (-1125899906842624 ≤ c ∧ c ≤ 1125899906842624) && decide (-1048576 ≤ low + cs.length ∧ low + cs.length ≤ 1048576)))) := by
  induction cs generalizing low with
  | nil => simp [ofB]
  | cons d cs ih =>
    rw [List.cons_append, ofB, ofB, ih, Bool.and_assoc, List.length_cons]
    have : low + 1 + (cs.length : Int) = low + ((cs.length + 1 : Nat) : Int) := by omega
    rw [this]
theorem ofB_take {low : Int} {cs : List Int} {k : Nat} (h : ofB low (cs.take k) = false) : ofB low cs = false := by
  induction cs generalizing low k with
  | nil => simp [ofB] at h
  | cons c cs ih =>
    cases k with
    | zero => simp [ofB] at h
    | succ k =>
      rw [List.take_succ_cons, ofB, Bool.and_eq_false_iff] at h
      rw [ofB, Bool.and_eq_false_iff]
      rcases h with h | h
      · exact .inl h
      · exact .inr (ih h)
theorem ofL_ge (low : Int) (cs : List Int) : ∀ t ∈ ofL low cs, low ≤ t.1 ∧ t.2 ≠ 0 ∧ t.2 ∈ cs := by
  induction cs generalizing low with
  | nil => intro t h; cases h
  | cons c cs ih =>
    intro t h
    rw [ofL] at h
    rcases List.mem_append.1 h with h | h
    · split at h
      · cases h
      · next hc => rw [List.mem_singleton.1 h]; exact ⟨Int.le_refl _, hc, List.mem_cons_self ..⟩
    · have := ih (low + 1) t h
      exact ⟨by omega, this.2.1, List.mem_cons_of_mem _ this.2.2⟩
theorem ofL_can (low : Int) (cs : List Int) : Can (ofL low cs) := by
  refine ⟨?_, fun t ht => (ofL_ge low cs t ht).2.1⟩
  induction cs generalizing low with
  | nil => exact List.Pairwise.nil
  | cons c cs ih =>
    rw [ofL]
    refine List.pairwise_append.2 ⟨?_, ih (low + 1), fun a ha b hb => ?_⟩
    · split
      · exact List.Pairwise.nil
      · exact List.pairwise_singleton _ _
    · split at ha
      · cases ha
      · rw [List.mem_singleton.1 ha]
        have := ofL_ge (low + 1) cs b hb
        show low < b.1
        omega
theorem ofL_lim {low : Int} {cs : List Int} (h : ofB low cs = true) : Lim (ofL low cs) := by
  have key : ∀ t ∈ ofL low cs, (-1125899906842624 ≤ t.2 ∧ t.2 ≤ 1125899906842624) ∧ (-1048576 ≤ t.1 ∧ t.1 ≤ 1048576) := by
    induction cs generalizing low with
    | nil => intro t h; cases h
    | cons c cs ih =>
      intro t ht
      rw [ofB, Bool.and_eq_true] at h
      rw [ofL] at ht
      rcases List.mem_append.1 ht with ht | ht
      · split at ht
        · cases ht
        · next hc =>
          rw [List.mem_singleton.1 ht]
          have h1 := h.1
          simp only [Bool.or_eq_true, beq_iff_eq, Bool.and_eq_true, decide_eq_true_eq] at h1
          rcases h1 with h1 | h1
          · exact absurd h1 hc
          · exact h1
      · exact ih h.2 t ht
  exact ⟨fun t ht => (key t ht).1, fun t ht => (key t ht).2⟩
theorem ofL_sum (low : Int) (cs : List Int) : sumC (ofL low cs) = cs.foldl (· + ·) 0 := by
  have key : ∀ (cs : List Int) (low a : Int), a + sumC (ofL low cs) = cs.foldl (· + ·) a := by
    intro cs
    induction cs with
    | nil => intro low a; simp [ofL, sumC]
    | cons c cs ih =>
      intro low a
      rw [ofL, sumC_append, List.foldl_cons, ← ih (low + 1) (a + c)]
      split
      · next h => rw [h]; simp [sumC]
      · simp [sumC]; omega
  have := key cs low 0
  rwa [Int.zero_add] at this
theorem ofL_len (low : Int) (cs : List Int) : (ofL low cs).length ≤ cs.length := by
  induction cs generalizing low with
  | nil => simp [ofL]
  | cons c cs ih =>
    rw [ofL, List.length_append, List.length_cons]
    have := ih (low + 1)
    split <;> simp <;> omega
end Go.Proofs.YtlbihllmpbhhcaaGreatDoor
