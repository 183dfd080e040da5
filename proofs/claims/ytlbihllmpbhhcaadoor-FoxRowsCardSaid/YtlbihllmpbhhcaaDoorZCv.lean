/- Products of Laurent polynomials: plain. -/
import Derived.Test.YtlbihllmpbhhcaaDoorZPsh
namespace Go.Proofs.YtlbihllmpbhhcaaDoor
set_option linter.unusedVariables false

/-- the coefficients of the product of a function and a list of terms -/
def cvF (F : Int → Int) : List (Int × Int) → Int → Int
  | [], _ => 0
  | t :: q, e => t.2 * F (e - t.1) + cvF F q e
/-- the coefficients of the product of two lists of terms -/
def cv (p q : List (Int × Int)) (e : Int) : Int := cvF (cf p) q e
/-- the products of the terms, in order -/
def prs : List (Int × Int) → List (Int × Int) → List (Int × Int)
  | [], _ => []
  | s :: p, q => (q.map fun t => (s.1 + t.1, s.2 * t.2)) ++ prs p q
theorem cvF_add (F G : Int → Int) (q : List (Int × Int)) (e : Int) : cvF (fun x => F x + G x) q e = cvF F q e + cvF G q e := by
  induction q with
  | nil => rfl
  | cons t q ih => simp only [cvF]; rw [ih, Int.mul_add]; omega
theorem cvF_zero (q : List (Int × Int)) (e : Int) : cvF (fun _ => 0) q e = 0 := by
  induction q with
  | nil => rfl
  | cons t q ih => simp only [cvF]; rw [ih]; simp
theorem cvF_congr {F G : Int → Int} (h : ∀ x, F x = G x) (q : List (Int × Int)) (e : Int) : cvF F q e = cvF G q e := by rw [show F = G from funext h]
theorem cvF_shift (F : Int → Int) (d : Int) (q : List (Int × Int)) (e : Int) : cvF (fun x => F (x - d)) q e = cvF F q (e - d) := by
  induction q with
  | nil => rfl
  | cons t q ih => simp only [cvF]; rw [ih, show e - t.1 - d = e - d - t.1 by omega]
theorem cvF_single (s : Int × Int) (q : List (Int × Int)) (e : Int) : cvF (fun x => if s.1 = x then s.2 else 0) q e = s.2 * cf q (e - s.1) := by
  induction q with
  | nil => simp [cvF, cf]
  | cons t q ih =>
    simp only [cvF]
    rw [ih, cf_cons, Int.mul_add]
    by_cases h : s.1 = e - t.1
    · rw [if_pos h, if_pos (by omega), Int.mul_comm]
    · rw [if_neg h, if_neg (by omega), Int.mul_zero, Int.mul_zero]
theorem cv_nil (q : List (Int × Int)) (e : Int) : cv [] q e = 0 := cvF_zero q e
theorem cv_cons (s : Int × Int) (p q : List (Int × Int)) (e : Int) : cv (s :: p) q e = s.2 * cf q (e - s.1) + cv p q e := by
  unfold cv
  rw [show cf (s :: p) = fun x => (if s.1 = x then s.2 else 0) + cf p x from rfl, cvF_add, cvF_single]
theorem cv_right_nil (p : List (Int × Int)) (e : Int) : cv p [] e = 0 := rfl
theorem cv_comm (p q : List (Int × Int)) (e : Int) : cv p q e = cv q p e := by
  induction p with
  | nil => rw [cv_nil]; rfl
  | cons s p ih => rw [cv_cons, ih]; rfl
theorem cv_congr {p p' q q' : List (Int × Int)} (h : ∀ x, cf p x = cf p' x) (k : ∀ x, cf q x = cf q' x) (e : Int) : cv p q e = cv p' q' e := by
  unfold cv
  rw [cvF_congr h]
  show cv p' q e = cv p' q' e
  rw [cv_comm, cv_comm p']
  exact cvF_congr k p' e
theorem cf_mulmap (s : Int × Int) (q : List (Int × Int)) (e : Int) : cf (q.map fun t => (s.1 + t.1, s.2 * t.2)) e = s.2 * cf q (e - s.1) := by
  induction q with
  | nil => simp [cf]
  | cons t q ih =>
    rw [List.map_cons, cf_cons, cf_cons, ih, Int.mul_add]
    by_cases h : t.1 = e - s.1
    · rw [if_pos h, if_pos (by show s.1 + t.1 = e; omega)]
    · rw [if_neg h, if_neg (by show ¬ s.1 + t.1 = e; omega), Int.mul_zero]
theorem cf_prs (p q : List (Int × Int)) (e : Int) : cf (prs p q) e = cv p q e := by
  induction p with
  | nil => rw [cv_nil]; rfl
  | cons s p ih => rw [prs, cf_append, cf_mulmap, ih, cv_cons]
theorem prs_append (p p' q : List (Int × Int)) : prs (p ++ p') q = prs p q ++ prs p' q := by
  induction p with
  | nil => rfl
  | cons s p ih => rw [List.cons_append, prs, prs, ih, List.append_assoc]
theorem prs_one (s : Int × Int) (q : List (Int × Int)) : prs [s] q = q.map fun t => (s.1 + t.1, s.2 * t.2) := by rw [prs, prs, List.append_nil]
theorem prs_mem {p q : List (Int × Int)} {u : Int × Int} (h : u ∈ prs p q) : ∃ s ∈ p, ∃ t ∈ q, u = (s.1 + t.1, s.2 * t.2) := by
  induction p with
  | nil => cases h
  | cons s p ih =>
    rw [prs] at h
    rcases List.mem_append.1 h with h | h
    · obtain ⟨t, ht, rfl⟩ := List.mem_map.1 h
      exact ⟨s, List.mem_cons_self .., t, ht, rfl⟩
    · obtain ⟨s', hs, t, ht, e⟩ := ih h
      exact ⟨s', List.mem_cons_of_mem _ hs, t, ht, e⟩
theorem prs_len (p q : List (Int × Int)) : (prs p q).length = p.length * q.length := by
  induction p with
  | nil => simp [prs]
  | cons s p ih => rw [prs, List.length_append, List.length_map, ih, List.length_cons, Nat.succ_mul, Nat.add_comm]
/-- a coefficient of a product is not great -/
theorem cf_natAbs_le {l : List (Int × Int)} {B : Nat} (hb : ∀ t ∈ l, t.2.natAbs ≤ B) : ∀ e, (cf l e).natAbs ≤ B * l.length := by
  intro e
  induction l with
  | nil => simp [cf]
  | cons t l ih =>
    have h1 := hb t (List.mem_cons_self ..)
    have h2 := ih (fun s hs => hb s (List.mem_cons_of_mem _ hs))
    rw [cf_cons, List.length_cons, Nat.mul_succ]
    split <;> omega
theorem cvF_bd {F : Int → Int} {q : List (Int × Int)} {B C : Nat} (hF : ∀ x, (F x).natAbs ≤ B) (hq : ∀ t ∈ q, t.2.natAbs ≤ C) : ∀ e, (cvF F q e).natAbs ≤ C * B * q.length := by
  intro e
  induction q with
  | nil => simp [cvF]
  | cons t q ih =>
    have h1 := hq t (List.mem_cons_self ..)
    have h2 := ih (fun s hs => hq s (List.mem_cons_of_mem _ hs))
    have h3 : (t.2 * F (e - t.1)).natAbs ≤ C * B := by rw [Int.natAbs_mul]; exact Nat.mul_le_mul h1 (hF _)
    simp only [cvF]
    rw [List.length_cons, Nat.mul_succ]
    omega
theorem Lim.na {l : List (Int × Int)} (h : Lim l) : ∀ t ∈ l, t.2.natAbs ≤ 1125899906842624 := fun t ht => by have := h.co t ht; omega
/-- partial sums of products stay within 127 bits -/
theorem Lim.cvbd {p q : List (Int × Int)} (hp : Lim p) (kp : Can p) (hq : Lim q) (kq : Can q) (e : Int) : (cv p q e).natAbs ≤ 5316911983139663491615228241121378304 := by
  have h1 : ∀ x, (Go.Proofs.YtlbihllmpbhhcaaDoor.cf p x).natAbs ≤ 1125899906842624 := fun x => by have := hp.cf kp x; omega
  have h2 := cvF_bd h1 hq.na e
  have h3 := hq.len kq
  have h4 : 1125899906842624 * 1125899906842624 * q.length ≤ 1125899906842624 * 1125899906842624 * 2097153 := Nat.mul_le_mul_left _ h3
  unfold cv
  omega
/-- products of two terms add up to coefficients of prefixes: all partial sums are bounded -/
theorem cf_part_bd {l : List (Int × Int)} {B : Nat} (hb : ∀ t ∈ l, t.2.natAbs ≤ B) (k : Nat) (e : Int) : (cf (l.take k) e).natAbs ≤ B * l.length := by
  have h1 := cf_natAbs_le (l := l.take k) (fun t ht => hb t (List.mem_of_mem_take ht)) e
  have h2 : (l.take k).length ≤ l.length := by simp; omega
  exact Nat.le_trans h1 (Nat.mul_le_mul_left _ h2)
/-- the extreme exponents of a product -/
theorem cv_out {p q : List (Int × Int)} {a b c d e : Int} (hp : ∀ s ∈ p, a ≤ s.1 ∧ s.1 ≤ b) (hq : ∀ t ∈ q, c ≤ t.1 ∧ t.1 ≤ d) (h : e < a + c ∨ b + d < e) : cv p q e = 0 := by
  rw [← cf_prs]
  refine cf_out fun u hu => ?_
  obtain ⟨s, hs, t, ht, rfl⟩ := prs_mem hu
  have := hp s hs
  have := hq t ht
  show s.1 + t.1 ≠ e
  omega
/-- the list of the coefficients other than 0 from an exponent on -/
def dense (F : Int → Int) (low : Int) : Nat → List (Int × Int)
  | 0 => []
  | k + 1 => dense F low k ++ (if F (low + (k : Int)) = 0 then [] else [(low + (k : Int), F (low + (k : Int)))])
theorem dense_mem {F : Int → Int} {low : Int} : ∀ {k : Nat} {t : Int × Int}, t ∈ dense F low k → low ≤ t.1 ∧ t.1 < low + k ∧ t.2 = F t.1 ∧ t.2 ≠ 0
  | 0, t, h => by cases h
  | k + 1, t, h => by
    rw [dense] at h
    rcases List.mem_append.1 h with h | h
    · have := dense_mem h
      exact ⟨this.1, by omega, this.2.2⟩
    · split at h
      · cases h
      · next h0 =>
        rw [List.mem_singleton.1 h]
        exact ⟨by show low ≤ low + (k : Int); omega, by show low + (k : Int) < _; omega, rfl, h0⟩
theorem dense_can (F : Int → Int) (low : Int) : ∀ k, Can (dense F low k)
  | 0 => Can.nil
  | k + 1 => by
    rw [dense]
    split
    · rw [List.append_nil]; exact dense_can F low k
    · next h0 => exact (dense_can F low k).snoc (fun s hs => by have := dense_mem hs; show s.1 < low + (k : Int); omega) h0
theorem dense_len (F : Int → Int) (low : Int) : ∀ k, (dense F low k).length ≤ k
  | 0 => Nat.le_refl _
  | k + 1 => by
    have := dense_len F low k
    rw [dense, List.length_append]
    split <;> simp <;> omega
theorem dense_cf (F : Int → Int) (low : Int) : ∀ (k : Nat) (e : Int), cf (dense F low k) e = if low ≤ e ∧ e < low + k then F e else 0
  | 0, e => by rw [if_neg (by omega)]; rfl
  | k + 1, e => by
    rw [dense, cf_append, dense_cf F low k]
    by_cases he : low + (k : Int) = e
    · rw [if_neg (show ¬ (low ≤ e ∧ e < low + (k : Int)) by omega), if_pos (show low ≤ e ∧ e < low + ((k + 1 : Nat) : Int) by omega), Int.zero_add]
      by_cases h0 : F (low + (k : Int)) = 0
      · rw [if_pos h0, ← he, h0]; rfl
      · rw [if_neg h0, cf_one, if_pos he, he]
    · have h1 : cf (if F (low + (k : Int)) = 0 then [] else [(low + (k : Int), F (low + (k : Int)))]) e = 0 := by
        split
        · rfl
        · rw [cf_one, if_neg he]
      rw [h1, Int.add_zero]
      by_cases h2 : low ≤ e ∧ e < low + k
      · rw [if_pos h2, if_pos (by omega)]
      · rw [if_neg h2, if_neg (by omega)]
/-- the product of polynomials -/
def MulP : Pol → Pol → Pol → Prop
  | some p, some q, r => (∃ l, r = some l ∧ Can l ∧ Lim l ∧ ∀ e, cf l e = cv p q e) ∨ (r = none ∧ ((∃ e, ¬ (-1125899906842624 ≤ cv p q e ∧ cv p q e ≤ 1125899906842624)) ∨ ∃ s ∈ p, ∃ t ∈ q, s.1 + t.1 < -1048576 ∨ 1048576 < s.1 + t.1))
  | _, _, r => r = none
theorem MulP.some {p q : List (Int × Int)} {r : Pol} (h : MulP (some p) (some q) r) (h1 : ∀ e, -1125899906842624 ≤ cv p q e ∧ cv p q e ≤ 1125899906842624) (h2 : ∀ s ∈ p, ∀ t ∈ q, -1048576 ≤ s.1 + t.1 ∧ s.1 + t.1 ≤ 1048576) : ∃ l, r = Option.some l ∧ Can l ∧ Lim l ∧ ∀ e, cf l e = cv p q e := by
  rcases h with h | ⟨_, ⟨e, he⟩ | ⟨s, hs, t, ht, hh⟩⟩
  · exact h
  · exact absurd (h1 e) he
  · have := h2 s hs t ht; omega
theorem CombP.some {f : Int → Int → Int} {p q : List (Int × Int)} {r : Pol} (h : CombP f (some p) (some q) r) (h1 : ∀ e, -1125899906842624 ≤ f (cf p e) (cf q e) ∧ f (cf p e) (cf q e) ≤ 1125899906842624) : ∃ l, r = Option.some l ∧ Can l ∧ Lim l ∧ ∀ e, cf l e = f (cf p e) (cf q e) := by
  rcases h with h | ⟨_, e, he⟩
  · exact h
  · exact absurd (h1 e) he
/-- a coefficient other than 0 of the product comes from a term of each -/
theorem cv_ne {p q : List (Int × Int)} {e : Int} (h : cv p q e ≠ 0) : ∃ s ∈ p, ∃ t ∈ q, s.1 + t.1 = e := by
  rw [← cf_prs] at h
  obtain ⟨u, hu, he⟩ := cf_ne h
  obtain ⟨s, hs, t, ht, rfl⟩ := prs_mem hu
  exact ⟨s, hs, t, ht, he⟩
/-- the end of the dense product -/
theorem mul_end {p q : List (Int × Int)} {low : Int} {n : Nat} (hl : -1048576 ≤ low) (hh : low + n ≤ 1048577) (hx : ∀ s ∈ p, ∀ t ∈ q, low ≤ s.1 + t.1 ∧ s.1 + t.1 < low + n) (hb : ∀ i : Nat, i < n → -1125899906842624 ≤ cv p q (low + i) ∧ cv p q (low + i) ≤ 1125899906842624) : MulP (some p) (some q) (some (dense (cv p q) low n)) := by
  refine .inl ⟨_, rfl, dense_can _ _ _, ⟨fun t ht => ?_, fun t ht => ?_⟩, fun e => ?_⟩
  · have h1 := dense_mem ht
    have h2 := hb (t.1 - low).toNat (by omega)
    rw [show low + ((t.1 - low).toNat : Int) = t.1 by omega] at h2
    rw [h1.2.2.1]; exact h2
  · have h1 := dense_mem ht
    omega
  · rw [dense_cf]
    by_cases h : low ≤ e ∧ e < low + n
    · rw [if_pos h]
    · rw [if_neg h]
      refine (Classical.byContradiction fun hn => ?_)
      obtain ⟨s, hs, t, ht, he⟩ := cv_ne (fun k => hn k.symm)
      have := hx s hs t ht
      omega
theorem mul_bad {p q : List (Int × Int)} {e : Int} (h : ¬ (-1125899906842624 ≤ cv p q e ∧ cv p q e ≤ 1125899906842624)) : MulP (some p) (some q) none := .inr ⟨rfl, .inl ⟨e, h⟩⟩
end Go.Proofs.YtlbihllmpbhhcaaDoor
