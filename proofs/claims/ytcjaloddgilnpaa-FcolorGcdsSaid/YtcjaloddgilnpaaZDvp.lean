/- The plain facts of a division with two digits (Knuth's algorithm D), for math/bits.Div64. -/
namespace Go.Proofs.Ytcjaloddgilnpaa
set_option linter.unusedVariables false

/-- where the test fails, the digit is the quotient's -/
theorem kn_exit {u d y1 y0 q r : Nat} (hinv : q * y1 + r = u) (hub : (u * 4294967296 + d) / (y1 * 4294967296 + y0) ≤ q) (hy : 0 < y1) (ht : q * y0 ≤ 4294967296 * r + d) :
    (u * 4294967296 + d) / (y1 * 4294967296 + y0) = q := by
  apply Nat.le_antisymm hub
  rw [Nat.le_div_iff_mul_le (by omega), Nat.mul_add, ← Nat.mul_assoc]
  subst hinv
  generalize q * y1 = P at *
  generalize q * y0 = T at *
  omega
/-- where the rest has outgrown a digit, it is too -/
theorem kn_break {u d y1 y0 q r : Nat} (hinv : q * y1 + r = u) (hub : (u * 4294967296 + d) / (y1 * 4294967296 + y0) ≤ q) (hy : 0 < y1) (hq : q ≤ 4294967296) (h0 : y0 < 4294967296) (hr : 4294967296 ≤ r) :
    (u * 4294967296 + d) / (y1 * 4294967296 + y0) = q := by
  refine kn_exit hinv hub hy ?_
  have : q * y0 ≤ 4294967296 * 4294967296 := Nat.mul_le_mul hq (by omega)
  omega
/-- where the test holds, the digit is too great -/
theorem kn_more {u d y1 y0 q r : Nat} (hinv : q * y1 + r = u) (hu : u < y1 * 4294967296 + y0) (hd : d < 4294967296) (hy : 0 < y1)
    (ht : 4294967296 ≤ q ∨ 4294967296 * r + d < q * y0) : (u * 4294967296 + d) / (y1 * 4294967296 + y0) < q := by
  rcases ht with ht | ht
  · have hY : 0 < y1 * 4294967296 + y0 := by omega
    have aux : ∀ Y, 0 < Y → u < Y → (u * 4294967296 + d) / Y < 4294967296 := fun Y h1 h2 => (Nat.div_lt_iff_lt_mul h1).2 (by omega)
    exact Nat.lt_of_lt_of_le (aux _ hY hu) ht
  · rw [Nat.div_lt_iff_lt_mul (by omega), Nat.mul_add, ← Nat.mul_assoc]
    subst hinv
    generalize q * y1 = P at *
    generalize q * y0 = T at *
    omega
/-- the first guess -/
theorem kn_start {u d y1 y0 : Nat} (hu : u < y1 * 4294967296 + y0) (hd : d < 4294967296) (hy : 2147483648 ≤ y1) (h0 : y0 < 4294967296) :
    u / y1 * y1 + u % y1 = u ∧ (u * 4294967296 + d) / (y1 * 4294967296 + y0) ≤ u / y1 ∧ u / y1 ≤ 4294967297 := by
  refine ⟨by rw [Nat.mul_comm]; exact Nat.div_add_mod u y1, ?_, ?_⟩
  · have h1 : (u * 4294967296 + d) / (y1 * 4294967296 + y0) ≤ (u * 4294967296 + d) / (y1 * 4294967296) := Nat.div_le_div_left (by omega) (by omega)
    refine Nat.le_trans h1 ?_
    rw [Nat.mul_comm y1, ← Nat.div_div_eq_div_mul]
    rw [show (u * 4294967296 + d) / 4294967296 = u by omega]
    exact Nat.le_refl _
  · refine Nat.le_of_lt_succ ?_
    rw [Nat.div_lt_iff_lt_mul (by omega)]
    omega
/-- a step down keeps the sum -/
theorem kn_down {u y1 q r : Nat} (hinv : q * y1 + r = u) (hq : 0 < q) : (q - 1) * y1 + (r + y1) = u := by
  obtain ⟨q, rfl⟩ : ∃ k, q = k + 1 := ⟨q - 1, by omega⟩
  rw [Nat.add_sub_cancel]
  rw [Nat.succ_mul] at hinv
  omega
/-- the rest of the step, as the machine reckons it -/
theorem kn_rest {u d y1 y0 q : Nat} (hy : 0 < y1) (hY : y1 * 4294967296 + y0 < 18446744073709551616) (h : (u * 4294967296 + d) / (y1 * 4294967296 + y0) = q) :
    ((((u * 4294967296 + d : Nat) : Int) - ((q * (y1 * 4294967296 + y0) : Nat) : Int)) % 18446744073709551616) = (((u * 4294967296 + d) % (y1 * 4294967296 + y0) : Nat) : Int) := by
  have h1 := Nat.div_add_mod (u * 4294967296 + d) (y1 * 4294967296 + y0)
  have h2 := Nat.mod_lt (u * 4294967296 + d) (show 0 < y1 * 4294967296 + y0 by omega)
  rw [h, Nat.mul_comm] at h1
  generalize q * (y1 * 4294967296 + y0) = Q at *
  generalize (u * 4294967296 + d) % (y1 * 4294967296 + y0) = R at *
  omega
/-- two steps make the rest of the whole -/
theorem kn_two (u a b Y : Nat) : ((u * 4294967296 + a) % Y * 4294967296 + b) % Y = (u * 18446744073709551616 + a * 4294967296 + b) % Y := by
  rw [Nat.add_mod, Nat.mul_mod, Nat.mod_mod, ← Nat.mul_mod, ← Nat.add_mod]
  rw [show (u * 4294967296 + a) * 4294967296 + b = u * 18446744073709551616 + a * 4294967296 + b by omega]
/-- shifted numbers leave the shifted rest -/
theorem kn_shift (n y s : Nat) : (n * 2 ^ s) % (y * 2 ^ s) / 2 ^ s = n % y := by
  rw [Nat.mul_mod_mul_right, Nat.mul_div_cancel _ (Nat.two_pow_pos s)]
end Go.Proofs.Ytcjaloddgilnpaa
