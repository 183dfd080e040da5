/- The reference's wide integers: plain. -/
import Derived.Lib.Hide
namespace Go.Proofs.YtlbihllmpbhhcaaDoor
set_option linter.unusedVariables false

def nh (x : Int) : Int := x / 1125899906842624
def nl (x : Int) : Int := x % 1125899906842624
theorem nl_bd (x : Int) : 0 ≤ nl x ∧ nl x < 1125899906842624 := by unfold nl; omega
theorem nw_eq (x : Int) : nh x * 1125899906842624 + nl x = x := by unfold nh nl; omega
theorem nw_add (x y : Int) : (nh x + nh y) * 1125899906842624 + (nl x + nl y) = x + y := by unfold nh nl; omega
theorem nh_bd {x B : Int} (h : -(B * 1125899906842624) ≤ x ∧ x ≤ B * 1125899906842624) : -B ≤ nh x ∧ nh x ≤ B := by unfold nh; omega
/-- the end of norm -/
theorem norm_end (h l : Int) (h0 : 0 ≤ l) : h + l / 1125899906842624 = nh (h * 1125899906842624 + l) ∧ l % 1125899906842624 = nl (h * 1125899906842624 + l) := by unfold nh nl; omega
theorem norm_step (h l : Int) : (h - 1) * 1125899906842624 + (l + 1125899906842624) = h * 1125899906842624 + l := by omega
/-- a piece -/
theorem piece_nw (p : Int) : nh p = p.tdiv 1125899906842624 + nh (p.tmod 1125899906842624) ∧ nl p = nl (p.tmod 1125899906842624) := by
  have h := Int.mul_tdiv_add_tmod p 1125899906842624
  generalize p.tdiv 1125899906842624 = a at *
  generalize p.tmod 1125899906842624 = b at *
  unfold nh nl
  omega
theorem tmod_bd (p : Int) : -1125899906842624 < p.tmod 1125899906842624 ∧ p.tmod 1125899906842624 < 1125899906842624 := by
  have h1 := Int.tmod_lt_of_pos p (show (0 : Int) < 1125899906842624 by decide)
  have h2 := Int.lt_tmod_of_pos p (show (0 : Int) < 1125899906842624 by decide)
  omega
theorem tdiv_bd {p B : Int} (hB : 0 ≤ B) (h : -B ≤ p ∧ p ≤ B) : -B ≤ p.tdiv 1125899906842624 ∧ p.tdiv 1125899906842624 ≤ B := by
  have h1 := Int.mul_tdiv_add_tmod p 1125899906842624
  have h2 := tmod_bd p
  omega
/-- the digits of a factor -/
def dig (A k : Nat) : Nat := A / 1024 ^ k % 1024
theorem dig_lt (A k : Nat) : dig A k < 1024 := Nat.mod_lt _ (by omega)
def low (A k : Nat) : Nat := A % 1024 ^ k
theorem low_succ (A k : Nat) : low A (k + 1) = low A k + dig A k * 1024 ^ k := by
  unfold low dig
  rw [Nat.pow_succ, Nat.mod_mul, Nat.mul_comm (1024 ^ k)]
theorem low_0 (A : Nat) : low A 0 = 0 := by unfold low; rw [Nat.pow_zero, Nat.mod_one]
theorem low_6 {A : Nat} (h : A < 1152921504606846976) : low A 6 = A := Nat.mod_eq_of_lt (by omega)
theorem low_le (A k : Nat) : low A k ≤ A := Nat.mod_le _ _
theorem low_lt (A k : Nat) : low A k < 1024 ^ k := Nat.mod_lt _ (Nat.pow_pos (by omega))
theorem shr_dig (A k : Nat) : (A : Int) / ((2 : Int) ^ (10 * k)) % 1024 = ((dig A k : Nat) : Int) := by
  unfold dig
  rw [show (1024 : Nat) ^ k = 2 ^ (10 * k) by rw [Nat.pow_mul]]
  simp
theorem two_pow10 (k : Nat) : (2 : Nat) ^ (10 * k) = 1024 ^ k := by rw [Nat.pow_mul]
end Go.Proofs.YtlbihllmpbhhcaaDoor
