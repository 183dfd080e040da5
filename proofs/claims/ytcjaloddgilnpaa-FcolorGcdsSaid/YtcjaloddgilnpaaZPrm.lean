/- 2^61 - 1 is prime: Pocklington's test; the order of an element modulo a divisor by the pigeonhole principle. -/
namespace Go.Proofs.Ytcjaloddgilnpaa
set_option linter.unusedVariables false

/-- a list without repetition of numbers below n has at most n elements -/
theorem nodup_le : ∀ (n : Nat) (l : List Nat), l.Nodup → (∀ x ∈ l, x < n) → l.length ≤ n
  | 0, l, _, h => by
    cases l with
    | nil => simp
    | cons a t => exact absurd (h a (by simp)) (by omega)
  | n + 1, l, hd, h => by
    have h1 := nodup_le n (l.erase n) (hd.erase n) (fun x hx => by
      have := (List.Nodup.mem_erase_iff hd).1 hx
      have := h x this.2
      omega)
    have : l.length ≤ (l.erase n).length + 1 := by
      by_cases hm : n ∈ l
      · have := List.length_erase_of_mem hm; omega
      · rw [List.erase_of_not_mem hm]; omega
    omega

/-- powers modulo r, by squaring: what the kernel reckons -/
def pmod (r a : Nat) : Nat → Nat → Nat
  | 0, _ => 1 % r
  | f + 1, e => if e = 0 then 1 % r else let h := pmod r (a * a % r) f (e / 2); if e % 2 = 1 then h * a % r else h
theorem pmod_eq (r : Nat) : ∀ (f a e : Nat), e < 2 ^ f → pmod r a f e = a ^ e % r
  | 0, a, e, h => by simp at h; subst h; simp [pmod]
  | f + 1, a, e, h => by
    have ih := pmod_eq r f (a * a % r) (e / 2) (by rw [Nat.pow_succ] at h; omega)
    simp only [pmod]
    split
    · subst e; simp
    · have h2 : (a * a % r) ^ (e / 2) % r = (a ^ (2 * (e / 2))) % r := by rw [← Nat.pow_mod, ← Nat.pow_two, ← Nat.pow_mul]
      rw [ih, h2]
      split
      · rename_i h1
        have : e = 2 * (e / 2) + 1 := by omega
        conv => rhs; rw [this, Nat.pow_succ]
        rw [Nat.mul_mod, Nat.mod_mod, ← Nat.mul_mod]
      · have : e = 2 * (e / 2) := by omega
        conv => rhs; rw [this]

/-- the order -/
theorem order_ex (a r n : Nat) (hn : 0 < n) (h : a ^ n % r = 1 % r) : ∃ k, 0 < k ∧ a ^ k % r = 1 % r ∧ ∀ j, 0 < j → j < k → a ^ j % r ≠ 1 % r := by
  induction n using Nat.strongRecOn with
  | _ n ih =>
    by_cases hx : ∃ j, 0 < j ∧ j < n ∧ a ^ j % r = 1 % r
    · obtain ⟨j, h1, h2, h3⟩ := hx
      exact ih j h2 h1 h3
    · exact ⟨n, hn, h, fun j h1 h2 h3 => hx ⟨j, h1, h2, h3⟩⟩
theorem pow_mod_mul (a r k m : Nat) (h : a ^ k % r = 1 % r) : a ^ (k * m) % r = 1 % r := by
  rw [Nat.pow_mul, Nat.pow_mod, h, ← Nat.pow_mod, Nat.one_pow]
theorem order_dvd {a r k : Nat} (h : a ^ k % r = 1 % r) (hm : ∀ j, 0 < j → j < k → a ^ j % r ≠ 1 % r) (hk : 0 < k) (n : Nat) (hn : a ^ n % r = 1 % r) : k ∣ n := by
  have e := Nat.div_add_mod n k
  have h1 : a ^ n % r = a ^ (n % k) % r := by
    conv => lhs; rw [← e, Nat.pow_add]
    rw [Nat.mul_mod, pow_mod_mul a r k _ h, ← Nat.mul_mod, Nat.one_mul]
  rcases Nat.eq_zero_or_pos (n % k) with h0 | h0
  · exact Nat.dvd_of_mod_eq_zero h0
  · exact absurd (h1.symm.trans hn) (hm _ h0 (Nat.mod_lt _ hk))
/-- a number that is coprime to all smaller ones -/
def Pr (q : Nat) : Prop := ∀ m, 0 < m → m < q → Nat.gcd m q = 1
theorem Pr.coprime {q : Nat} (h : Pr q) {m : Nat} (hm : m % q ≠ 0) (hq : 0 < q) : Nat.gcd m q = 1 := by
  have h1 := h (m % q) (by omega) (Nat.mod_lt _ hq)
  rw [Nat.gcd_comm, Nat.gcd_rec, h1]
theorem Pr.dvd {q : Nat} (h : Pr q) (hq : 0 < q) {k n : Nat} (hk : k ∣ n) (hn : ¬ k ∣ n / q) (hqn : q ∣ n) : q ∣ k := by
  obtain ⟨m, rfl⟩ := hk
  by_cases hm : m % q = 0
  · obtain ⟨t, rfl⟩ := Nat.dvd_of_mod_eq_zero hm
    exact absurd ⟨t, by rw [Nat.mul_left_comm, Nat.mul_div_cancel_left _ hq]⟩ hn
  · exact (Nat.Coprime.dvd_of_dvd_mul_right (Nat.coprime_comm.1 (h.coprime hm hq)) hqn)
theorem pow_inj {a r k : Nat} (h : a ^ k % r = 1 % r) (hm : ∀ j, 0 < j → j < k → a ^ j % r ≠ 1 % r) {i j : Nat} (hij : i < j) (hj : j < k) : a ^ i % r ≠ a ^ j % r := by
  intro e
  refine hm (j - i) (by omega) (by omega) ?_
  have h1 : a ^ (j - i) % r = a ^ (k * 1 + (j - i)) % r := by rw [Nat.pow_add, Nat.mul_mod, pow_mod_mul a r k 1 h, ← Nat.mul_mod, Nat.one_mul]
  have h2 : k * 1 + (j - i) = j + (k - i) := by omega
  rw [h1, h2, Nat.pow_add, Nat.mul_mod, ← e, ← Nat.mul_mod, ← Nat.pow_add]
  rw [show i + (k - i) = k by omega, h]
theorem order_le {a r k : Nat} (hr : 0 < r) (h : a ^ k % r = 1 % r) (hm : ∀ j, 0 < j → j < k → a ^ j % r ≠ 1 % r) : k ≤ r := by
  have := nodup_le r ((List.range k).map fun i => a ^ i % r) (by
    rw [List.nodup_iff_pairwise_ne, List.pairwise_map]
    have hp := @List.pairwise_lt_range k
    refine List.Pairwise.imp_of_mem ?_ hp
    intro i j _ hj hij
    exact pow_inj h hm hij (List.mem_range.1 hj)) (fun x hx => by
      obtain ⟨i, _, rfl⟩ := List.mem_map.1 hx
      exact Nat.mod_lt _ hr)
  simpa using this

/-- the prime of the elimination -/
def p61 : Nat := 2305843009213693951
def checkP (q : Nat) : Bool := (List.range q).all fun m => m == 0 || Nat.gcd m q == 1
theorem Pr_of_check {q : Nat} (h : checkP q = true) : Pr q := by
  intro m h0 h1
  have := List.all_eq_true.1 h m (List.mem_range.2 h1)
  simp only [Bool.or_eq_true, beq_iff_eq] at this
  omega
theorem not_one {r e : Nat} (hr : 1 < r) (hd : r ∣ p61) (he : e < 2 ^ 61) (hg : Nat.gcd (pmod p61 3 61 e - 1) p61 = 1) (h1 : 1 ≤ pmod p61 3 61 e) : 3 ^ e % r ≠ 1 % r := by
  intro h
  rw [pmod_eq p61 61 3 e he] at hg h1
  have h2 : 3 ^ e % p61 % r = 1 % r := by rw [Nat.mod_mod_of_dvd _ hd, h]
  have h3 : r ∣ 3 ^ e % p61 - 1 := by
    generalize 3 ^ e % p61 = y at *
    exact (Nat.dvd_iff_mod_eq_zero).2 (Nat.sub_mod_eq_zero_of_mod_eq h2)
  have := Nat.dvd_gcd h3 hd
  rw [hg] at this
  exact absurd (Nat.le_of_dvd (by omega) this) (by omega)
theorem prime_order {r k e q : Nat} (hr : 1 < r) (hd : r ∣ p61) (k1 : 3 ^ k % r = 1 % r) (hk : k ∣ e) (c1 : checkP q = true) (c2 : 0 < q) (c3 : q ∣ e) (c4 : e / q < 2 ^ 61)
    (c5 : Nat.gcd (pmod p61 3 61 (e / q) - 1) p61 = 1) (c6 : 1 ≤ pmod p61 3 61 (e / q)) : q ∣ k := by
  refine (Pr_of_check c1).dvd c2 hk ?_ c3
  rintro ⟨m, hm⟩
  refine not_one hr hd c4 c5 c6 ?_
  rw [hm]; exact pow_mod_mul 3 r k m k1
theorem order61 {r e : Nat} (hd : r ∣ p61) (he : e < 2 ^ 61) (h : pmod p61 3 61 e = 1) : 3 ^ e % r = 1 % r := by
  have := pmod_eq p61 61 3 e he
  rw [h] at this
  rw [← Nat.mod_mod_of_dvd _ hd, ← this]
theorem big_divisor {r : Nat} (hr : 1 < r) (hd : r ∣ p61) : 4027518961 ≤ r := by
  have main : ∀ e, e = 2305843009213693950 → 4027518961 ≤ r := by
    intro e he
    have h1 : 3 ^ e % r = 1 % r := order61 hd (by omega) (by rw [he]; decide +kernel)
    obtain ⟨k, k0, k1, k2⟩ := order_ex 3 r e (by omega) h1
    have hk := order_dvd k1 k2 k0 _ h1
    have a1 : 61 ∣ k := prime_order hr hd k1 hk (by decide +kernel) (by decide) (by rw [he]; decide +kernel) (by rw [he]; decide +kernel) (by rw [he]; decide +kernel) (by rw [he]; decide +kernel)
    have a2 : 151 ∣ k := prime_order hr hd k1 hk (by decide +kernel) (by decide) (by rw [he]; decide +kernel) (by rw [he]; decide +kernel) (by rw [he]; decide +kernel) (by rw [he]; decide +kernel)
    have a3 : 331 ∣ k := prime_order hr hd k1 hk (by decide +kernel) (by decide) (by rw [he]; decide +kernel) (by rw [he]; decide +kernel) (by rw [he]; decide +kernel) (by rw [he]; decide +kernel)
    have a4 : 1321 ∣ k := prime_order hr hd k1 hk (by decide +kernel) (by decide) (by rw [he]; decide +kernel) (by rw [he]; decide +kernel) (by rw [he]; decide +kernel) (by rw [he]; decide +kernel)
    have b1 : 61 * 151 ∣ k := Nat.Coprime.mul_dvd_of_dvd_of_dvd (by decide +kernel) a1 a2
    have b2 : 61 * 151 * 331 ∣ k := Nat.Coprime.mul_dvd_of_dvd_of_dvd (by decide +kernel) b1 a3
    have b3 : 61 * 151 * 331 * 1321 ∣ k := Nat.Coprime.mul_dvd_of_dvd_of_dvd (by decide +kernel) b2 a4
    have b4 := Nat.le_of_dvd k0 b3
    have b5 := order_le (Nat.lt_trans Nat.zero_lt_one hr) k1 k2
    exact Nat.le_trans (Nat.le_trans (by decide +kernel) b4) b5
  exact main _ rfl
theorem pr61 : Pr p61 := by
  intro m h0 h1
  have hd := Nat.gcd_dvd_right m p61
  have hm := Nat.gcd_dvd_left m p61
  have hle := Nat.le_of_dvd h0 hm
  generalize Nat.gcd m p61 = r at *
  obtain ⟨s, hs⟩ := hd
  rcases Nat.lt_or_ge 1 r with h2 | h2
  · have c1 := big_divisor h2 ⟨s, hs⟩
    have hs1 : 1 < s := by
      rcases Nat.lt_or_ge 1 s with h | h
      · exact h
      · have : r * s ≤ r * 1 := Nat.mul_le_mul_left r h
        omega
    have c2 := big_divisor hs1 ⟨r, by rw [Nat.mul_comm]; exact hs⟩
    have c3 := Nat.mul_le_mul c1 c2
    rw [← hs] at c3
    simp [p61] at c3
  · rcases Nat.eq_zero_or_pos r with h3 | h3
    · subst h3; simp [p61] at hs
    · omega
/-- no zero divisors -/
theorem p61_mul {a b : Nat} (ha : a % p61 ≠ 0) (hb : b % p61 ≠ 0) : a * b % p61 ≠ 0 := by
  intro h
  have h1 := Nat.dvd_of_mod_eq_zero h
  have h2 := pr61.coprime ha (by decide)
  exact hb (Nat.mod_eq_zero_of_dvd (Nat.Coprime.dvd_of_dvd_mul_left (Nat.coprime_comm.1 h2) h1))
end Go.Proofs.Ytcjaloddgilnpaa
