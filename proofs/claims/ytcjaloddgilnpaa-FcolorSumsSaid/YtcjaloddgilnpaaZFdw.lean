/- 2^61 - 1 is prime: Pocklington's test; the order of an element modulo a divisor by the pigeonhole principle. -/
/- Small functions of intmatrix and fcolor: gcd, inverse, abs, columns. -/
/- Elimination on matrices of numbers: plain functions. -/
/- intmatrix.find: the walk. -/
import Derived.Test.YtcjaloddgilnpaaZMup
import Derived.Test.YtcjaloddgilnpaaZLis
import Derived.BigRegion
namespace Go.Proofs.Ytcjaloddgilnpaa
set_option linter.unusedVariables false

/-- a list without repetition of numbers below n has at most n elements -/
theorem nodup_le : ∀ (n : Nat) (l : List Nat), l.Nodup → (∀ x ∈ l, x < n) → l.length ≤ n
  | 0, l, _, h => by
    cases l with
    | nil => simp
    | cons a t => exact absurd (h a (by simp)) (by omega)
  | n + 1, l, hd, h => by
    have h1 := nodup_le n (l.erase n) (hd.erase n) (fun x hx => by
      have := (List.Nodup.mem_erase_iff hd).1 hx
      have := h x this.2
      omega)
    have : l.length ≤ (l.erase n).length + 1 := by
      by_cases hm : n ∈ l
      · have := List.length_erase_of_mem hm; omega
      · rw [List.erase_of_not_mem hm]; omega
    omega

/-- powers modulo r, by squaring: what the kernel reckons -/
def pmod (r a : Nat) : Nat → Nat → Nat
  | 0, _ => 1 % r
  | f + 1, e => if e = 0 then 1 % r else let h := pmod r (a * a % r) f (e / 2); if e % 2 = 1 then h * a % r else h
theorem pmod_eq (r : Nat) : ∀ (f a e : Nat), e < 2 ^ f → pmod r a f e = a ^ e % r
  | 0, a, e, h => by simp at h; subst h; simp [pmod]
  | f + 1, a, e, h => by
    have ih := pmod_eq r f (a * a % r) (e / 2) (by rw [Nat.pow_succ] at h; omega)
    simp only [pmod]
    split
    · subst e; simp
    · have h2 : (a * a % r) ^ (e / 2) % r = (a ^ (2 * (e / 2))) % r := by rw [← Nat.pow_mod, ← Nat.pow_two, ← Nat.pow_mul]
      rw [ih, h2]
      split
      · rename_i h1
        have : e = 2 * (e / 2) + 1 := by omega
        conv => rhs; rw [this, Nat.pow_succ]
        rw [Nat.mul_mod, Nat.mod_mod, ← Nat.mul_mod]
      · have : e = 2 * (e / 2) := by omega
        conv => rhs; rw [this]

/-- the order -/
theorem order_ex (a r n : Nat) (hn : 0 < n) (h : a ^ n % r = 1 % r) : ∃ k, 0 < k ∧ a ^ k % r = 1 % r ∧ ∀ j, 0 < j → j < k → a ^ j % r ≠ 1 % r := by
  induction n using Nat.strongRecOn with
  | _ n ih =>
    by_cases hx : ∃ j, 0 < j ∧ j < n ∧ a ^ j % r = 1 % r
    · obtain ⟨j, h1, h2, h3⟩ := hx
      exact ih j h2 h1 h3
    · exact ⟨n, hn, h, fun j h1 h2 h3 => hx ⟨j, h1, h2, h3⟩⟩
theorem pow_mod_mul (a r k m : Nat) (h : a ^ k % r = 1 % r) : a ^ (k * m) % r = 1 % r := by
  rw [Nat.pow_mul, Nat.pow_mod, h, ← Nat.pow_mod, Nat.one_pow]
theorem order_dvd {a r k : Nat} (h : a ^ k % r = 1 % r) (hm : ∀ j, 0 < j → j < k → a ^ j % r ≠ 1 % r) (hk : 0 < k) (n : Nat) (hn : a ^ n % r = 1 % r) : k ∣ n := by
  have e := Nat.div_add_mod n k
  have h1 : a ^ n % r = a ^ (n % k) % r := by
    conv => lhs; rw [← e, Nat.pow_add]
    rw [Nat.mul_mod, pow_mod_mul a r k _ h, ← Nat.mul_mod, Nat.one_mul]
  rcases Nat.eq_zero_or_pos (n % k) with h0 | h0
  · exact Nat.dvd_of_mod_eq_zero h0
  · exact absurd (h1.symm.trans hn) (hm _ h0 (Nat.mod_lt _ hk))
/-- a number that is coprime to all smaller ones -/
def Pr (q : Nat) : Prop := ∀ m, 0 < m → m < q → Nat.gcd m q = 1
theorem Pr.coprime {q : Nat} (h : Pr q) {m : Nat} (hm : m % q ≠ 0) (hq : 0 < q) : Nat.gcd m q = 1 := by
  have h1 := h (m % q) (by omega) (Nat.mod_lt _ hq)
  rw [Nat.gcd_comm, Nat.gcd_rec, h1]
theorem Pr.dvd {q : Nat} (h : Pr q) (hq : 0 < q) {k n : Nat} (hk : k ∣ n) (hn : ¬ k ∣ n / q) (hqn : q ∣ n) : q ∣ k := by
  obtain ⟨m, rfl⟩ := hk
  by_cases hm : m % q = 0
  · obtain ⟨t, rfl⟩ := Nat.dvd_of_mod_eq_zero hm
    exact absurd ⟨t, by rw [Nat.mul_left_comm, Nat.mul_div_cancel_left _ hq]⟩ hn
  · exact (Nat.Coprime.dvd_of_dvd_mul_right (Nat.coprime_comm.1 (h.coprime hm hq)) hqn)
theorem pow_inj {a r k : Nat} (h : a ^ k % r = 1 % r) (hm : ∀ j, 0 < j → j < k → a ^ j % r ≠ 1 % r) {i j : Nat} (hij : i < j) (hj : j < k) : a ^ i % r ≠ a ^ j % r := by
  intro e
  refine hm (j - i) (by omega) (by omega) ?_
  have h1 : a ^ (j - i) % r = a ^ (k * 1 + (j - i)) % r := by rw [Nat.pow_add, Nat.mul_mod, pow_mod_mul a r k 1 h, ← Nat.mul_mod, Nat.one_mul]
  have h2 : k * 1 + (j - i) = j + (k - i) := by omega
  rw [h1, h2, Nat.pow_add, Nat.mul_mod, ← e, ← Nat.mul_mod, ← Nat.pow_add]
  rw [show i + (k - i) = k by omega, h]
theorem order_le {a r k : Nat} (hr : 0 < r) (h : a ^ k % r = 1 % r) (hm : ∀ j, 0 < j → j < k → a ^ j % r ≠ 1 % r) : k ≤ r := by
  have := nodup_le r ((List.range k).map fun i => a ^ i % r) (by
    rw [List.nodup_iff_pairwise_ne, List.pairwise_map]
    have hp := @List.pairwise_lt_range k
    refine List.Pairwise.imp_of_mem ?_ hp
    intro i j _ hj hij
    exact pow_inj h hm hij (List.mem_range.1 hj)) (fun x hx => by
      obtain ⟨i, _, rfl⟩ := List.mem_map.1 hx
      exact Nat.mod_lt _ hr)
  simpa using this

/-- the prime of the elimination -/
def p61 : Nat := 2305843009213693951
def checkP (q : Nat) : Bool := (List.range q).all fun m => m == 0 || Nat.gcd m q == 1
theorem Pr_of_check {q : Nat} (h : checkP q = true) : Pr q := by
  intro m h0 h1
  have := List.all_eq_true.1 h m (List.mem_range.2 h1)
  simp only [Bool.or_eq_true, beq_iff_eq] at this
  omega
theorem not_one {r e : Nat} (hr : 1 < r) (hd : r ∣ p61) (he : e < 2 ^ 61) (hg : Nat.gcd (pmod p61 3 61 e - 1) p61 = 1) (h1 : 1 ≤ pmod p61 3 61 e) : 3 ^ e % r ≠ 1 % r := by
  intro h
  rw [pmod_eq p61 61 3 e he] at hg h1
  have h2 : 3 ^ e % p61 % r = 1 % r := by rw [Nat.mod_mod_of_dvd _ hd, h]
  have h3 : r ∣ 3 ^ e % p61 - 1 := by
    generalize 3 ^ e % p61 = y at *
    exact (Nat.dvd_iff_mod_eq_zero).2 (Nat.sub_mod_eq_zero_of_mod_eq h2)
  have := Nat.dvd_gcd h3 hd
  rw [hg] at this
  exact absurd (Nat.le_of_dvd (by omega) this) (by omega)
theorem prime_order {r k e q : Nat} (hr : 1 < r) (hd : r ∣ p61) (k1 : 3 ^ k % r = 1 % r) (hk : k ∣ e) (c1 : checkP q = true) (c2 : 0 < q) (c3 : q ∣ e) (c4 : e / q < 2 ^ 61)
    (c5 : Nat.gcd (pmod p61 3 61 (e / q) - 1) p61 = 1) (c6 : 1 ≤ pmod p61 3 61 (e / q)) : q ∣ k := by
  refine (Pr_of_check c1).dvd c2 hk ?_ c3
  rintro ⟨m, hm⟩
  refine not_one hr hd c4 c5 c6 ?_
  rw [hm]; exact pow_mod_mul 3 r k m k1
theorem order61 {r e : Nat} (hd : r ∣ p61) (he : e < 2 ^ 61) (h : pmod p61 3 61 e = 1) : 3 ^ e % r = 1 % r := by
  have := pmod_eq p61 61 3 e he
  rw [h] at this
  rw [← Nat.mod_mod_of_dvd _ hd, ← this]
theorem big_divisor {r : Nat} (hr : 1 < r) (hd : r ∣ p61) : 4027518961 ≤ r := by
  have main : ∀ e, e = 2305843009213693950 → 4027518961 ≤ r := by
    intro e he
    have h1 : 3 ^ e % r = 1 % r := order61 hd (by omega) (by rw [he]; decide +kernel)
    obtain ⟨k, k0, k1, k2⟩ := order_ex 3 r e (by omega) h1
    have hk := order_dvd k1 k2 k0 _ h1
    have a1 : 61 ∣ k := prime_order hr hd k1 hk (by decide +kernel) (by decide) (by rw [he]; decide +kernel) (by rw [he]; decide +kernel) (by rw [he]; decide +kernel) (by rw [he]; decide +kernel)
    have a2 : 151 ∣ k := prime_order hr hd k1 hk (by decide +kernel) (by decide) (by rw [he]; decide +kernel) (by rw [he]; decide +kernel) (by rw [he]; decide +kernel) (by rw [he]; decide +kernel)
    have a3 : 331 ∣ k := prime_order hr hd k1 hk (by decide +kernel) (by decide) (by rw [he]; decide +kernel) (by rw [he]; decide +kernel) (by rw [he]; decide +kernel) (by rw [he]; decide +kernel)
    have a4 : 1321 ∣ k := prime_order hr hd k1 hk (by decide +kernel) (by decide) (by rw [he]; decide +kernel) (by rw [he]; decide +kernel) (by rw [he]; decide +kernel) (by rw [he]; decide +kernel)
    have b1 : 61 * 151 ∣ k := Nat.Coprime.mul_dvd_of_dvd_of_dvd (by decide +kernel) a1 a2
    have b2 : 61 * 151 * 331 ∣ k := Nat.Coprime.mul_dvd_of_dvd_of_dvd (by decide +kernel) b1 a3
    have b3 : 61 * 151 * 331 * 1321 ∣ k := Nat.Coprime.mul_dvd_of_dvd_of_dvd (by decide +kernel) b2 a4
    have b4 := Nat.le_of_dvd k0 b3
    have b5 := order_le (Nat.lt_trans Nat.zero_lt_one hr) k1 k2
    exact Nat.le_trans (Nat.le_trans (by decide +kernel) b4) b5
  exact main _ rfl
theorem pr61 : Pr p61 := by
  intro m h0 h1
  have hd := Nat.gcd_dvd_right m p61
  have hm := Nat.gcd_dvd_left m p61
  have hle := Nat.le_of_dvd h0 hm
  generalize Nat.gcd m p61 = r at *
  obtain ⟨s, hs⟩ := hd
  rcases Nat.lt_or_ge 1 r with h2 | h2
  · have c1 := big_divisor h2 ⟨s, hs⟩
    have hs1 : 1 < s := by
      rcases Nat.lt_or_ge 1 s with h | h
      · exact h
      · have : r * s ≤ r * 1 := Nat.mul_le_mul_left r h
        omega
    have c2 := big_divisor hs1 ⟨r, by rw [Nat.mul_comm]; exact hs⟩
    have c3 := Nat.mul_le_mul c1 c2
    rw [← hs] at c3
    simp [p61] at c3
  · rcases Nat.eq_zero_or_pos r with h3 | h3
    · subst h3; simp [p61] at hs
    · omega
/-- no zero divisors -/
theorem p61_mul {a b : Nat} (ha : a % p61 ≠ 0) (hb : b % p61 ≠ 0) : a * b % p61 ≠ 0 := by
  intro h
  have h1 := Nat.dvd_of_mod_eq_zero h
  have h2 := pr61.coprime ha (by decide)
  exact hb (Nat.mod_eq_zero_of_dvd (Nat.Coprime.dvd_of_dvd_mul_left (Nat.coprime_comm.1 h2) h1))
end Go.Proofs.Ytcjaloddgilnpaa

namespace Go.Proofs.Ytcjaloddgilnpaa
open Go.RowKit
set_option linter.unusedVariables false

theorem rem_nat (a b : Nat) : (a : Int) % (b : Int) = ((a % b : Nat) : Int) := by simp
set_option maxHeartbeats 1000000 in
theorem gcdU_any (a b : Nat) (w : World) (ha : a < 18446744073709551616) (hb : b < 18446744073709551616) :
    Calls Try.prog 87 #[.int .u64 (a : Nat), .int .u64 (b : Nat)] w fun e w' => ∃ n, e = .returned (.int .u64 (Nat.gcd a b : Nat)) ∧ w' = w.drewN n := by
  obtain ⟨G, hG⟩ : ∃ g, g = Nat.gcd a b := ⟨_, rfl⟩
  rw [← hG]
  have HG := Lib.hid hG
  clear hG
  go_enter Try.func87, Try.ntmps87
  go_wp2_with fail
  go_loopg [0, 1] b (fun gk s0 s1 wr => ∃ x y n : Nat, gk = y ∧ s0 = .int .u64 (x : Int) ∧ s1 = .int .u64 (y : Int) ∧ x < 18446744073709551616 ∧ y < 18446744073709551616 ∧ Hid (G = Nat.gcd x y) ∧ wr = w.drewN n)
  case atStart => exact ⟨a, b, 0, rfl, rfl, rfl, ha, hb, HG, rfl⟩
  case round =>
    clear HG ha hb
    obtain ⟨x, y, n, rfl, rfl, rfl, hx, hy, HG, rfl⟩ := hrel
    obtain ⟨y, rfl⟩ : ∃ k, k = gk := ⟨_, rfl⟩
    rcases Nat.eq_zero_or_pos y with rfl | h0
    · go_wp2_with fail
      go_ret
      have := HG.out
      rw [Nat.gcd_zero_right] at this
      clear HG
      subst this
      exact ⟨n, rfl, rfl⟩
    · have z1 : ((y : Int) != 0) = true := by simp; omega
      have z2 : ((y : Int) == 0) = false := by simp; omega
      have e1 := rem_nat x y
      have HL := Lib.hid (Nat.mod_lt x h0)
      have HG2 := Lib.hid (show G = Nat.gcd y (x % y) by rw [HG.out, Nat.gcd_comm x y, Nat.gcd_rec y x, Nat.gcd_comm])
      obtain ⟨r, hr⟩ : ∃ r, r = x % y := ⟨_, rfl⟩
      rw [← hr] at e1 HL HG2
      have hl := HL.out
      clear hr HG HL
      generalize hWW : w.drewN n = W at *
      have HW := Lib.hid hWW
      clear hWW
      go_upto_region 2 with fail
      go_quiet (fail)
      have E1 := Lib.hid e1
      clear e1
      go_wp2_with fail
      go_roundg r
      case measure => omega
      case rel => exact ⟨y, r, _, rfl, rfl, by rw [← E1.out], hy, by omega, HG2, by rw [← HW.out]; exact drewN_add w n _⟩
set_option maxHeartbeats 1000000 in
theorem gcdI_any (a b : Nat) (w : World) (ha : a < 9223372036854775808) (hb : b < 9223372036854775808) :
    Calls Try.prog 39 #[.int .i64 (a : Nat), .int .i64 (b : Nat)] w fun e w' => ∃ n, e = .returned (.int .i64 (Nat.gcd a b : Nat)) ∧ w' = w.drewN n := by
  obtain ⟨G, hG⟩ : ∃ g, g = Nat.gcd a b := ⟨_, rfl⟩
  rw [← hG]
  have HG := Lib.hid hG
  clear hG
  go_enter Try.func39, Try.ntmps39
  go_wp2_with fail
  go_loopg [0, 1] b (fun gk s0 s1 wr => ∃ x y n : Nat, gk = y ∧ s0 = .int .i64 (x : Int) ∧ s1 = .int .i64 (y : Int) ∧ x < 9223372036854775808 ∧ y < 9223372036854775808 ∧ Hid (G = Nat.gcd x y) ∧ wr = w.drewN n)
  case atStart => exact ⟨a, b, 0, rfl, rfl, rfl, ha, hb, HG, rfl⟩
  case round =>
    clear HG ha hb
    obtain ⟨x, y, n, rfl, rfl, rfl, hx, hy, HG, rfl⟩ := hrel
    obtain ⟨y, rfl⟩ : ∃ k, k = gk := ⟨_, rfl⟩
    rcases Nat.eq_zero_or_pos y with rfl | h0
    · go_wp2_with fail
      go_ret
      have := HG.out
      rw [Nat.gcd_zero_right] at this
      clear HG
      subst this
      exact ⟨n, rfl, rfl⟩
    · have z1 : ((y : Int) != 0) = true := by simp; omega
      have z2 : ((y : Int) == 0) = false := by simp; omega
      have e1 := rem_nat x y
      have HL := Lib.hid (Nat.mod_lt x h0)
      have HG2 := Lib.hid (show G = Nat.gcd y (x % y) by rw [HG.out, Nat.gcd_comm x y, Nat.gcd_rec y x, Nat.gcd_comm])
      obtain ⟨r, hr⟩ : ∃ r, r = x % y := ⟨_, rfl⟩
      rw [← hr] at e1 HL HG2
      have hl := HL.out
      clear hr HG HL
      generalize hWW : w.drewN n = W at *
      have HW := Lib.hid hWW
      clear hWW
      go_upto_region 2 with fail
      go_quiet (fail)
      have E1 := Lib.hid e1
      clear e1
      go_wp2_with fail
      go_roundg r
      case measure => omega
      case rel => exact ⟨y, r, _, rfl, rfl, by rw [← E1.out], hy, by omega, HG2, by rw [← HW.out]; exact drewN_add w n _⟩
theorem abs_any (x : Int) (w : World) (h0 : -9223372036854775807 ≤ x) (h1 : x ≤ 9223372036854775807) :
    Calls Try.prog 69 #[.int .i64 x] w fun e w' => e = .returned (.int .u64 (x.natAbs : Nat)) ∧ w = w' := by
  obtain ⟨R, hR⟩ : ∃ k, k = x.natAbs := ⟨_, rfl⟩
  rw [← hR]
  by_cases h : x < 0
  · have e1 : (-x) = (R : Int) := by omega
    clear hR
    go_enter Try.func69, Try.ntmps69
    go_wp2_with fail
    go_ret
    exact ⟨rfl, rfl⟩
  · obtain ⟨y, rfl⟩ : ∃ y : Nat, x = (y : Int) := ⟨x.toNat, by omega⟩
    obtain rfl : R = y := by omega
    clear hR
    go_enter Try.func69, Try.ntmps69
    go_wp2_with fail
    go_ret
    exact ⟨rfl, rfl⟩
/-- the number of columns of a matrix -/
def cols (rows : List (List Int)) : Nat := (rows[0]?.getD []).length
theorem columns_any (v : Value) (rows : List (List Int)) (w : World) (h : Mat w v rows) (hl : rows.length ≤ 1000) (hr : ∀ r ∈ rows, r.length ≤ 1000) :
    Calls Try.prog 79 #[v] w fun e w' => e = .returned (.int .i64 (cols rows : Nat)) ∧ w = w' := by
  have h0 := h
  obtain ⟨A, c, rfl, hc, hx⟩ := h
  clear hx
  cases rows with
  | nil =>
    have e1 : cols [] = 0 := rfl
    rw [e1]
    clear e1 hr
    go_enter Try.func79, Try.ntmps79
    go_wp2_with fail
    go_ret
    exact ⟨rfl, rfl⟩
  | cons r rs =>
    obtain ⟨b, o, rfl, hb, u, hu, hI⟩ := h0.at_ (i := 0) (by simp)
    obtain ⟨A2, c2, rfl, hc2, hx2⟩ := hI
    have e1 : cols (r :: rs) = r.length := rfl
    have hrl := hr r (by simp)
    rw [e1]
    clear e1 hx2 h0 hr
    have hu' : w.cell? ⟨b, o, none⟩ = some (Value.slice A2 r.length c2) := hu
    have hl' : (rs.length : Int) + 1 ≤ 1000 := by simp at hl; omega
    have z1 : (((r :: rs).length : Int) == 0) = false := by simp; omega
    have z2 : (0 : Int) < ((r :: rs).length : Int) := by rw [List.length_cons]; omega
    generalize (r :: rs).length = N at *
    clear hu
    go_enter Try.func79, Try.ntmps79
    go_wp2_with fail
    go_ret
    exact ⟨rfl, rfl⟩
theorem p_cast : ((2305843009213693951 : Nat) : Int) = 2305843009213693951 := rfl
theorem mulP_any (a b : Nat) (w : World) (ha : a < 18446744073709551616) (hb : b < 18446744073709551616) :
    Calls Try.prog 82 #[.int .u64 (a : Nat), .int .u64 (b : Nat), .int .u64 2305843009213693951] w fun e w' => ∃ n, e = .returned (.int .u64 ((a * b % 2305843009213693951 : Nat) : Int)) ∧ w' = w.drewN n := by
  have h := mulMod_any a b 2305843009213693951 w ha hb (by omega) (by omega)
  rw [p_cast] at h
  exact h
theorem subP_any (a b : Nat) (w : World) (ha : a < 2305843009213693951) (hb : b < 2305843009213693951) :
    Calls Try.prog 83 #[.int .u64 (a : Nat), .int .u64 (b : Nat), .int .u64 2305843009213693951] w fun e w' => e = .returned (.int .u64 (((a + (2305843009213693951 - b)) % 2305843009213693951 : Nat) : Int)) ∧ w = w' := by
  have h := subMod_any a b 2305843009213693951 w ha hb (by omega)
  rw [p_cast] at h
  exact h
/-- the inverse modulo the prime -/
def invF (a : Nat) : Nat := pmod p61 a 61 (p61 - 2)
theorem invF_eq (a : Nat) : invF a = a ^ (p61 - 2) % p61 := pmod_eq p61 61 a (p61 - 2) (by decide)
theorem pow_split {r x e R : Nat} (h : r * x ^ e % p61 = R) : (if e % 2 = 1 then r * x % p61 else r) * (x * x % p61) ^ (e / 2) % p61 = R := by
  have h2 : (x * x % p61) ^ (e / 2) % p61 = x ^ (2 * (e / 2)) % p61 := by rw [← Nat.pow_mod, ← Nat.pow_two, ← Nat.pow_mul]
  rw [← h]
  split
  · rename_i h1
    have : e = 2 * (e / 2) + 1 := by omega
    rw [Nat.mul_mod, h2, Nat.mod_mod, ← Nat.mul_mod]
    conv => rhs; rw [this, Nat.pow_succ, Nat.mul_comm (x ^ _) x, ← Nat.mul_assoc]
  · have : e = 2 * (e / 2) := by omega
    rw [Nat.mul_mod, h2, ← Nat.mul_mod]
    conv => rhs; rw [this]
def PwR (r x e G : Nat) : Prop := r * x ^ e % p61 = G
theorem PwR.start (a E : Nat) (h : E = p61 - 2) : PwR 1 a E (invF a) := by unfold PwR; rw [invF_eq, h, Nat.one_mul]
set_option maxHeartbeats 1000000 in
theorem inverse_any (a : Nat) (w : World) (ha : a < 2305843009213693951) :
    Calls Try.prog 84 #[.int .u64 (a : Nat)] w fun e w' => ∃ n, e = .returned (.int .u64 (invF a : Nat)) ∧ w' = w.drewN n := by
  have HG := Lib.hid (PwR.start a 2305843009213693949 (by decide))
  generalize invF a = G at *
  go_enter Try.func84, Try.ntmps84
  go_wp2_with fail
  go_loopg [3, 4, 0] 2305843009213693949 (fun gk s3 s4 s0 wr => ∃ r e x n : Nat, gk = e ∧ s3 = .int .u64 (r : Int) ∧ s4 = .int .u64 (e : Int) ∧ s0 = .int .u64 (x : Int) ∧ r < 2305843009213693951 ∧ e < 2305843009213693951 ∧ x < 2305843009213693951 ∧ Hid (PwR r x e G) ∧ wr = w.drewN n)
  case atStart => exact ⟨1, 2305843009213693949, a, 0, rfl, rfl, rfl, rfl, by omega, by omega, ha, HG, rfl⟩
  case round =>
    clear HG ha
    obtain ⟨r, e, x, n, rfl, rfl, rfl, rfl, hr, he, hx, HG, rfl⟩ := hrel
    obtain ⟨e, rfl⟩ : ∃ k, k = gk := ⟨_, rfl⟩
    rcases Nat.eq_zero_or_pos e with rfl | h0
    · go_wp2_with fail
      go_ret
      have : r * x ^ 0 % p61 = G := HG.out
      rw [Nat.pow_zero, Nat.mul_one, Nat.mod_eq_of_lt (show r < p61 from hr)] at this
      clear HG
      subst this
      exact ⟨n, rfl, rfl⟩
    · have z0 : (0 : Int) < (e : Int) := by omega
      have e1 : bits BinOp.and IntKind.u64 (e : Int) 1 = ((e % 2 : Nat) : Int) := by
        have q := bits_and_u64_nat e 1 (by omega) (by omega)
        rw [Nat.and_one_is_mod] at q; exact q
      have e2 : (e : Int) / 2 = ((e / 2 : Nat) : Int) := by omega
      have HS := Lib.hid (pow_split HG.out)
      have HP := Lib.hid (fun W => mulP_any r x W (by omega) (by omega))
      have HX := Lib.hid (fun W => mulP_any x x W (by omega) (by omega))
      have hf : e / 2 < e := by omega
      obtain ⟨f, hfe⟩ : ∃ f, f = e / 2 := ⟨_, rfl⟩
      rw [← hfe] at e2 HS hf
      clear hfe HG
      have hq : r * x % 2305843009213693951 < 2305843009213693951 := Nat.mod_lt _ (by omega)
      have hy : x * x % 2305843009213693951 < 2305843009213693951 := Nat.mod_lt _ (by omega)
      have HS' := Lib.hid (show (if e % 2 = 1 then r * x % 2305843009213693951 else r) * (x * x % 2305843009213693951) ^ f % p61 = G from HS.out)
      clear HS
      generalize x * x % 2305843009213693951 = y at *
      generalize r * x % 2305843009213693951 = q at *
      by_cases h2 : e % 2 = 1
      · rw [if_pos h2] at HS'
        rw [h2] at e1
        clear h2
        go_wp2_with (first | (go_at_call 82; (with_reducible refine (HP.out _).mono ?_); rintro e w' ⟨m, rfl, rfl⟩) | (go_at_call 82; refine (HX.out _).mono ?_; rintro e w' ⟨m2, rfl, rfl⟩))
        go_roundg f
        case measure => omega
        case rel => exact ⟨q, f, y, _, rfl, rfl, by rw [← e2], rfl, hq, by omega, hy, Lib.hid HS'.out, rfl⟩
      · rw [if_neg h2] at HS'
        have h3 : e % 2 = 0 := by omega
        rw [h3] at e1
        clear h2 h3
        go_wp2_with (go_at_call 82; refine (HX.out _).mono ?_; rintro e w' ⟨m2, rfl, rfl⟩)
        go_roundg f
        case measure => omega
        case rel => exact ⟨r, f, y, _, rfl, rfl, by rw [← e2], rfl, hr, by omega, hy, Lib.hid HS'.out, rfl⟩
end Go.Proofs.Ytcjaloddgilnpaa

namespace Go.Proofs.Ytcjaloddgilnpaa
set_option linter.unusedVariables false

theorem gr_map_range (n : Nat) (f : Nat → List Nat) (i : Nat) : gr ((List.range n).map f) i = if i < n then f i else [] := by
  unfold gr
  by_cases h : i < n
  · simp [h]
  · rw [if_neg h, List.getElem?_eq_none (by simp; omega)]; rfl
theorem gr_out {A : List (List Nat)} {i : Nat} (h : A.length ≤ i) : gr A i = [] := by unfold gr; rw [List.getElem?_eq_none h]; rfl
/-- the rows from lo to hi are changed -/
def updR (A : List (List Nat)) (lo hi : Nat) (f : List Nat → List Nat) : List (List Nat) := (List.range A.length).map fun i => if lo ≤ i ∧ i < hi then f (gr A i) else gr A i
theorem updR_length (A : List (List Nat)) (lo hi : Nat) (f : List Nat → List Nat) : (updR A lo hi f).length = A.length := by simp [updR]
theorem gr_updR {A : List (List Nat)} {lo hi : Nat} {f : List Nat → List Nat} {i : Nat} (h : i < A.length) : gr (updR A lo hi f) i = if lo ≤ i ∧ i < hi then f (gr A i) else gr A i := by
  unfold updR; rw [gr_map_range, if_pos h]
theorem updR_start (A : List (List Nat)) (lo : Nat) (f : List Nat → List Nat) : updR A lo lo f = A := by
  apply gr_ext (updR_length _ _ _ _)
  intro i hi
  rw [updR_length] at hi
  rw [gr_updR hi, if_neg (by omega)]
theorem updR_step {A : List (List Nat)} {lo x : Nat} {f : List Nat → List Nat} (h1 : lo ≤ x) (h2 : x < A.length) : (updR A lo x f).set x (f (gr A x)) = updR A lo (x + 1) f := by
  apply gr_ext (by simp [updR_length])
  intro i hi
  have hi' : i < A.length := by simpa [updR_length] using hi
  rw [gr_set _ _ _ _ (by rw [updR_length]; exact h2), gr_updR hi', gr_updR hi']
  by_cases e : i = x
  · subst e; rw [if_pos rfl, if_pos (by omega)]
  · rw [if_neg e]
    by_cases q : lo ≤ i ∧ i < x
    · rw [if_pos q, if_pos (by omega)]
    · rw [if_neg q, if_neg (by omega)]
theorem gr_updR_at (A : List (List Nat)) (lo x : Nat) (f : List Nat → List Nat) : gr (updR A lo x f) x = gr A x := by
  by_cases h : x < A.length
  · rw [gr_updR h, if_neg (by omega)]
  · rw [gr_out (by rw [updR_length]; omega), gr_out (by omega)]
/-- two elements of a row are exchanged -/
def swp (j k : Nat) (r : List Nat) : List Nat := (r.set j (gn r k)).set k (gn r j)
theorem swp_length (j k : Nat) (r : List Nat) : (swp j k r).length = r.length := by simp [swp]
theorem gn_swp {j k : Nat} {r : List Nat} (hj : j < r.length) (hk : k < r.length) (c : Nat) : gn (swp j k r) c = if c = k then gn r j else if c = j then gn r k else gn r c := by
  unfold swp
  rw [gn_set _ _ _ _ (by simpa using hk), gn_set _ _ _ _ hj]
theorem swp_self (k : Nat) (r : List Nat) : swp k k r = r := by
  by_cases h : k < r.length
  · apply gn_ext (swp_length _ _ _)
    intro i _
    rw [gn_swp h h]
    split
    · next e => rw [e]
    · rfl
  · unfold swp; rw [List.set_eq_of_length_le (by simp; omega), List.set_eq_of_length_le (by omega)]
theorem swR_self (A : List (List Nat)) (k : Nat) : swR A k k = A := by
  by_cases h : k < A.length
  · apply gr_ext (swR_length _ _ _)
    intro i _
    rw [gr_swR h h]
    split
    · next e => rw [e]
    · rfl
  · unfold swR; rw [List.set_eq_of_length_le (by simp; omega), List.set_eq_of_length_le (by omega)]
def swC (A : List (List Nat)) (j k : Nat) : List (List Nat) := updR A 0 A.length (swp j k)
theorem swC_length (A : List (List Nat)) (j k : Nat) : (swC A j k).length = A.length := updR_length _ _ _ _
theorem gr_swC {A : List (List Nat)} {j k i : Nat} (h : i < A.length) : gr (swC A j k) i = swp j k (gr A i) := by
  unfold swC; rw [gr_updR h, if_pos (by omega)]
theorem swC_self (A : List (List Nat)) (k : Nat) : swC A k k = A := by
  apply gr_ext (swC_length _ _ _)
  intro i hi
  rw [swC_length] at hi
  rw [gr_swC hi, swp_self]

/-- the first element other than 0 of a row, from column j on -/
def fdC (r : List Nat) : Nat → Nat → Option Nat
  | _, 0 => none
  | j, f + 1 => if gn r j ≠ 0 then some j else fdC r (j + 1) f
/-- the first element other than 0 in the rows from i on, from column k on -/
def fdR (A : List (List Nat)) (k C : Nat) : Nat → Nat → Option (Nat × Nat)
  | _, 0 => none
  | i, f + 1 => match fdC (gr A i) k (C - k) with
    | some j => some (i, j)
    | none => fdR A k C (i + 1) f
def findF (A : List (List Nat)) (k C : Nat) : Option (Nat × Nat) := fdR A k C k (A.length - k)
theorem fdC_some {r : List Nat} : ∀ {f j x : Nat}, fdC r j f = some x → j ≤ x ∧ x < j + f ∧ gn r x ≠ 0
  | 0, j, x, h => by simp [fdC] at h
  | f + 1, j, x, h => by
    unfold fdC at h
    split at h
    · next q => injection h with h; subst h; exact ⟨Nat.le_refl _, by omega, q⟩
    · obtain ⟨a, b, c⟩ := fdC_some h; exact ⟨by omega, by omega, c⟩
theorem fdC_none {r : List Nat} : ∀ {f j : Nat}, fdC r j f = none → ∀ x, j ≤ x → x < j + f → gn r x = 0
  | 0, j, _, x, h1, h2 => by omega
  | f + 1, j, h, x, h1, h2 => by
    unfold fdC at h
    split at h
    · cases h
    · next q =>
      by_cases e : x = j
      · subst e; simpa using q
      · exact fdC_none h x (by omega) (by omega)
theorem fdR_some {A : List (List Nat)} {k C : Nat} : ∀ {f i x y : Nat}, fdR A k C i f = some (x, y) → i ≤ x ∧ x < i + f ∧ k ≤ y ∧ y < k + (C - k) ∧ ge A x y ≠ 0
  | 0, i, x, y, h => by simp [fdR] at h
  | f + 1, i, x, y, h => by
    unfold fdR at h
    split at h
    · next j hj =>
      injection h with h
      injection h with h1 h2
      subst h1 h2
      obtain ⟨a, b, c⟩ := fdC_some hj
      exact ⟨by omega, by omega, a, b, c⟩
    · obtain ⟨a, b, c⟩ := fdR_some h; exact ⟨by omega, by omega, c⟩
theorem fdR_none {A : List (List Nat)} {k C : Nat} : ∀ {f i : Nat}, fdR A k C i f = none → ∀ x y, i ≤ x → x < i + f → k ≤ y → y < C → ge A x y = 0
  | 0, i, _, x, y, h1, h2, _, _ => by omega
  | f + 1, i, h, x, y, h1, h2, h3, h4 => by
    unfold fdR at h
    split at h
    · cases h
    · next hn =>
      by_cases e : x = i
      · subst e; exact fdC_none hn y h3 (by omega)
      · exact fdR_none h x y (by omega) (by omega) h3 h4
theorem findF_some {A : List (List Nat)} {k C i j : Nat} (h : findF A k C = some (i, j)) : k ≤ i ∧ i < A.length ∧ k ≤ j ∧ j < C ∧ ge A i j ≠ 0 := by
  obtain ⟨a, b, c, d, e⟩ := fdR_some h; exact ⟨a, by omega, c, by omega, e⟩
theorem findF_none {A : List (List Nat)} {k C : Nat} (h : findF A k C = none) : ∀ i j, k ≤ i → i < A.length → k ≤ j → j < C → ge A i j = 0 :=
  fun i j h1 h2 h3 h4 => fdR_none h i j h1 (by omega) h3 h4
end Go.Proofs.Ytcjaloddgilnpaa

namespace Go.Proofs.Ytcjaloddgilnpaa
open Go.RowKit
set_option linter.unusedVariables false

set_option maxHeartbeats 2000000 in
set_option maxRecDepth 100000 in
theorem find_none (R : Nat) (bs : List Nat) (C : Nat) (A : List (List Nat)) (k : Nat) (w : World) (h : MU w R bs C A) (hA : A.length ≤ 1000) (hC : C ≤ 1000) (hk : k ≤ 1000) (hF : findF A k C = none) :
    Calls Try.prog 81 #[.slice (some ⟨R, 0, none⟩) A.length A.length, .int .i64 (k : Nat)] w fun e w' => e = .returned (.tuple #[.int .i64 0, .bool false]) ∧ w = w' := by
  have HF := Lib.hid (findF_none hF)
  clear hF
  go_enter Try.func81, Try.ntmps81
  go_wp2_with fail
  go_loopg [6, 7] (A.length + 1000 - k) (fun gk s6 s7 wr => ∃ i : Nat, k ≤ i ∧ gk = A.length + 1000 - i ∧ i ≤ 1000 ∧ s6 = .int .i64 (i : Int) ∧ w = wr)
  case atStart => exact ⟨k, Nat.le_refl _, rfl, hk, rfl, rfl⟩
  case round =>
    obtain ⟨i, hki, rfl, hi1, rfl, rfl⟩ := hrel
    by_cases hlt : i < A.length
    · have z1 : (i : Int) < (A.length : Int) := by omega
      obtain ⟨b, hb, hbm⟩ := h.bl hlt
      have zc := h.cellR hb
      have HB := Lib.hid hb
      have HH := Lib.hid h
      clear hb h
      go_wp2_with fail
      go_loopg [7] (C + 1000 - k) (fun gk s7 wr => ∃ j : Nat, k ≤ j ∧ gk = C + 1000 - j ∧ j ≤ 1000 ∧ s7 = .int .i64 (j : Int) ∧ w = wr)
      case atStart => exact ⟨k, Nat.le_refl _, rfl, hk, rfl, rfl⟩
      case round =>
        obtain ⟨j, hkj, rfl, hj1, rfl, rfl⟩ := hrel
        by_cases hjt : j < C
        · have z2 : (j : Int) < (C : Int) := by omega
          have zd := HH.out.cell HB.out hjt
          rw [HF.out i j hki hlt hkj hjt] at zd
          go_wp2_with fail
          go_roundg (C + 1000 - (j + 1))
          case measure => omega
          case rel => exact ⟨j + 1, by omega, rfl, by omega, by go_num, rfl⟩
        · have z2 : ¬ ((j : Int) < (C : Int)) := by omega
          go_wp2_with fail
          go_roundg (A.length + 1000 - (i + 1))
          case measure => omega
          case rel => exact ⟨i + 1, by omega, rfl, by omega, by go_num, rfl⟩
    · have z1 : ¬ ((i : Int) < (A.length : Int)) := by omega
      go_wp2_with fail
      go_ret2
      exact ⟨rfl, rfl⟩
theorem fdR_step {A : List (List Nat)} {k C i f x y : Nat} (h : fdR A k C i (f + 1) = some (x, y)) : (∃ j, fdC (gr A i) k (C - k) = some j ∧ x = i ∧ y = j) ∨ (fdC (gr A i) k (C - k) = none ∧ fdR A k C (i + 1) f = some (x, y)) := by
  unfold fdR at h
  split at h
  · next j hj => injection h with h; injection h with h1 h2; exact .inl ⟨j, hj, h1.symm, h2.symm⟩
  · next hn => exact .inr ⟨hn, h⟩
theorem fdC_hit {r : List Nat} {j f : Nat} (h : gn r j ≠ 0) : fdC r j (f + 1) = some j := by unfold fdC; rw [if_pos h]
theorem fdC_miss {r : List Nat} {j f : Nat} (h : gn r j = 0) : fdC r j (f + 1) = fdC r (j + 1) f := by
  rw [fdC, if_neg (by simpa using h)]
theorem swap_hd (C : Nat) (bs : List Nat) (i k b c : Nat) : ((bs.map (hd C)).set i (hd C c)).set k (hd C b) = ((bs.set i c).set k b).map (hd C) := by
  rw [← List.map_set, ← List.map_set]
theorem swap_all {w : World} {R C : Nat} {bs : List Nat} {A : List (List Nat)} (h : MU w R bs C A) {i k b c : Nat} (hi : bs[i]? = some b) (hk : bs[k]? = some c) :
    MU ((w.drew.setCell ⟨R, i, none⟩ (.slice (some ⟨c, 0, none⟩) C C)).setCell ⟨R, k, none⟩ (.slice (some ⟨b, 0, none⟩) C C)) R ((bs.set i c).set k b) C (swR A i k) ∧ (∀ x ∈ (bs.set i c).set k b, x ∈ bs) ∧
      Wr (R :: bs) w ((w.drew.setCell ⟨R, i, none⟩ (.slice (some ⟨c, 0, none⟩) C C)).setCell ⟨R, k, none⟩ (.slice (some ⟨b, 0, none⟩) C C)) := by
  have o : Onl R w ((w.drew.setCell ⟨R, i, none⟩ (.slice (some ⟨c, 0, none⟩) C C)).setCell ⟨R, k, none⟩ (.slice (some ⟨b, 0, none⟩) C C)) := ((Onl.refl R w).drew.setCell i _).setCell k _
  have ha := ((h.drew.outer.set i (hd C c)).set k (hd C b))
  rw [swap_hd] at ha
  have hs := h.swap hi hk o ha
  exact ⟨hs.1, hs.2, Wr.of_onl o (by simp)⟩
theorem swap_row {w w0 : World} {R C : Nat} {bs bs0 : List Nat} {A : List (List Nat)} (h : MU w R bs C A) {r d j k : Nat} (hr : bs[r]? = some d) (hj : j < C) (hk : k < C) (hd : d ∈ bs0) (hw : Wr (R :: bs0) w0 w) :
    MU ((w.drew.setCell ⟨d, j, none⟩ (.int .u64 (ge A r k : Nat))).setCell ⟨d, k, none⟩ (.int .u64 (ge A r j : Nat))) R bs C (A.set r (swp j k (gr A r))) ∧
      Wr (R :: bs0) w0 ((w.drew.setCell ⟨d, j, none⟩ (.int .u64 (ge A r k : Nat))).setCell ⟨d, k, none⟩ (.int .u64 (ge A r j : Nat))) := by
  have o : Onl d w ((w.drew.setCell ⟨d, j, none⟩ (.int .u64 (ge A r k : Nat))).setCell ⟨d, k, none⟩ (.int .u64 (ge A r j : Nat))) := ((Onl.refl d w).drew.setCell j _).setCell k _
  have ha := (((h.drew.row r d hr).set j (.int .u64 (ge A r k : Nat))).set k (.int .u64 (ge A r j : Nat)))
  rw [uc_set, uc_set] at ha
  exact ⟨h.setRow hr o (by rw [swp_length, h.cols r (h.ilt hr)]) ha, hw.trans (Wr.of_onl o (by simp [hd]))⟩
/-- what find has done -/
def Found (R : Nat) (bs : List Nat) (C : Nat) (A : List (List Nat)) (k x y : Nat) (w : World) (w' : World) : Prop :=
  ∃ bs', MU w' R bs' C (swC (swR A x k) y k) ∧ (∀ b ∈ bs', b ∈ bs) ∧ Wr (R :: bs) w w'
def exN (x y k : Nat) : Nat := (if x = k then 0 else 1) + (if y = k then 0 else 1)
set_option maxHeartbeats 2000000 in
set_option maxRecDepth 100000 in
theorem find_some (R : Nat) (bs : List Nat) (C : Nat) (A : List (List Nat)) (k x y : Nat) (w : World) (h : MU w R bs C A) (hA : A.length ≤ 1000) (hC : C ≤ 1000) (hk : k ≤ 1000) (hF : findF A k C = some (x, y)) :
    Calls Try.prog 81 #[.slice (some ⟨R, 0, none⟩) A.length A.length, .int .i64 (k : Nat)] w fun e w' => e = .returned (.tuple #[.int .i64 (exN x y k : Nat), .bool true]) ∧ Found R bs C A k x y w w' := by
  have HF := Lib.hid (show fdR A k C k (A.length - k) = some (x, y) from hF)
  clear hF
  go_enter Try.func81, Try.ntmps81
  go_wp2_with fail
  go_loopg [6, 7] (A.length + 1000 - k) (fun gk s6 s7 wr => ∃ i : Nat, k ≤ i ∧ gk = A.length + 1000 - i ∧ i ≤ 1000 ∧ s6 = .int .i64 (i : Int) ∧ Hid (fdR A k C i (A.length - i) = some (x, y)) ∧ w = wr)
  case atStart => exact ⟨k, Nat.le_refl _, rfl, hk, rfl, HF, rfl⟩
  case round =>
    clear HF
    obtain ⟨i, hki, rfl, hi1, rfl, HF, rfl⟩ := hrel
    by_cases hlt : i < A.length
    · have z1 : (i : Int) < (A.length : Int) := by omega
      obtain ⟨b, hb, hbm⟩ := h.bl hlt
      have zc := h.cellR hb
      have HB := Lib.hid hb
      have HH := Lib.hid h
      have HS := Lib.hid (fdR_step (f := A.length - (i + 1)) (show fdR A k C i (A.length - (i + 1) + 1) = some (x, y) by rw [show A.length - (i + 1) + 1 = A.length - i by omega]; exact HF.out))
      clear hb h HF
      go_wp2_with fail
      go_loopg [7] (C + 1000 - k) (fun gk s7 wr => ∃ j : Nat, k ≤ j ∧ gk = C + 1000 - j ∧ j ≤ 1000 ∧ s7 = .int .i64 (j : Int) ∧ Hid (fdC (gr A i) j (C - j) = fdC (gr A i) k (C - k)) ∧ w = wr)
      case atStart => exact ⟨k, Nat.le_refl _, rfl, hk, rfl, Lib.hid rfl, rfl⟩
      case round =>
        obtain ⟨j, hkj, rfl, hj1, rfl, HJ, rfl⟩ := hrel
        by_cases hjt : j < C
        · have z2 : (j : Int) < (C : Int) := by omega
          have zd := HH.out.cell HB.out hjt
          by_cases h0 : ge A i j = 0
          · rw [h0] at zd
            have HJ2 := Lib.hid (show fdC (gr A i) (j + 1) (C - (j + 1)) = fdC (gr A i) k (C - k) by rw [← HJ.out, show C - j = C - (j + 1) + 1 by omega, fdC_miss h0])
            clear h0 HJ
            go_wp2_with fail
            go_roundg (C + 1000 - (j + 1))
            case measure => omega
            case rel => exact ⟨j + 1, by omega, rfl, by omega, by go_num, HJ2, rfl⟩
          · have HJ2 := Lib.hid (show fdC (gr A i) k (C - k) = some j by rw [← HJ.out, show C - j = C - (j + 1) + 1 by omega, fdC_hit h0])
            have HXY := Lib.hid (show x = i ∧ y = j by
              rcases HS.out with ⟨j', e1, e2, e3⟩ | ⟨e1, _⟩
              · rw [HJ2.out] at e1; injection e1 with e1; exact ⟨e2, e3.trans e1.symm⟩
              · rw [HJ2.out] at e1; cases e1)
            clear HJ HJ2 HS
            have z3 : ((ge A i j : Nat) : Int) ≠ 0 := by omega
            have z4 : (((ge A i j : Nat) : Int) == 0) = false := by simp; omega
            generalize ge A i j = v at *
            clear h0
            go_upto_if 38 with fail
            have HR := Lib.hid (show (k < A.length) by omega)
            obtain ⟨c, hc', hcm⟩ := HH.out.bl HR.out
            have zk := HH.out.cellR hc'
            have zf := HH.out.outer.frozen
            have HC' := Lib.hid hc'
            clear hc'
            go_cut [8] (fun s8 wx => s8 = .int .i64 ((if i = k then 0 else 1 : Nat) : Int) ∧ ∃ bs1, MU wx R bs1 C (swR A i k) ∧ (∀ x ∈ bs1, x ∈ bs) ∧ Wr (R :: bs) w wx)
            case first =>
              by_cases e : i = k
              · have z5 : ((i : Int) != (k : Int)) = false := by simp; omega
                have E := Lib.hid e
                clear e
                go_wp2_with fail
                go_meet
                exact ⟨by rw [if_pos E.out]; rfl, bs, by rw [E.out, swR_self]; exact HH.out, fun _ h => h, Wr.refl _ _⟩
              · have z5 : ((i : Int) != (k : Int)) = true := by simp; omega
                have z6 : (k : Int) < (A.length : Int) := by omega
                have z7 := zf i
                have z8 := zf k
                go_upto_region 10 with fail
                go_region
                go_wp2_with fail
                go_meet
                have hS := swap_all HH.out HB.out HC'.out
                exact ⟨by rw [if_neg e]; rfl, _, hS.1, hS.2.1, hS.2.2⟩
            case rest =>
              clear zc zd zk zf
              obtain ⟨rfl, bs1, h1, hs1, hw1⟩ := hcut
              have hl1 : (swR A i k).length = A.length := swR_length _ _ _
              have HL := Lib.hid hl1
              have HH1 := Lib.hid h1
              have HX := Lib.hid hs1
              clear h1 hl1 hs1
              obtain ⟨ex1, hex1⟩ : ∃ n : Nat, n = (if i = k then 0 else 1) := ⟨_, rfl⟩
              have hex : ex1 ≤ 1 := by rw [hex1]; split <;> omega
              rw [← hex1]
              have HE1 := Lib.hid hex1
              clear hex1
              by_cases e : j = k
              · have z5 : ((j : Int) != (k : Int)) = false := by simp; omega
                have E := Lib.hid e
                clear e
                go_wp2_with fail
                go_ret2
                obtain ⟨rfl, rfl⟩ := HXY.out
                refine ⟨?_, bs1, ?_, HX.out, hw1⟩
                · unfold exN; rw [if_pos E.out, ← HE1.out]; rfl
                · rw [E.out, swC_self]; exact HH1.out
              · have z5 : ((j : Int) != (k : Int)) = true := by simp; omega
                have E := Lib.hid e
                clear e
                have hkc : (k : Int) < (C : Int) := by omega
                have hkC : k < C := by omega
                have HXW := Lib.hid hw1
                clear hw1
                go_wp2_with fail
                go_loopg [10, 60] A.length (fun gk s10 s60 wr => ∃ r : Nat, r ≤ A.length ∧ gk = A.length - r ∧ s60 = .int .i64 (r : Int) ∧ MU wr R bs1 C (updR (swR A i k) 0 r (swp j k)) ∧ Wr (R :: bs) w wr)
                case atStart => exact ⟨0, Nat.zero_le _, rfl, rfl, by rw [updR_start]; exact HH1.out, HXW.out⟩
                case round =>
                  clear HXW HH1 HH
                  obtain ⟨r, hr, rfl, rfl, hm, hw⟩ := hrel
                  obtain ⟨wo, rfl⟩ : ∃ wo : World, wo = wr := ⟨_, rfl⟩
                  by_cases hrt : r < A.length
                  · have z6 : (r : Int) < (A.length : Int) := by omega
                    obtain ⟨d, hd', hdm⟩ := hm.bl (i := r) (by rw [updR_length, HL.out]; exact hrt)
                    have zr := hm.cellR hd'
                    have zj := hm.cell hd' hjt
                    have zk := hm.cell hd' hkC
                    have zf1 := (hm.row r d hd').frozen j
                    have zf2 := (hm.row r d hd').frozen k
                    have HM := Lib.hid (swap_row hm hd' hjt hkC (HX.out d hdm) hw)
                    rw [gr_updR_at, updR_step (Nat.zero_le _) (by rw [HL.out]; exact hrt)] at HM
                    unfold ge at zj zk HM
                    rw [gr_updR_at] at zj zk HM
                    generalize gn (gr (swR A i k) r) j = v1 at *
                    generalize gn (gr (swR A i k) r) k = v2 at *
                    clear hm hw hd'
                    have z7 : ¬ (k = j) := fun q => E.out q.symm
                    go_upto_region 16 with fail
                    go_region
                    go_wp2_with fail
                    go_roundg (A.length - (r + 1))
                    case measure => omega
                    case rel => exact ⟨r + 1, by omega, rfl, by go_num, HM.out.1, HM.out.2⟩
                  · have z6 : ¬ ((r : Int) < (A.length : Int)) := by omega
                    have hrn : r = A.length := by omega
                    subst hrn
                    go_wp2_with fail
                    go_ret2
                    obtain ⟨rfl, rfl⟩ := HXY.out
                    refine ⟨?_, bs1, ?_, HX.out, hw⟩
                    · unfold exN; rw [if_neg E.out, ← HE1.out]; rfl
                    · unfold swC; rw [HL.out]; exact hm
        · have z2 : ¬ ((j : Int) < (C : Int)) := by omega
          have HF2 := Lib.hid (show fdR A k C (i + 1) (A.length - (i + 1)) = some (x, y) by
            rcases HS.out with ⟨j', e1, _, _⟩ | ⟨_, e2⟩
            · rw [← HJ.out, show C - j = 0 by omega] at e1; cases e1
            · exact e2)
          go_wp2_with fail
          go_roundg (A.length + 1000 - (i + 1))
          case measure => omega
          case rel => exact ⟨i + 1, by omega, rfl, by omega, by go_num, HF2, rfl⟩
    · exfalso
      have e1 := HF.out
      rw [show A.length - i = 0 by omega] at e1
      cases e1
end Go.Proofs.Ytcjaloddgilnpaa
