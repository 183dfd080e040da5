/- Polynomials as lists of integers; the determinant of a matrix of polynomials (plain). -/
/- 2^61 - 1 is prime: Pocklington's test; the order of an element modulo a divisor by the pigeonhole principle. -/
/- Fermat's little theorem; the primes of the fields are prime (plain). -/
/- polymatrix.field.det returns the determinant (plain). -/
import Derived.Test.YtbkgpfalljgdcaaGreatDoorZDeu
import Derived.Test.YtbkgpfalljgdcaaGreatDoorZDia
import Derived.Test.YtbkgpfalljgdcaaGreatDoorZMdt
namespace Go.Proofs.YtbkgpfalljgdcaaGreatDoor
set_option linter.unusedVariables false

/-- the value -/
def ev : List Int → Int → Int
  | [], _ => 0
  | a :: L, x => a + x * ev L x
def ladd : List Int → List Int → List Int
  | [], b => b
  | x :: a, [] => x :: a
  | x :: a, y :: b => (x + y) :: ladd a b
def lscl (c : Int) (b : List Int) : List Int := b.map (c * ·)
def lmul : List Int → List Int → List Int
  | [], _ => []
  | x :: a, b => ladd (lscl x b) (0 :: lmul a b)
def nrm : List Int → Nat
  | [] => 0
  | a :: L => a.natAbs + nrm L
theorem ev_ladd (x : Int) : ∀ a b : List Int, ev (ladd a b) x = ev a x + ev b x
  | [], b => by simp [ladd, ev]
  | y :: a, [] => by simp [ladd, ev]
  | y :: a, z :: b => by
    have := ev_ladd x a b
    simp only [ladd, ev]
    rw [this]; grind
theorem ev_lscl (x c : Int) : ∀ b : List Int, ev (lscl c b) x = c * ev b x
  | [] => by simp [lscl, ev]
  | y :: b => by
    have := ev_lscl x c b
    simp only [lscl] at this
    simp only [lscl, List.map_cons, ev]
    rw [this]; grind
theorem ev_lmul (x : Int) : ∀ a b : List Int, ev (lmul a b) x = ev a x * ev b x
  | [], b => by simp [lmul, ev]
  | y :: a, b => by
    have := ev_lmul x a b
    simp only [lmul, ev_ladd, ev_lscl, ev]
    rw [this]; grind
theorem ladd_length : ∀ {a b : List Int} {d : Nat}, a.length ≤ d → b.length ≤ d → (ladd a b).length ≤ d
  | [], b, d, h, k => k
  | y :: a, [], d, h, k => h
  | y :: a, z :: b, d, h, k => by
    simp only [ladd, List.length_cons] at *
    have := ladd_length (a := a) (b := b) (d := d - 1) (by omega) (by omega)
    omega
theorem lscl_length (c : Int) (b : List Int) : (lscl c b).length = b.length := by simp [lscl]
theorem lmul_length : ∀ {a b : List Int} {da db : Nat}, a.length ≤ da + 1 → b.length ≤ db + 1 → (lmul a b).length ≤ da + db + 1
  | [], b, da, db, h, k => by simp [lmul]
  | [y], b, da, db, h, k => by
    simp only [lmul]
    exact ladd_length (by rw [lscl_length]; omega) (by simp)
  | y :: z :: a, b, da, db, h, k => by
    rw [lmul]
    simp only [List.length_cons] at h
    have := lmul_length (a := z :: a) (b := b) (da := da - 1) (db := db) (by simp only [List.length_cons]; omega) k
    refine ladd_length (by rw [lscl_length]; omega) (by simp only [List.length_cons]; omega)
theorem nrm_ladd : ∀ a b : List Int, nrm (ladd a b) ≤ nrm a + nrm b
  | [], b => by simp [ladd]
  | y :: a, [] => by simp [ladd]
  | y :: a, z :: b => by
    have := nrm_ladd a b
    simp only [ladd, nrm]
    omega
theorem nrm_lscl (c : Int) : ∀ b : List Int, nrm (lscl c b) = c.natAbs * nrm b
  | [] => by simp [lscl, nrm]
  | y :: b => by
    have := nrm_lscl c b
    simp only [lscl] at this
    simp only [lscl, List.map_cons, nrm, this, Int.natAbs_mul, Nat.mul_add]
theorem nrm_lmul : ∀ a b : List Int, nrm (lmul a b) ≤ nrm a * nrm b
  | [], b => by simp [lmul, nrm]
  | y :: a, b => by
    have h1 := nrm_lmul a b
    have h2 := nrm_ladd (lscl y b) (0 :: lmul a b)
    rw [nrm_lscl] at h2
    simp only [nrm] at h2 ⊢
    rw [lmul, Nat.add_mul]
    simp at h2
    omega
/-- a coefficient is at most the sum of all -/
theorem nrm_get : ∀ (L : List Int) (k : Nat), (L[k]?.getD 0).natAbs ≤ nrm L
  | [], k => by simp
  | a :: L, 0 => by simp [nrm]
  | a :: L, k + 1 => by
    have := nrm_get L k
    simp only [List.getElem?_cons_succ, nrm]
    omega
theorem ev_bound (x : Int) (hx : 1 ≤ x) : ∀ L : List Int, (∀ y : Int, x ≤ y → ev L y = 0) → ∀ k : Nat, L[k]?.getD 0 = 0
  | [], _, k => by simp
  | a :: L, h, k => by
    have ha : a = 0 := by
      have h1 := h (x + a.natAbs) (by omega)
      simp only [ev] at h1
      have hd : (x + (a.natAbs : Int)) ∣ a := ⟨- ev L (x + a.natAbs), by grind⟩
      by_cases h0 : a = 0
      · exact h0
      · have := Int.natAbs_dvd_natAbs.2 hd
        have := Nat.le_of_dvd (by omega) this
        omega
    have hr := ev_bound x hx L (fun y hy => by
      have h1 := h y hy
      simp only [ev] at h1
      rw [ha, Int.zero_add] at h1
      rcases Int.mul_eq_zero.1 h1 with q | q
      · omega
      · exact q)
    cases k with
    | zero => simpa using ha
    | succ k => simpa using hr k
theorem ev_sub (x : Int) : ∀ a b : List Int, ev (ladd a (lscl (-1) b)) x = ev a x - ev b x := by
  intro a b
  rw [ev_ladd, ev_lscl]; omega
theorem ladd_get : ∀ (a b : List Int) (k : Nat), (ladd a b)[k]?.getD 0 = a[k]?.getD 0 + b[k]?.getD 0
  | [], b, k => by simp [ladd]
  | y :: a, [], k => by simp [ladd]
  | y :: a, z :: b, 0 => by simp [ladd]
  | y :: a, z :: b, k + 1 => by
    have := ladd_get a b k
    simpa [ladd] using this
theorem lscl_get (c : Int) (b : List Int) (k : Nat) : (lscl c b)[k]?.getD 0 = c * b[k]?.getD 0 := by
  unfold lscl
  rw [List.getElem?_map]
  cases b[k]? <;> simp
/-- lists with the same values have the same coefficients -/
theorem ev_ext {a b : List Int} (x : Int) (h : ∀ y, x ≤ y → ev a y = ev b y) (k : Nat) : a[k]?.getD 0 = b[k]?.getD 0 := by
  have h1 := ev_bound (max x 1) (by omega) (ladd a (lscl (-1) b)) (fun y hy => by rw [ev_sub, h y (by omega)]; omega) k
  rw [ladd_get, lscl_get] at h1
  omega
/-- the value by the coefficients -/
theorem ev_sum (x : Int) : ∀ (L : List Int) (n : Nat), L.length ≤ n → ev L x = sumI n (fun k => L[k]?.getD 0 * x ^ k)
  | [], n, _ => by
    have : sumI n (fun k => ([] : List Int)[k]?.getD 0 * x ^ k) = sumI n (fun _ => 0) := sumI_congr (fun l _ => by simp)
    rw [this, sumI_zero]; rfl
  | a :: L, n, h => by
    cases n with
    | zero => simp at h
    | succ n =>
      have ih := ev_sum x L n (by simpa using h)
      have : ∀ m, sumI (m + 1) (fun k => (a :: L)[k]?.getD 0 * x ^ k) = a + x * sumI m (fun k => L[k]?.getD 0 * x ^ k) := by
        intro m
        induction m with
        | zero => simp [sumI]
        | succ m ihm =>
          rw [sumI, ihm, sumI]
          simp only [List.getElem?_cons_succ, Int.pow_succ]
          grind
      rw [this, ← ih]; rfl
/-- the sum of lists -/
def lsum : Nat → (Nat → List Int) → List Int
  | 0, _ => []
  | n + 1, f => ladd (lsum n f) (f n)
theorem ev_lsum (x : Int) (n : Nat) (f : Nat → List Int) : ev (lsum n f) x = sumI n (fun k => ev (f k) x) := by
  induction n with
  | zero => rfl
  | succ n ih => rw [lsum, ev_ladd, ih, sumI]
theorem lsum_length {n d : Nat} {f : Nat → List Int} (h : ∀ k, k < n → (f k).length ≤ d) : (lsum n f).length ≤ d := by
  induction n with
  | zero => simp [lsum]
  | succ n ih => exact ladd_length (ih fun k hk => h k (by omega)) (h n (by omega))
theorem nrm_lsum (n : Nat) (f : Nat → List Int) : nrm (lsum n f) ≤ sumN n (fun k => nrm (f k)) := by
  induction n with
  | zero => simp [lsum, nrm, sumN]
  | succ n ih => rw [lsum, sumN]; have := nrm_ladd (lsum n f) (f n); omega
/-- the determinant of a matrix of polynomials -/
def dtL : List Nat → (Nat → Nat → List Int) → List Int
  | [], _ => [1]
  | j :: J, f => lsum (J.length + 1) (fun k => lscl (sgn k) (lmul (f k j) (dtL J (fun l => f (skp k l)))))
theorem ev_dtL (x : Int) : ∀ (J : List Nat) (f : Nat → Nat → List Int), ev (dtL J f) x = dt J (fun l j => ev (f l j) x)
  | [], f => by simp [dtL, dt, ev]
  | j :: J, f => by
    rw [dtL, ev_lsum, dt]
    refine sumI_congr (fun k _ => ?_)
    rw [ev_lscl, ev_lmul, ev_dtL x J, Int.mul_assoc]
/-- bounds of degrees add up -/
theorem dtL_length : ∀ (J : List Nat) (f : Nat → Nat → List Int) (d : Nat → Nat), (∀ l, l < J.length → ∀ j ∈ J, (f l j).length ≤ d l + 1) → (dtL J f).length ≤ sumN J.length d + 1
  | [], f, d, h => by simp [dtL, sumN]
  | j :: J, f, d, h => by
    rw [dtL]
    refine lsum_length (fun k hk => ?_)
    rw [lscl_length]
    have ih := dtL_length J (fun l => f (skp k l)) (fun l => d (skp k l)) (fun l hl i hi => h (skp k l) (by unfold skp; simp only [List.length_cons]; split <;> omega) i (List.mem_cons_of_mem _ hi))
    have h1 := lmul_length (h k (by simpa using hk) j (by simp)) ih
    refine Nat.le_trans h1 ?_
    have : sumN (J.length + 1) d = d k + sumN J.length (fun l => d (skp k l)) := by
      clear ih h1 h
      generalize J.length = n at *
      have : ∀ n k, k < n + 1 → sumN (n + 1) d = d k + sumN n (fun l => d (skp k l)) := by
        intro n
        induction n with
        | zero => intro k hk; have : k = 0 := by omega
                  subst this; simp [sumN]
        | succ n ih =>
          intro k hk
          rcases Nat.lt_or_ge k (n + 1) with q | q
          · rw [sumN, ih k q, sumN]
            simp only [skp, if_neg (show ¬ n < k by omega)]
            omega
          · have : k = n + 1 := by omega
            subst this
            rw [sumN]
            have : sumN (n + 1) (fun l => d (skp (n + 1) l)) = sumN (n + 1) d := sumN_congr (fun l hl => by simp only [skp, if_pos hl])
            rw [this]; omega
      exact this n k hk
    simp only [List.length_cons]
    omega
/-- the sums of the rows -/
def rsL (J : List Nat) (u : Nat → List Int) : Nat := (J.map fun j => nrm (u j)).sum
theorem nrm_dtL : ∀ (J : List Nat) (f : Nat → Nat → List Int), nrm (dtL J f) ≤ prodN J.length (fun l => rsL J (f l))
  | [], f => by simp [dtL, nrm, prodN]
  | j :: J, f => by
    rw [dtL]
    refine Nat.le_trans (nrm_lsum _ _) ?_
    refine Nat.le_trans (sumN_mono (g := fun k => nrm (f k j) * prodN J.length (fun l => rsL J (f (skp k l)))) (fun k _ => ?_)) ?_
    · rw [nrm_lscl]
      have h1 : (sgn k).natAbs = 1 := by unfold sgn; split <;> rfl
      rw [h1, Nat.one_mul]
      exact Nat.le_trans (nrm_lmul _ _) (Nat.mul_le_mul_left _ (nrm_dtL J _))
    · have := prod_skip J.length (fun k => nrm (f k j)) (fun k => rsL J (f k))
      simpa [rsL] using this
end Go.Proofs.YtbkgpfalljgdcaaGreatDoor

namespace Go.Proofs.YtbkgpfalljgdcaaGreatDoor
set_option linter.unusedVariables false

/-- a list without repetition of numbers below n has at most n elements -/
theorem nodup_le : ∀ (n : Nat) (l : List Nat), l.Nodup → (∀ x ∈ l, x < n) → l.length ≤ n
  | 0, l, _, h => by
    cases l with
    | nil => simp
    | cons a t => exact absurd (h a (by simp)) (by omega)
  | n + 1, l, hd, h => by
    have h1 := nodup_le n (l.erase n) (hd.erase n) (fun x hx => by
      have := (List.Nodup.mem_erase_iff hd).1 hx
      have := h x this.2
      omega)
    have : l.length ≤ (l.erase n).length + 1 := by
      by_cases hm : n ∈ l
      · have := List.length_erase_of_mem hm; omega
      · rw [List.erase_of_not_mem hm]; omega
    omega

/-- powers modulo r, by squaring: what the kernel reckons -/
def pmod (r a : Nat) : Nat → Nat → Nat
  | 0, _ => 1 % r
  | f + 1, e => if e = 0 then 1 % r else let h := pmod r (a * a % r) f (e / 2); if e % 2 = 1 then h * a % r else h
theorem pmod_eq (r : Nat) : ∀ (f a e : Nat), e < 2 ^ f → pmod r a f e = a ^ e % r
  | 0, a, e, h => by simp at h; subst h; simp [pmod]
  | f + 1, a, e, h => by
    have ih := pmod_eq r f (a * a % r) (e / 2) (by rw [Nat.pow_succ] at h; omega)
    simp only [pmod]
    split
    · subst e; simp
    · have h2 : (a * a % r) ^ (e / 2) % r = (a ^ (2 * (e / 2))) % r := by rw [← Nat.pow_mod, ← Nat.pow_two, ← Nat.pow_mul]
      rw [ih, h2]
      split
      · rename_i h1
        have : e = 2 * (e / 2) + 1 := by omega
        conv => rhs; rw [this, Nat.pow_succ]
        rw [Nat.mul_mod, Nat.mod_mod, ← Nat.mul_mod]
      · have : e = 2 * (e / 2) := by omega
        conv => rhs; rw [this]

/-- the order -/
theorem order_ex (a r n : Nat) (hn : 0 < n) (h : a ^ n % r = 1 % r) : ∃ k, 0 < k ∧ a ^ k % r = 1 % r ∧ ∀ j, 0 < j → j < k → a ^ j % r ≠ 1 % r := by
  induction n using Nat.strongRecOn with
  | _ n ih =>
    by_cases hx : ∃ j, 0 < j ∧ j < n ∧ a ^ j % r = 1 % r
    · obtain ⟨j, h1, h2, h3⟩ := hx
      exact ih j h2 h1 h3
    · exact ⟨n, hn, h, fun j h1 h2 h3 => hx ⟨j, h1, h2, h3⟩⟩
theorem pow_mod_mul (a r k m : Nat) (h : a ^ k % r = 1 % r) : a ^ (k * m) % r = 1 % r := by
  rw [Nat.pow_mul, Nat.pow_mod, h, ← Nat.pow_mod, Nat.one_pow]
theorem order_dvd {a r k : Nat} (h : a ^ k % r = 1 % r) (hm : ∀ j, 0 < j → j < k → a ^ j % r ≠ 1 % r) (hk : 0 < k) (n : Nat) (hn : a ^ n % r = 1 % r) : k ∣ n := by
  have e := Nat.div_add_mod n k
  have h1 : a ^ n % r = a ^ (n % k) % r := by
    conv => lhs; rw [← e, Nat.pow_add]
    rw [Nat.mul_mod, pow_mod_mul a r k _ h, ← Nat.mul_mod, Nat.one_mul]
  rcases Nat.eq_zero_or_pos (n % k) with h0 | h0
  · exact Nat.dvd_of_mod_eq_zero h0
  · exact absurd (h1.symm.trans hn) (hm _ h0 (Nat.mod_lt _ hk))
/-- a number that is coprime to all smaller ones -/
def Pr (q : Nat) : Prop := ∀ m, 0 < m → m < q → Nat.gcd m q = 1
theorem Pr.coprime {q : Nat} (h : Pr q) {m : Nat} (hm : m % q ≠ 0) (hq : 0 < q) : Nat.gcd m q = 1 := by
  have h1 := h (m % q) (by omega) (Nat.mod_lt _ hq)
  rw [Nat.gcd_comm, Nat.gcd_rec, h1]
theorem Pr.dvd {q : Nat} (h : Pr q) (hq : 0 < q) {k n : Nat} (hk : k ∣ n) (hn : ¬ k ∣ n / q) (hqn : q ∣ n) : q ∣ k := by
  obtain ⟨m, rfl⟩ := hk
  by_cases hm : m % q = 0
  · obtain ⟨t, rfl⟩ := Nat.dvd_of_mod_eq_zero hm
    exact absurd ⟨t, by rw [Nat.mul_left_comm, Nat.mul_div_cancel_left _ hq]⟩ hn
  · exact (Nat.Coprime.dvd_of_dvd_mul_right (Nat.coprime_comm.1 (h.coprime hm hq)) hqn)
theorem pow_inj {a r k : Nat} (h : a ^ k % r = 1 % r) (hm : ∀ j, 0 < j → j < k → a ^ j % r ≠ 1 % r) {i j : Nat} (hij : i < j) (hj : j < k) : a ^ i % r ≠ a ^ j % r := by
  intro e
  refine hm (j - i) (by omega) (by omega) ?_
  have h1 : a ^ (j - i) % r = a ^ (k * 1 + (j - i)) % r := by rw [Nat.pow_add, Nat.mul_mod, pow_mod_mul a r k 1 h, ← Nat.mul_mod, Nat.one_mul]
  have h2 : k * 1 + (j - i) = j + (k - i) := by omega
  rw [h1, h2, Nat.pow_add, Nat.mul_mod, ← e, ← Nat.mul_mod, ← Nat.pow_add]
  rw [show i + (k - i) = k by omega, h]
theorem order_le {a r k : Nat} (hr : 0 < r) (h : a ^ k % r = 1 % r) (hm : ∀ j, 0 < j → j < k → a ^ j % r ≠ 1 % r) : k ≤ r := by
  have := nodup_le r ((List.range k).map fun i => a ^ i % r) (by
    rw [List.nodup_iff_pairwise_ne, List.pairwise_map]
    have hp := @List.pairwise_lt_range k
    refine List.Pairwise.imp_of_mem ?_ hp
    intro i j _ hj hij
    exact pow_inj h hm hij (List.mem_range.1 hj)) (fun x hx => by
      obtain ⟨i, _, rfl⟩ := List.mem_map.1 hx
      exact Nat.mod_lt _ hr)
  simpa using this

/-- the prime of the elimination -/
def p61 : Nat := 2305843009213693951
def checkP (q : Nat) : Bool := (List.range q).all fun m => m == 0 || Nat.gcd m q == 1
theorem Pr_of_check {q : Nat} (h : checkP q = true) : Pr q := by
  intro m h0 h1
  have := List.all_eq_true.1 h m (List.mem_range.2 h1)
  simp only [Bool.or_eq_true, beq_iff_eq] at this
  omega
theorem not_one {r e : Nat} (hr : 1 < r) (hd : r ∣ p61) (he : e < 2 ^ 61) (hg : Nat.gcd (pmod p61 3 61 e - 1) p61 = 1) (h1 : 1 ≤ pmod p61 3 61 e) : 3 ^ e % r ≠ 1 % r := by
  intro h
  rw [pmod_eq p61 61 3 e he] at hg h1
  have h2 : 3 ^ e % p61 % r = 1 % r := by rw [Nat.mod_mod_of_dvd _ hd, h]
  have h3 : r ∣ 3 ^ e % p61 - 1 := by
    generalize 3 ^ e % p61 = y at *
    exact (Nat.dvd_iff_mod_eq_zero).2 (Nat.sub_mod_eq_zero_of_mod_eq h2)
  have := Nat.dvd_gcd h3 hd
  rw [hg] at this
  exact absurd (Nat.le_of_dvd (by omega) this) (by omega)
theorem prime_order {r k e q : Nat} (hr : 1 < r) (hd : r ∣ p61) (k1 : 3 ^ k % r = 1 % r) (hk : k ∣ e) (c1 : checkP q = true) (c2 : 0 < q) (c3 : q ∣ e) (c4 : e / q < 2 ^ 61)
    (c5 : Nat.gcd (pmod p61 3 61 (e / q) - 1) p61 = 1) (c6 : 1 ≤ pmod p61 3 61 (e / q)) : q ∣ k := by
  refine (Pr_of_check c1).dvd c2 hk ?_ c3
  rintro ⟨m, hm⟩
  refine not_one hr hd c4 c5 c6 ?_
  rw [hm]; exact pow_mod_mul 3 r k m k1
theorem order61 {r e : Nat} (hd : r ∣ p61) (he : e < 2 ^ 61) (h : pmod p61 3 61 e = 1) : 3 ^ e % r = 1 % r := by
  have := pmod_eq p61 61 3 e he
  rw [h] at this
  rw [← Nat.mod_mod_of_dvd _ hd, ← this]
theorem big_divisor {r : Nat} (hr : 1 < r) (hd : r ∣ p61) : 4027518961 ≤ r := by
  have main : ∀ e, e = 2305843009213693950 → 4027518961 ≤ r := by
    intro e he
    have h1 : 3 ^ e % r = 1 % r := order61 hd (by omega) (by rw [he]; decide +kernel)
    obtain ⟨k, k0, k1, k2⟩ := order_ex 3 r e (by omega) h1
    have hk := order_dvd k1 k2 k0 _ h1
    have a1 : 61 ∣ k := prime_order hr hd k1 hk (by decide +kernel) (by decide) (by rw [he]; decide +kernel) (by rw [he]; decide +kernel) (by rw [he]; decide +kernel) (by rw [he]; decide +kernel)
    have a2 : 151 ∣ k := prime_order hr hd k1 hk (by decide +kernel) (by decide) (by rw [he]; decide +kernel) (by rw [he]; decide +kernel) (by rw [he]; decide +kernel) (by rw [he]; decide +kernel)
    have a3 : 331 ∣ k := prime_order hr hd k1 hk (by decide +kernel) (by decide) (by rw [he]; decide +kernel) (by rw [he]; decide +kernel) (by rw [he]; decide +kernel) (by rw [he]; decide +kernel)
    have a4 : 1321 ∣ k := prime_order hr hd k1 hk (by decide +kernel) (by decide) (by rw [he]; decide +kernel) (by rw [he]; decide +kernel) (by rw [he]; decide +kernel) (by rw [he]; decide +kernel)
    have b1 : 61 * 151 ∣ k := Nat.Coprime.mul_dvd_of_dvd_of_dvd (by decide +kernel) a1 a2
    have b2 : 61 * 151 * 331 ∣ k := Nat.Coprime.mul_dvd_of_dvd_of_dvd (by decide +kernel) b1 a3
    have b3 : 61 * 151 * 331 * 1321 ∣ k := Nat.Coprime.mul_dvd_of_dvd_of_dvd (by decide +kernel) b2 a4
    have b4 := Nat.le_of_dvd k0 b3
    have b5 := order_le (Nat.lt_trans Nat.zero_lt_one hr) k1 k2
    exact Nat.le_trans (Nat.le_trans (by decide +kernel) b4) b5
  exact main _ rfl
theorem pr61 : Pr p61 := by
  intro m h0 h1
  have hd := Nat.gcd_dvd_right m p61
  have hm := Nat.gcd_dvd_left m p61
  have hle := Nat.le_of_dvd h0 hm
  generalize Nat.gcd m p61 = r at *
  obtain ⟨s, hs⟩ := hd
  rcases Nat.lt_or_ge 1 r with h2 | h2
  · have c1 := big_divisor h2 ⟨s, hs⟩
    have hs1 : 1 < s := by
      rcases Nat.lt_or_ge 1 s with h | h
      · exact h
      · have : r * s ≤ r * 1 := Nat.mul_le_mul_left r h
        omega
    have c2 := big_divisor hs1 ⟨r, by rw [Nat.mul_comm]; exact hs⟩
    have c3 := Nat.mul_le_mul c1 c2
    rw [← hs] at c3
    simp [p61] at c3
  · rcases Nat.eq_zero_or_pos r with h3 | h3
    · subst h3; simp [p61] at hs
    · omega
/-- no zero divisors -/
theorem p61_mul {a b : Nat} (ha : a % p61 ≠ 0) (hb : b % p61 ≠ 0) : a * b % p61 ≠ 0 := by
  intro h
  have h1 := Nat.dvd_of_mod_eq_zero h
  have h2 := pr61.coprime ha (by decide)
  exact hb (Nat.mod_eq_zero_of_dvd (Nat.Coprime.dvd_of_dvd_mul_left (Nat.coprime_comm.1 h2) h1))
end Go.Proofs.YtbkgpfalljgdcaaGreatDoor

namespace Go.Proofs.YtbkgpfalljgdcaaGreatDoor
set_option linter.unusedVariables false

def prG : List Nat → Nat
  | [] => 1
  | a :: l => a * prG l
theorem prG_perm {l k : List Nat} (h : l.Perm k) : prG l = prG k := by
  induction h with
  | nil => rfl
  | cons a _ ih => rw [prG, prG, ih]
  | swap a b l => rw [prG, prG, prG, prG, Nat.mul_left_comm]
  | trans _ _ h1 h2 => rw [h1, h2]
def facG : Nat → Nat
  | 0 => 1
  | n + 1 => (n + 1) * facG n
theorem nodup_facG : ∀ (n : Nat) (l : List Nat), l.Nodup → (∀ x ∈ l, 1 ≤ x ∧ x ≤ n) → l.length = n → prG l = facG n
  | 0, l, _, _, hl => by rw [List.eq_nil_of_length_eq_zero hl]; rfl
  | n + 1, l, hd, hb, hl => by
    have hm : n + 1 ∈ l := by
      by_cases q : n + 1 ∈ l
      · exact q
      · exfalso
        have h1 := nodup_le n (l.map (fun x => x - 1)) (by
          rw [List.Nodup, List.pairwise_map]
          exact hd.imp_of_mem (fun {a b} ha hb' hne he => hne (by have := hb a ha; have := hb b hb'; omega)))
          (fun x hx => by
            obtain ⟨y, hy, rfl⟩ := List.mem_map.1 hx
            have := hb y hy
            have : y ≠ n + 1 := fun e => q (e ▸ hy)
            omega)
        rw [List.length_map] at h1
        omega
    rw [prG_perm (List.perm_cons_erase hm), prG, facG]
    rw [nodup_facG n (l.erase (n + 1)) (hd.erase _) (fun x hx => by
      have h2 := (List.Nodup.mem_erase_iff hd).1 hx
      have := hb x h2.2
      omega) (by rw [List.length_erase_of_mem hm]; omega)]
/-- no zero divisors -/
theorem Pr.mul {q a b : Nat} (h : Pr q) (hq : 0 < q) (ha : a % q ≠ 0) (hb : b % q ≠ 0) : a * b % q ≠ 0 := by
  intro e
  have h1 := Nat.dvd_of_mod_eq_zero e
  have h2 := h.coprime ha hq
  exact hb (Nat.mod_eq_zero_of_dvd (Nat.Coprime.dvd_of_dvd_mul_left (Nat.coprime_comm.1 h2) h1))
theorem facG_ne {q : Nat} (hq : Pr q) (h1 : 1 < q) : ∀ n, n < q → facG n % q ≠ 0
  | 0, _ => by rw [facG, Nat.mod_eq_of_lt h1]; omega
  | n + 1, h => by
    rw [facG]
    exact hq.mul (by omega) (by rw [Nat.mod_eq_of_lt h]; omega) (facG_ne hq h1 n (by omega))
theorem Pr.cancel0 {q a b c : Nat} (hq : Pr q) (h0 : 0 < q) (h : c % q ≠ 0) (hab : b ≤ a) (he : c * a % q = c * b % q) : a % q = b % q := by
  have h1 : (c * (a - b)) % q = 0 := by
    rw [Nat.mul_sub]
    exact Nat.sub_mod_eq_zero_of_mod_eq he
  have h3 : (a - b) % q = 0 := by
    by_cases z : (a - b) % q = 0
    · exact z
    · exact absurd h1 (hq.mul h0 h z)
  have := Nat.div_add_mod (a - b) q
  rw [h3] at this
  rw [show a = b + q * ((a - b) / q) by omega, Nat.add_mul_mod_self_left]
theorem Pr.cancel {q a b c : Nat} (hq : Pr q) (h0 : 0 < q) (h : c % q ≠ 0) (he : c * a % q = c * b % q) : a % q = b % q := by
  rcases Nat.le_total b a with z | z
  · exact hq.cancel0 h0 h z he
  · exact (hq.cancel0 h0 h z he.symm).symm
theorem prG_mul {q a : Nat} : ∀ (l : List Nat), prG (l.map (fun x => a * x % q)) % q = a ^ l.length * prG l % q
  | [] => by simp [prG]
  | b :: l => by
    rw [List.map_cons, prG, prG, List.length_cons, Nat.pow_succ, Nat.mul_mod, Nat.mod_mod, prG_mul l, ← Nat.mul_mod]
    congr 1
    rw [Nat.mul_mul_mul_comm, Nat.mul_comm a (a ^ l.length), Nat.mul_comm b (prG l), Nat.mul_comm (prG l) b]
theorem fermatG {q a : Nat} (hq : Pr q) (hp : 1 < q) (h : a % q ≠ 0) : a ^ (q - 1) % q = 1 := by
  obtain ⟨P, hP⟩ : ∃ P, P = q - 1 := ⟨_, rfl⟩
  rw [← hP]
  have hrange : prG ((List.range P).map (· + 1)) = facG P := nodup_facG P _ (by
    rw [List.Nodup, List.pairwise_map]
    exact List.pairwise_lt_range.imp (fun hlt he => by omega)) (fun x hx => by
      obtain ⟨y, hy, rfl⟩ := List.mem_map.1 hx
      have := List.mem_range.1 hy
      omega) (by simp)
  have hmul : prG (((List.range P).map (· + 1)).map (fun x => a * x % q)) = facG P := nodup_facG P _ (by
    rw [List.Nodup, List.pairwise_map, List.pairwise_map]
    refine List.pairwise_lt_range.imp_of_mem (fun {i j} hi hj hlt he => ?_)
    have h1 := List.mem_range.1 hi
    have h2 := List.mem_range.1 hj
    have h3 := hq.cancel (by omega) h he
    rw [Nat.mod_eq_of_lt (by omega), Nat.mod_eq_of_lt (by omega)] at h3
    omega) (fun x hx => by
      obtain ⟨y, hy, rfl⟩ := List.mem_map.1 hx
      obtain ⟨z, hz, rfl⟩ := List.mem_map.1 hy
      have h1 := List.mem_range.1 hz
      have h2 := hq.mul (by omega) h (show (z + 1) % q ≠ 0 by rw [Nat.mod_eq_of_lt (by omega)]; omega)
      have h3 := Nat.mod_lt (a * (z + 1)) (show 0 < q by omega)
      omega) (by simp)
  have h4 := prG_mul (q := q) (a := a) ((List.range P).map (· + 1))
  rw [hmul, hrange] at h4
  simp only [List.length_map, List.length_range] at h4
  have h5 : facG P * 1 % q = facG P * a ^ P % q := by rw [Nat.mul_one, h4, Nat.mul_comm]
  have h6 := hq.cancel (by omega) (facG_ne hq hp P (by omega)) h5
  rw [← h6, Nat.mod_eq_of_lt hp]
theorem two_pow_of_dvd {k n : Nat} (h : k ∣ 2 ^ (n + 1)) (h2 : ¬ k ∣ 2 ^ n) : k = 2 ^ (n + 1) := by
  obtain ⟨m, hm⟩ := h
  rcases Nat.mod_two_eq_zero_or_one m with e | e
  · exfalso
    refine h2 ⟨m / 2, ?_⟩
    have : k * m = 2 * (k * (m / 2)) := by
      conv => lhs; rw [show m = 2 * (m / 2) by omega]
      rw [Nat.mul_left_comm]
    rw [Nat.pow_succ] at hm
    omega
  · have h3 : Nat.Coprime m 2 := by
      unfold Nat.Coprime
      rw [Nat.gcd_comm, Nat.gcd_rec, e]; rfl
    have h4 : Nat.Coprime m (2 ^ (n + 1)) := Nat.Coprime.pow_right _ h3
    have h5 : m = 1 := Nat.Coprime.eq_one_of_dvd h4 ⟨k, by rw [Nat.mul_comm]; exact hm⟩
    rw [hm, h5, Nat.mul_one]
/-- the least divisor above 1 -/
theorem least_div (p : Nat) (hp : 1 < p) : ∃ d, 1 < d ∧ d ∣ p ∧ ∀ e, 1 < e → e ∣ p → d ≤ e := by
  have : ∀ n, (∃ d, 1 < d ∧ d ∣ p ∧ d ≤ n) → ∃ d, 1 < d ∧ d ∣ p ∧ ∀ e, 1 < e → e ∣ p → d ≤ e := by
    intro n
    induction n with
    | zero => rintro ⟨d, h1, _, h2⟩; omega
    | succ n ih =>
      rintro ⟨d, h1, h2, h3⟩
      by_cases q : ∃ e, 1 < e ∧ e ∣ p ∧ e < d
      · obtain ⟨e, e1, e2, e3⟩ := q
        exact ih ⟨e, e1, e2, by omega⟩
      · refine ⟨d, h1, h2, fun e e1 e2 => ?_⟩
        rcases Nat.lt_or_ge e d with z | z
        · exact absurd ⟨e, e1, e2, z⟩ q
        · exact z
  exact this p ⟨p, hp, Nat.dvd_refl _, Nat.le_refl _⟩
/-- a number with an element of order 2^17 is prime if no small number of the form 1 + j 2^17 divides it -/
theorem prime_of {p r B E : Nat} (hE : E = 65536) (h1 : 2 < p) (hodd : p % 2 = 1) (hr : r ^ E % p = p - 1) (hc : ∀ j, 1 ≤ j → j ≤ B → p % (1 + j * 131072) ≠ 0) (hB : p < (1 + (B + 1) * 131072) * (1 + (B + 1) * 131072)) : Pr p := by
  intro m hm0 hm
  rcases Nat.lt_or_ge (Nat.gcd m p) 2 with q | q
  · have := Nat.gcd_pos_of_pos_left p hm0
    omega
  exfalso
  obtain ⟨d, d1, d2, d3⟩ := least_div p (by omega)
  have hg := d3 _ (show 1 < Nat.gcd m p by omega) (Nat.gcd_dvd_right m p)
  have hle := Nat.le_of_dvd hm0 (Nat.gcd_dvd_left m p)
  obtain ⟨s, hs⟩ := Nat.gcd_dvd_right m p
  have hs1 : 1 < s := by
    rcases Nat.lt_or_ge 1 s with z | z
    · exact z
    · have : Nat.gcd m p * s ≤ Nat.gcd m p * 1 := Nat.mul_le_mul_left _ z
      omega
  have hg2 := d3 s hs1 ⟨Nat.gcd m p, by rw [Nat.mul_comm]; exact hs⟩
  have hdd : d * d ≤ p := by rw [hs]; exact Nat.mul_le_mul hg hg2
  have hdP : Pr d := by
    intro m' h0 h2
    rcases Nat.lt_or_ge (Nat.gcd m' d) 2 with z | z
    · have := Nat.gcd_pos_of_pos_left d h0
      omega
    · have := d3 _ (show 1 < Nat.gcd m' d by omega) (Nat.dvd_trans (Nat.gcd_dvd_right m' d) d2)
      have := Nat.le_of_dvd h0 (Nat.gcd_dvd_left m' d)
      omega
  have hd2 : d ≠ 2 := by
    intro e
    rw [e] at d2
    have := Nat.mod_eq_zero_of_dvd d2
    omega
  have hm1 : r ^ E % d = d - 1 := by
    have hmm : r ^ E % d = (r ^ E % p) % d := (Nat.mod_mod_of_dvd _ d2).symm
    rw [hmm, hr]
    obtain ⟨t, ht⟩ := d2
    have ht0 : 0 < t := by
      rcases Nat.eq_zero_or_pos t with z | z
      · rw [z] at ht; omega
      · exact z
    have : p - 1 = (d - 1) + d * (t - 1) := by
      rw [Nat.mul_sub, Nat.mul_one, ← ht]
      have : d ≤ p := Nat.le_trans (Nat.le_mul_of_pos_right d (by omega)) hdd
      omega
    rw [this, Nat.add_mul_mod_self_left, Nat.mod_eq_of_lt (by omega)]
  have hr0 : r % d ≠ 0 := by
    intro e
    rw [Nat.pow_mod, e, Nat.zero_pow (by omega), Nat.zero_mod] at hm1
    omega
  have hF := fermatG hdP d1 hr0
  have h17 : r ^ (E + E) % d = 1 % d := by
    rw [Nat.pow_add, Nat.mul_mod, hm1]
    have : (d - 1) * (d - 1) = 1 + d * (d - 2) := by
      obtain ⟨e, rfl⟩ : ∃ e, d = e + 2 := ⟨d - 2, by omega⟩
      simp only [Nat.add_sub_cancel]
      rw [show e + 2 - 1 = e + 1 by omega]
      grind
    rw [this, Nat.add_mul_mod_self_left]
  obtain ⟨k, k0, k1, k2⟩ := order_ex r d (E + E) (by omega) h17
  have c1 : k ∣ 2 ^ (16 + 1) := by
    have := order_dvd k1 k2 k0 _ h17
    rw [hE] at this; exact this
  have c2 : ¬ k ∣ 2 ^ 16 := by
    rintro ⟨t, ht⟩
    have := pow_mod_mul r d k t k1
    rw [← ht, show 2 ^ 16 = E from hE.symm, hm1, Nat.mod_eq_of_lt d1] at this
    omega
  have c3 := two_pow_of_dvd c1 c2
  have c4 : k ∣ d - 1 := order_dvd k1 k2 k0 _ (by rw [hF, Nat.mod_eq_of_lt d1])
  rw [c3] at c4
  obtain ⟨j, hj⟩ := c4
  have hj1 : d = 1 + j * 131072 := by omega
  have hjp : 1 ≤ j := by omega
  rcases Nat.lt_or_ge B j with z | z
  · have : (1 + (B + 1) * 131072) * (1 + (B + 1) * 131072) ≤ d * d := Nat.mul_le_mul (by omega) (by omega)
    omega
  · exact hc j hjp z (by rw [← hj1]; exact Nat.mod_eq_zero_of_dvd d2)
/-- the product of all 1 + j 2^17, lo <= j < lo + 2^d -/
def pr2 : Nat → Nat → Nat
  | 0, lo => 1 + lo * 131072
  | d + 1, lo => pr2 d lo * pr2 d (lo + 2 ^ d)
theorem pr2_dvd : ∀ (d lo j : Nat), j < 2 ^ d → (1 + (lo + j) * 131072) ∣ pr2 d lo
  | 0, lo, j, h => by have : j = 0 := by omega
                      subst this; exact Nat.dvd_refl _
  | d + 1, lo, j, h => by
    rw [Nat.pow_succ] at h
    rw [pr2]
    rcases Nat.lt_or_ge j (2 ^ d) with q | q
    · exact Nat.dvd_mul_right_of_dvd (pr2_dvd d lo j q) _
    · have := pr2_dvd d (lo + 2 ^ d) (j - 2 ^ d) (by omega)
      rw [show lo + 2 ^ d + (j - 2 ^ d) = lo + j by omega] at this
      exact Nat.dvd_mul_left_of_dvd this _
def prAll : Nat := fldT.foldr (fun t a => t.1 * a) 1
theorem prAll_dvd {t : Nat × Nat × Nat} : ∀ (L : List (Nat × Nat × Nat)), t ∈ L → t.1 ∣ L.foldr (fun t a => t.1 * a) 1
  | [], h => by simp at h
  | a :: L, h => by
    rcases List.mem_cons.1 h with e | e
    · rw [e]; exact Nat.dvd_mul_right _ _
    · exact Nat.dvd_mul_left_of_dvd (prAll_dvd L e) _
theorem fld_gcd : Nat.gcd (pr2 14 0) prAll = 1 := by decide +kernel
theorem fld_chk {t : Nat × Nat × Nat} (ht : t ∈ fldT) {j : Nat} (h1 : 1 ≤ j) (h2 : j < 16384) : t.1 % (1 + j * 131072) ≠ 0 := by
  intro e
  have d1 := Nat.dvd_of_mod_eq_zero e
  have d2 := pr2_dvd 14 0 j h2
  rw [Nat.zero_add] at d2
  have d3 := Nat.dvd_gcd d2 (Nat.dvd_trans d1 (prAll_dvd fldT ht))
  rw [show fldT.foldr (fun t a => t.1 * a) 1 = prAll from rfl, fld_gcd] at d3
  have := Nat.le_of_dvd (by omega) d3
  omega
theorem fld_odd : (fldT.all fun t => t.1 % 2 == 1 && decide (2 < t.1) && decide (t.1 < (1 + (11586 + 1) * 131072) * (1 + (11586 + 1) * 131072)) && decide (1152921504606846976 < t.1) && decide (t.1 < 2305843009213693952)) = true := by decide +kernel
/-- what is known of a field -/
structure Fld (p rt : Nat) : Prop where
  pr : Pr p
  big : 1152921504606846976 < p
  lt : p < 2305843009213693952
  root : ∀ E, E = 65536 → rt ^ E % p = p - 1
theorem fldL_fld {k : Nat} (hk : k < fldL.length) : Fld fldL[k].1 fldL[k].2 := by
  have hk' : k < fldT.length := by simpa [fldL] using hk
  suffices hS : Fld fldT[k].1 fldT[k].2.1 by simpa [fldL] using hS
  have h1 := fun j => @fld_chk _ (List.getElem_mem hk') j
  have h2 := List.all_eq_true.1 fld_odd _ (List.getElem_mem hk')
  have h3 := List.all_eq_true.1 fld_root _ (List.getElem_mem hk')
  generalize fldT[k] = t at *
  obtain ⟨p, r, b⟩ := t
  simp only [Bool.and_eq_true, beq_iff_eq, decide_eq_true_eq] at h2 h3
  obtain ⟨⟨⟨⟨o1, o2⟩, o3⟩, o4⟩, o5⟩ := h2
  obtain ⟨⟨q1, q2⟩, _⟩ := h3
  unfold rtOk at q2
  rw [q1, beq_iff_eq] at q2
  have q3 : ∀ E, E = 65536 → r ^ E % p = p - 1 := fun E hE => by
    rw [← hE] at q2
    rw [← pwm_eq (by omega) (by omega)]; exact q2
  obtain ⟨E, hE⟩ : ∃ E, E = 65536 := ⟨_, rfl⟩
  exact ⟨prime_of hE o2 o1 (q3 E hE) (fun j j1 j2 => h1 j j1 (by omega)) o3, o4, o5, q3⟩
end Go.Proofs.YtbkgpfalljgdcaaGreatDoor

namespace Go.Proofs.YtbkgpfalljgdcaaGreatDoor
set_option linter.unusedVariables false

/-- alike modulo p -/
def Md (p a b : Int) : Prop := p ∣ a - b
section
variable {p a b c d : Int}
theorem Md.refl (p a : Int) : Md p a a := ⟨0, by omega⟩
theorem Md.of_eq (h : a = b) : Md p a b := h ▸ Md.refl p a
theorem Md.symm (h : Md p a b) : Md p b a := by obtain ⟨x, h⟩ := h; exact ⟨-x, by grind⟩
theorem Md.trans (h : Md p a b) (k : Md p b c) : Md p a c := by obtain ⟨x, h⟩ := h; obtain ⟨y, k⟩ := k; exact ⟨x + y, by grind⟩
theorem Md.add (h : Md p a b) (k : Md p c d) : Md p (a + c) (b + d) := by obtain ⟨x, h⟩ := h; obtain ⟨y, k⟩ := k; exact ⟨x + y, by grind⟩
theorem Md.sub (h : Md p a b) (k : Md p c d) : Md p (a - c) (b - d) := by obtain ⟨x, h⟩ := h; obtain ⟨y, k⟩ := k; exact ⟨x - y, by grind⟩
theorem Md.neg (h : Md p a b) : Md p (-a) (-b) := by obtain ⟨x, h⟩ := h; exact ⟨-x, by grind⟩
theorem Md.mul (h : Md p a b) (k : Md p c d) : Md p (a * c) (b * d) := by obtain ⟨x, h⟩ := h; obtain ⟨y, k⟩ := k; exact ⟨x * c + b * y, by grind⟩
theorem Md.pow (h : Md p a b) (n : Nat) : Md p (a ^ n) (b ^ n) := by
  induction n with
  | zero => rw [Int.pow_zero, Int.pow_zero]; exact Md.refl _ _
  | succ n ih => rw [Int.pow_succ, Int.pow_succ]; exact ih.mul h
theorem Md.zero : Md p a 0 ↔ p ∣ a := by unfold Md; rw [Int.sub_zero]
end
theorem Md.mod (p a : Nat) : Md p ((a % p : Nat) : Int) (a : Int) := by
  refine ⟨-((a / p : Nat) : Int), ?_⟩
  have := Nat.div_add_mod a p
  have h : ((p * (a / p) + a % p : Nat) : Int) = (a : Int) := by rw [this]
  rw [Int.natCast_add, Int.natCast_mul] at h
  grind
theorem Md.addF {p a b : Nat} : Md p ((addF p a b : Nat) : Int) (a + b) := by
  unfold Go.Proofs.YtbkgpfalljgdcaaGreatDoor.addF
  split
  · exact ⟨-1, by omega⟩
  · exact ⟨0, by omega⟩
theorem Md.subF {p a b : Nat} (hb : b < p) : Md p ((subF p a b : Nat) : Int) ((a : Int) - b) := by
  unfold Go.Proofs.YtbkgpfalljgdcaaGreatDoor.subF
  split
  · exact ⟨1, by omega⟩
  · exact ⟨0, by omega⟩
theorem Md.ofF {p : Nat} {x : Int} (h : x.natAbs < p) : Md p ((ofF p x : Nat) : Int) x := by
  unfold Go.Proofs.YtbkgpfalljgdcaaGreatDoor.ofF
  split
  · exact ⟨1, by omega⟩
  · exact ⟨0, by omega⟩
theorem Md.mulm {p a b : Nat} {x y : Int} (h : Md p a x) (k : Md p b y) : Md p ((a * b % p : Nat) : Int) (x * y) := by
  refine (Md.mod p (a * b)).trans ?_
  rw [Int.natCast_mul]; exact h.mul k
/-- a number below p that is 0 modulo p -/
theorem Md.lt {p a : Nat} (h : a < p) (k : Md p a 0) : a = 0 := by
  have := Int.natCast_dvd_natCast.1 (Md.zero.1 k)
  exact Nat.eq_zero_of_dvd_of_lt this h
theorem Md.inj {p a b : Nat} (ha : a < p) (hb : b < p) (h : Md p a b) : a = b := by
  obtain ⟨x, hx⟩ := h
  have h1 : x < 1 := by
    rcases Int.lt_or_le x 1 with z | z
    · exact z
    · have : (p : Int) * 1 ≤ p * x := Int.mul_le_mul_of_nonneg_left z (by omega)
      omega
  have h2 : -1 < x := by
    rcases Int.lt_or_le (-1) x with z | z
    · exact z
    · have : (p : Int) * x ≤ p * (-1) := Int.mul_le_mul_of_nonneg_left z (by omega)
      omega
  have : x = 0 := by omega
  rw [this] at hx
  omega
theorem fInv_md {p a : Nat} (hp : Pr p) (h1 : 2 < p) (hl : p < 18446744073709551616) (ha : a % p ≠ 0) : Md p ((a : Int) * (fInv p a : Nat)) 1 := by
  have e : fInv p a = a ^ (p - 2) % p := by unfold fInv; rw [pwm_eq (by omega) (by omega)]
  have hf := fermatG hp (by omega) ha
  have h2 : a * fInv p a % p = 1 := by
    rw [e, Nat.mul_mod, Nat.mod_mod, ← Nat.mul_mod, Nat.mul_comm, ← Nat.pow_succ, show (p - 2).succ = p - 1 by omega]
    exact hf
  have := (Md.mod p (a * fInv p a)).symm
  rw [h2, Int.natCast_mul] at this
  exact this
/-- the first column is 0 below its first element -/
theorem dt_front {p : Int} {J : List Nat} {j : Nat} {f : Nat → Nat → Int} (h : ∀ l, 1 ≤ l → l < J.length + 1 → p ∣ f l j) : Md p (dt (j :: J) f) (f 0 j * dt J (fun l => f (l + 1))) := by
  rw [dt]
  have h1 := sumI_mod (m := p) (C := J.length + 1) (f := fun k => sgn k * f k j * dt J (fun l => f (skp k l))) (g := fun k => if k = 0 then f 0 j * dt J (fun l => f (l + 1)) else 0) (fun l hl => by
    by_cases e : l = 0
    · subst e
      simp only [if_pos]
      have e2 : (fun l => f (skp 0 l)) = fun l => f (l + 1) := by funext l; simp [skp]
      rw [e2, show sgn 0 = 1 from rfl, Int.one_mul]
      exact ⟨0, by omega⟩
    · simp only [if_neg e]
      obtain ⟨x, hx⟩ := h l (by omega) hl
      exact ⟨sgn l * x * dt J (fun i => f (skp l i)), by rw [hx]; grind⟩)
  have h2 := sumI_single (C := J.length + 1) (j := 0) (f := fun k => if k = 0 then f 0 j * dt J (fun l => f (l + 1)) else 0) (by omega) (fun l _ hne => by simp only [if_neg hne])
  rw [h2] at h1
  simpa [Md] using h1
theorem dt_col0 {p : Int} {J : List Nat} {j : Nat} {f : Nat → Nat → Int} (h : ∀ l, l < J.length + 1 → p ∣ f l j) : p ∣ dt (j :: J) f := by
  have h1 := dt_front (J := J) (f := f) (fun l _ hl => h l hl)
  obtain ⟨x, hx⟩ := h 0 (by omega)
  rw [hx] at h1
  obtain ⟨y, hy⟩ := h1
  exact ⟨y + x * dt J (fun l => f (l + 1)), by grind⟩
/-- two rows change places -/
theorem dt_swap {J : List Nat} {f : Nat → Nat → Int} {a b : Nat} (ha : a < J.length) (hb : b < J.length) (hab : a ≠ b) : dt J (fup (fup f a (f b)) b (f a)) = - dt J f := by
  have h1 := dt_addmul (J := J) (f := f) ha hb hab 1
  have h2 := dt_addmul (J := J) (f := fup f b (fun j => f b j + 1 * f a j)) hb ha (fun e => hab e.symm) (-1)
  have h3 := dt_addmul (J := J) (f := fup (fup f b (fun j => f b j + 1 * f a j)) a (fun j => fup f b (fun j => f b j + 1 * f a j) a j + (-1) * fup f b (fun j => f b j + 1 * f a j) b j)) ha hb hab 1
  rw [h2, h1] at h3
  rw [← h3]
  have h4 := dt_mul (J := J) (f := fup f b (f a)) (k := a) (f b) (-1) ha
  have h5 : fup (fup f a (f b)) b (f a) = fup (fup f b (f a)) a (f b) := fup_comm f hab _ _
  rw [h5]
  have h6 : dt J (fup (fup f b (f a)) a (f b)) = - dt J (fup (fup f b (f a)) a (fun j => -1 * f b j)) := by rw [h4]; omega
  rw [h6]
  congr 1
  refine dt_congr (fun l hl j _ => ?_)
  unfold fup
  by_cases e1 : l = a
  · subst e1
    simp [hab]
    omega
  · by_cases e2 : l = b
    · subst e2
      simp [e1, hab]
      omega
    · simp [e1, e2]
def rws (A : List (List Nat)) (k : Nat) : Nat → Nat → Int := fun l j => (ge A (k + l) j : Int)
theorem rws_swap {A : List (List Nat)} {k x n : Nat} (hA : A.length = n) (hk : k < n) (hx : x < n) (hkx : k ≤ x) : dt (List.range' k (n - k)) (rws (swR A x k) k) = if x = k then dt (List.range' k (n - k)) (rws A k) else - dt (List.range' k (n - k)) (rws A k) := by
  by_cases e : x = k
  · rw [if_pos e, e, swR_self]
  · rw [if_neg e, ← dt_swap (J := List.range' k (n - k)) (f := rws A k) (a := x - k) (b := 0) (by rw [List.length_range']; omega) (by rw [List.length_range']; omega) (by omega)]
    refine dt_congr (fun l hl j _ => ?_)
    rw [List.length_range'] at hl
    unfold rws ge
    rw [gr_swR (by omega) (by omega)]
    unfold fup
    by_cases e1 : l = 0
    · subst e1
      simp
      rw [show k + (x - k) = x by omega]
    · rw [if_neg (by omega), if_neg e1]
      by_cases e2 : l = x - k
      · rw [if_pos (by omega), if_pos e2]; simp
      · rw [if_neg (by omega), if_neg e2]
theorem ge_mdN {p n k i j : Nat} {A : List (List Nat)} (hA : A.length = n) (hc : Cl n A) (hi : k < i) (hin : i < n) (hj : k < j) (hjn : j < n) (hp : 0 < p) :
    Md p (ge (mdN p k A) i j : Nat) ((ge A i j : Int) - (ge A i k : Int) * (fInv p (ge A k k) : Nat) * (ge A k j : Int)) := by
  unfold mdN
  have h1 : ge (updR A (k + 1) A.length (mdR p k (fInv p (ge A k k)) (gr A k))) i j = gn (mdR p k (fInv p (ge A k k)) (gr A k) (gr A i)) j := by
    unfold ge
    rw [gr_updR (by omega), if_pos ⟨by omega, by omega⟩]
  rw [h1]
  have hl : (gr A i).length = n := hc i (by omega)
  generalize fInv p (ge A k k) = iv
  unfold mdR
  by_cases e : gn (gr A i) k = 0
  · rw [if_pos e]
    refine Md.of_eq ?_
    have : ge A i k = 0 := e
    rw [this]
    show (ge A i j : Int) = _
    simp
  · rw [if_neg e, gn_cmbF (by omega)]
    by_cases e2 : gn (gr A k) j = 0
    · rw [if_neg (fun h => h.2.2 e2)]
      refine Md.of_eq ?_
      have : ge A k j = 0 := e2
      rw [this]
      show (ge A i j : Int) = _
      simp
    · rw [if_pos ⟨hj, by omega, e2⟩]
      refine (Md.subF (Nat.mod_lt _ hp)).trans (Md.sub (Md.refl _ _) ?_)
      refine (Md.mod p _).trans ?_
      rw [Int.natCast_mul]
      refine Md.mul ?_ (Md.refl _ _)
      refine (Md.mod p _).trans ?_
      rw [Int.natCast_mul]
      exact Md.refl _ _
/-- det returns the determinant -/
theorem detG_dt {p n : Nat} (hp : Pr p) (h1 : 2 < p) (hl : p < 18446744073709551616) : ∀ (f : Nat) (A : List (List Nat)) (k d : Nat), A.length = n → Cl n A → Ltm p A → d < p → k + f = n → Md p (detG p f A k d : Nat) ((d : Int) * dt (List.range' k (n - k)) (rws A k))
  | 0, A, k, d, hA, hc, hlt, hd, hf => by
    rw [show n - k = 0 by omega]
    simp only [List.range'_zero, dt, detG]
    exact Md.of_eq (by omega)
  | f + 1, A, k, d, hA, hc, hlt, hd, hf => by
    obtain ⟨x, hx⟩ : ∃ x, x = pvF A k k (A.length - k) := ⟨_, rfl⟩
    have hr := pvF_range (A := A) (k := k) (A.length - k) k
    rw [← hx] at hr
    have eJ : List.range' k (n - k) = k :: List.range' (k + 1) (n - (k + 1)) := by
      rw [show n - k = (n - (k + 1)) + 1 by omega, List.range'_succ]
    by_cases hxn : x < A.length
    · rw [detG_some hx.symm hxn]
      have hpos := pvF_pos (A := A) (k := k) (A.length - k) k (by rw [← hx]; omega)
      rw [← hx] at hpos
      have hk : k < A.length := by omega
      obtain ⟨B, hB⟩ : ∃ B, B = swR A x k := ⟨_, rfl⟩
      have hBl : B.length = n := by rw [hB, swR_length]; exact hA
      have hBc : Cl n B := by rw [hB]; exact hc.swR hxn hk
      have hBt : Ltm p B := by rw [hB]; exact hlt.swR hxn hk
      have hBk : ge B k k = ge A x k := by rw [hB]; unfold ge; rw [gr_swR hxn hk, if_pos rfl]
      have hsw := rws_swap hA (by omega) (by omega) hr.1 (k := k) (x := x)
      rw [← hB] at hsw ⊢
      have hsw2 : dt (List.range' k (n - k)) (rws A k) = (if x = k then 1 else -1) * dt (List.range' k (n - k)) (rws B k) := by
        rw [hsw]; split <;> omega
      have hBk0 : ge B k k ≠ 0 := by rw [hBk]; exact hpos
      have ih := detG_dt hp h1 hl f (mdN p k B) (k + 1) (mdD p d (ge B k k) x k) (by rw [mdN_length]; exact hBl) (hBc.updR (fun r hr => by rw [mdR_length]; exact hr)) (hBt.updR hBc (by omega) (fun r _ hr j => mdR_lt (by omega) hr j)) (mdD_lt (by omega) _ _ _ _) (by omega)
      refine ih.trans ?_
      rw [hsw2]
      have hinv := fInv_md hp h1 hl (a := ge B k k) (by rw [Nat.mod_eq_of_lt (hBt k k)]; exact hBk0)
      -- the pivot's column is cleared
      have hmany := dt_many (J := List.range' k (n - k)) (f := rws B k) (a := 0) (by rw [List.length_range']; omega) (fun l => if l = 0 then 0 else -((ge B (k + l) k : Int) * (fInv p (ge B k k) : Nat))) rfl
      rw [← hmany, eJ]
      have hfr := dt_front (p := (p : Int)) (J := List.range' (k + 1) (n - (k + 1))) (j := k) (f := fun l j => rws B k l j + (if l = 0 then 0 else -((ge B (k + l) k : Int) * (fInv p (ge B k k) : Nat))) * rws B k 0 j) (fun l hl1 hl2 => by
        show (p : Int) ∣ rws B k l k + _
        rw [if_neg (by omega)]
        unfold rws
        rw [Nat.add_zero]
        obtain ⟨y, hy⟩ := hinv
        exact ⟨-((ge B (k + l) k : Int) * y), by grind⟩)
      simp only [if_pos, Int.zero_mul, Int.add_zero] at hfr
      have hmd : Md p (mdD p d (ge B k k) x k : Nat) ((d : Int) * (if x = k then 1 else -1) * (ge B k k : Int)) := by
        unfold mdD
        refine (Md.mod p _).trans ?_
        rw [Int.natCast_mul]
        refine Md.mul ?_ (Md.refl _ _)
        split
        · exact Md.of_eq (by omega)
        · exact (Md.subF hd).trans (Md.of_eq (by omega))
      have hrest : Md p (dt (List.range' (k + 1) (n - (k + 1))) (rws (mdN p k B) (k + 1))) (dt (List.range' (k + 1) (n - (k + 1))) (fun l => fun j => rws B k (l + 1) j + (if l + 1 = 0 then 0 else -((ge B (k + (l + 1)) k : Int) * (fInv p (ge B k k) : Nat))) * rws B k 0 j)) := by
        refine dt_mod (fun l hl j hj => ?_)
        rw [List.length_range'] at hl
        have hj' := List.mem_range'_1.1 hj
        have hg := ge_mdN (p := p) hBl hBc (show k < k + 1 + l by omega) (by omega) (show k < j by omega) (by omega) (by omega)
        rw [if_neg (by omega)]
        unfold rws
        rw [Nat.add_zero, show k + (l + 1) = k + 1 + l by omega]
        obtain ⟨y, hy⟩ := hg
        exact ⟨y, by rw [← hy]; grind⟩
      refine (hmd.mul hrest).trans ?_
      refine Md.trans ?_ (Md.mul (Md.refl _ _) (Md.mul (Md.refl _ _) hfr.symm))
      refine Md.of_eq ?_
      show _ = (d : Int) * ((if x = k then 1 else -1) * (rws B k 0 k * _))
      unfold rws
      rw [Nat.add_zero]
      grind
    · rw [detG_none (by rw [← hx]; exact hxn)]
      have hno := pvF_none (A := A) (k := k) (A.length - k) k (by rw [← hx]; omega)
      refine Md.symm ?_
      have : (p : Int) ∣ dt (List.range' k (n - k)) (rws A k) := by
        rw [eJ]
        refine dt_col0 (fun l hl => ?_)
        rw [List.length_range'] at hl
        unfold rws
        rw [hno (k + l) (by omega) (by omega)]
        exact ⟨0, by simp⟩
      obtain ⟨y, hy⟩ := this
      exact ⟨d * y, by rw [hy]; grind⟩
end Go.Proofs.YtbkgpfalljgdcaaGreatDoor
