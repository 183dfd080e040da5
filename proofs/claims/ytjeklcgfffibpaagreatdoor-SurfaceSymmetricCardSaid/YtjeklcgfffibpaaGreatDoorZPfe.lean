/- Determinants: bounds, triangles, combinations of rows (plain). -/
/- Polynomials as lists of integers; the determinant of a matrix of polynomials (plain). -/
/- 2^61 - 1 is prime: Pocklington's test; the order of an element modulo a divisor by the pigeonhole principle. -/
/- Fermat's little theorem; the primes of the fields are prime (plain). -/
import Derived.Test.YtjeklcgfffibpaaGreatDoorZDet
import Derived.Test.YtjeklcgfffibpaaGreatDoorZDia
namespace Go.Proofs.YtjeklcgfffibpaaGreatDoor
set_option linter.unusedVariables false

def prodN : Nat → (Nat → Nat) → Nat
  | 0, _ => 1
  | n + 1, g => prodN n g * g n
def sumN : Nat → (Nat → Nat) → Nat
  | 0, _ => 0
  | n + 1, g => sumN n g + g n
theorem prodN_congr {n : Nat} {f g : Nat → Nat} (h : ∀ l, l < n → f l = g l) : prodN n f = prodN n g := by
  induction n with
  | zero => rfl
  | succ n ih => rw [prodN, prodN, ih (fun l hl => h l (by omega)), h n (by omega)]
theorem prodN_mono {n : Nat} {f g : Nat → Nat} (h : ∀ l, l < n → f l ≤ g l) : prodN n f ≤ prodN n g := by
  induction n with
  | zero => exact Nat.le_refl _
  | succ n ih => rw [prodN, prodN]; exact Nat.mul_le_mul (ih (fun l hl => h l (by omega))) (h n (by omega))
theorem sumN_mono {n : Nat} {f g : Nat → Nat} (h : ∀ l, l < n → f l ≤ g l) : sumN n f ≤ sumN n g := by
  induction n with
  | zero => exact Nat.le_refl _
  | succ n ih => rw [sumN, sumN]; exact Nat.add_le_add (ih (fun l hl => h l (by omega))) (h n (by omega))
theorem sumN_congr {n : Nat} {f g : Nat → Nat} (h : ∀ l, l < n → f l = g l) : sumN n f = sumN n g := by
  induction n with
  | zero => rfl
  | succ n ih => rw [sumN, sumN, ih (fun l hl => h l (by omega)), h n (by omega)]
theorem sumN_mulr {n : Nat} (f : Nat → Nat) (c : Nat) : sumN n (fun l => f l * c) = sumN n f * c := by
  induction n with
  | zero => simp [sumN]
  | succ n ih => simp only [sumN]; rw [ih, Nat.add_mul]
theorem natAbs_sumI {n : Nat} (f : Nat → Int) : (sumI n f).natAbs ≤ sumN n (fun l => (f l).natAbs) := by
  induction n with
  | zero => simp [sumI, sumN]
  | succ n ih =>
    rw [sumI, sumN]
    have := Int.natAbs_add_le (sumI n f) (f n)
    omega
theorem prod_skip (n : Nat) (a s : Nat → Nat) : sumN (n + 1) (fun k => a k * prodN n (fun l => s (skp k l))) ≤ prodN (n + 1) (fun l => a l + s l) := by
  induction n with
  | zero => simp [sumN, prodN]
  | succ n ih =>
    rw [sumN]
    have h1 : sumN (n + 1) (fun k => a k * prodN (n + 1) (fun l => s (skp k l))) = sumN (n + 1) (fun k => a k * prodN n (fun l => s (skp k l))) * s (n + 1) := by
      rw [← sumN_mulr]
      refine sumN_congr (fun k hk => ?_)
      show a k * (prodN n (fun l => s (skp k l)) * s (skp k n)) = a k * prodN n (fun l => s (skp k l)) * s (n + 1)
      rw [show skp k n = n + 1 by unfold skp; rw [if_neg (by omega)], Nat.mul_assoc]
    have h2 : prodN (n + 1) (fun l => s (skp (n + 1) l)) ≤ prodN (n + 1) (fun l => a l + s l) := by
      refine prodN_mono (fun l hl => ?_)
      show s (skp (n + 1) l) ≤ a l + s l
      rw [show skp (n + 1) l = l by unfold skp; rw [if_pos hl]]; omega
    show _ ≤ prodN (n + 1) (fun l => a l + s l) * (a (n + 1) + s (n + 1))
    rw [h1, Nat.mul_add, Nat.add_comm (prodN (n + 1) (fun l => a l + s l) * a (n + 1))]
    exact Nat.add_le_add (Nat.mul_le_mul_right _ ih) (by rw [Nat.mul_comm (a (n + 1))]; exact Nat.mul_le_mul_right _ h2)
/-- the sum of the absolute values in some columns -/
def rsum (J : List Nat) (u : Nat → Int) : Nat := (J.map fun j => (u j).natAbs).sum
theorem dt_bound : ∀ (J : List Nat) (f : Nat → Nat → Int), (dt J f).natAbs ≤ prodN J.length (fun l => rsum J (f l))
  | [], f => by simp [dt, prodN]
  | j :: J, f => by
    rw [dt]
    refine Nat.le_trans (natAbs_sumI _) ?_
    refine Nat.le_trans (sumN_mono (g := fun k => (f k j).natAbs * prodN J.length (fun l => rsum J (f (skp k l)))) (fun k _ => ?_)) ?_
    · show (sgn k * f k j * dt J (fun l => f (skp k l))).natAbs ≤ _
      rw [Int.natAbs_mul, Int.natAbs_mul, show (sgn k).natAbs = 1 by unfold sgn; split <;> rfl, Nat.one_mul]
      exact Nat.mul_le_mul_left _ (dt_bound J (fun l => f (skp k l)))
    · have h := prod_skip J.length (fun k => (f k j).natAbs) (fun l => rsum J (f l))
      refine Nat.le_trans h (Nat.le_of_eq (prodN_congr (fun l _ => ?_)))
      simp [rsum]
theorem prodN_const (n c : Nat) : prodN n (fun _ => c) = c ^ n := by
  induction n with
  | zero => rfl
  | succ n ih => rw [prodN, ih, Nat.pow_succ]
/-- columns that are renamed -/
theorem dt_map (τ : Nat → Nat) : ∀ (J : List Nat) (f : Nat → Nat → Int), dt (J.map τ) f = dt J (fun l j => f l (τ j))
  | [], f => rfl
  | j :: J, f => by
    rw [List.map_cons, dt, dt, List.length_map]
    refine sumI_congr (fun k _ => ?_)
    show sgn k * f k (τ j) * dt (J.map τ) (fun l => f (skp k l)) = sgn k * f k (τ j) * dt J (fun l j => f (skp k l) (τ j))
    rw [dt_map τ J]
def prodI : Nat → (Nat → Int) → Int
  | 0, _ => 1
  | n + 1, g => prodI n g * g n
theorem prodI_front (n : Nat) (g : Nat → Int) : prodI (n + 1) g = g 0 * prodI n (fun l => g (l + 1)) := by
  induction n with
  | zero => simp [prodI]
  | succ n ih => rw [prodI, ih, prodI, Int.mul_assoc]
/-- a triangle -/
theorem dt_tri : ∀ (r s : Nat) (f : Nat → Nat → Int), (∀ l j, l < r → j < r → j < l → f l (s + j) = 0) → dt (List.range' s r) f = prodI r (fun l => f l (s + l))
  | 0, s, f, _ => rfl
  | r + 1, s, f, h => by
    rw [List.range'_succ, dt, List.length_range', prodI_front]
    have h0 := sumI_single (C := r + 1) (j := 0) (f := fun k => sgn k * f k s * dt (List.range' (s + 1) r) (fun l => f (skp k l))) (by omega) (fun l hl hne => by
      show sgn l * f l s * dt (List.range' (s + 1) r) (fun i => f (skp l i)) = 0
      have := h l 0 hl (by omega) (by omega)
      rw [Nat.add_zero] at this
      rw [this, Int.mul_zero, Int.zero_mul])
    rw [h0]
    have e : dt (List.range' (s + 1) r) (fun l => f (skp 0 l)) = prodI r (fun l => f (l + 1) (s + 1 + l)) := by
      rw [dt_tri r (s + 1) (fun l => f (skp 0 l)) (fun l j hl hj hlt => by
        show f (skp 0 l) (s + 1 + j) = 0
        rw [show skp 0 l = l + 1 by unfold skp; rw [if_neg (by omega)], show s + 1 + j = s + (j + 1) by omega]
        exact h (l + 1) (j + 1) (by omega) (by omega) (by omega))]
      rfl
    show sgn 0 * f 0 s * dt (List.range' (s + 1) r) (fun l => f (skp 0 l)) = f 0 (s + 0) * prodI r (fun l => f (l + 1) (s + (l + 1)))
    rw [e, show sgn 0 = 1 from rfl, Int.one_mul, Nat.add_zero]
    have e2 : (fun l => f (l + 1) (s + 1 + l)) = fun l => f (l + 1) (s + (l + 1)) := by funext l; rw [show s + 1 + l = s + (l + 1) by omega]
    rw [e2]; rfl
/-- multiples of one row are added to all others -/
theorem dt_many {J : List Nat} {f : Nat → Nat → Int} {a : Nat} (ha : a < J.length) (c : Nat → Int) (hc : c a = 0) : dt J (fun l j => f l j + c l * f a j) = dt J f := by
  have h : ∀ x, x ≤ J.length → dt J (fun l j => f l j + (if l < x then c l else 0) * f a j) = dt J f := by
    intro x
    induction x with
    | zero => intro _; exact dt_congr (fun l _ j _ => by rw [if_neg (by omega)]; simp)
    | succ x ih =>
      intro hx
      rw [← ih (by omega)]
      by_cases e : x = a
      · refine dt_congr (fun l _ j _ => ?_)
        by_cases q : l < x
        · rw [if_pos q, if_pos (by omega)]
        · by_cases q2 : l = x
          · rw [if_pos (by omega), if_neg q, q2, e, hc]
          · rw [if_neg q, if_neg (by omega)]
      · have h1 := dt_addmul (J := J) (f := fun l j => f l j + (if l < x then c l else 0) * f a j) ha (show x < J.length by omega) (fun z => e z.symm) (c x)
        rw [← h1]
        refine dt_congr (fun l _ j _ => ?_)
        unfold fup
        by_cases q2 : l = x
        · rw [if_pos q2, q2]
          simp only [if_neg (show ¬ x < x by omega), if_pos (show x < x + 1 by omega), Int.zero_mul, Int.add_zero]
          by_cases q3 : a < x
          · rw [if_pos q3, hc]; simp
          · rw [if_neg q3]; simp
        · rw [if_neg q2]
          show f l j + (if l < x + 1 then c l else 0) * f a j = f l j + (if l < x then c l else 0) * f a j
          by_cases q : l < x
          · rw [if_pos q, if_pos (by omega)]
          · rw [if_neg q, if_neg (by omega)]
  rw [← h J.length (Nat.le_refl _)]
  exact dt_congr (fun l hl j _ => by rw [if_pos hl])
/-- a row that is a combination of the rows -/
theorem dt_comb {J : List Nat} {f : Nat → Nat → Int} {k : Nat} (hk : k < J.length) (b : Nat → Int) : dt J (fup f k (fun j => sumI J.length (fun l => b l * f l j))) = b k * dt J f := by
  have h : ∀ x, x ≤ J.length → dt J (fup f k (fun j => sumI x (fun l => b l * f l j))) = (if k < x then b k else 0) * dt J f := by
    intro x
    induction x with
    | zero =>
      intro _
      rw [if_neg (by omega), Int.zero_mul]
      exact dt_zero hk
    | succ x ih =>
      intro hx
      have h1 := dt_lin (J := J) (f := f) (k := k) (fun j => sumI x (fun l => b l * f l j)) (f x) (b x) hk
      show dt J (fup f k (fun j => sumI x (fun l => b l * f l j) + b x * f x j)) = _
      rw [h1, ih (by omega)]
      by_cases e : x = k
      · subst e
        rw [fup_self, if_neg (by omega), if_pos (by omega)]; omega
      · have : dt J (fup f k (f x)) = 0 := dt_alike (show x < J.length by omega) hk e (fun j => by simp only [fup, if_neg e, if_pos])
        rw [this]
        by_cases q : k < x
        · rw [if_pos q, if_pos (by omega)]; omega
        · rw [if_neg q, if_neg (by omega)]; omega
  rw [h J.length (Nat.le_refl _), if_pos hk]
end Go.Proofs.YtjeklcgfffibpaaGreatDoor

namespace Go.Proofs.YtjeklcgfffibpaaGreatDoor
set_option linter.unusedVariables false

/-- the value -/
def ev : List Int → Int → Int
  | [], _ => 0
  | a :: L, x => a + x * ev L x
def ladd : List Int → List Int → List Int
  | [], b => b
  | x :: a, [] => x :: a
  | x :: a, y :: b => (x + y) :: ladd a b
def lscl (c : Int) (b : List Int) : List Int := b.map (c * ·)
def lmul : List Int → List Int → List Int
  | [], _ => []
  | x :: a, b => ladd (lscl x b) (0 :: lmul a b)
def nrm : List Int → Nat
  | [] => 0
  | a :: L => a.natAbs + nrm L
theorem ev_ladd (x : Int) : ∀ a b : List Int, ev (ladd a b) x = ev a x + ev b x
  | [], b => by simp [ladd, ev]
  | y :: a, [] => by simp [ladd, ev]
  | y :: a, z :: b => by
    have := ev_ladd x a b
    simp only [ladd, ev]
    rw [this]; grind
theorem ev_lscl (x c : Int) : ∀ b : List Int, ev (lscl c b) x = c * ev b x
  | [] => by simp [lscl, ev]
  | y :: b => by
    have := ev_lscl x c b
    simp only [lscl] at this
    simp only [lscl, List.map_cons, ev]
    rw [this]; grind
theorem ev_lmul (x : Int) : ∀ a b : List Int, ev (lmul a b) x = ev a x * ev b x
  | [], b => by simp [lmul, ev]
  | y :: a, b => by
    have := ev_lmul x a b
    simp only [lmul, ev_ladd, ev_lscl, ev]
    rw [this]; grind
theorem ladd_length : ∀ {a b : List Int} {d : Nat}, a.length ≤ d → b.length ≤ d → (ladd a b).length ≤ d
  | [], b, d, h, k => k
  | y :: a, [], d, h, k => h
  | y :: a, z :: b, d, h, k => by
    simp only [ladd, List.length_cons] at *
    have := ladd_length (a := a) (b := b) (d := d - 1) (by omega) (by omega)
    omega
theorem lscl_length (c : Int) (b : List Int) : (lscl c b).length = b.length := by simp [lscl]
theorem lmul_length : ∀ {a b : List Int} {da db : Nat}, a.length ≤ da + 1 → b.length ≤ db + 1 → (lmul a b).length ≤ da + db + 1
  | [], b, da, db, h, k => by simp [lmul]
  | [y], b, da, db, h, k => by
    simp only [lmul]
    exact ladd_length (by rw [lscl_length]; omega) (by simp)
  | y :: z :: a, b, da, db, h, k => by
    rw [lmul]
    simp only [List.length_cons] at h
    have := lmul_length (a := z :: a) (b := b) (da := da - 1) (db := db) (by simp only [List.length_cons]; omega) k
    refine ladd_length (by rw [lscl_length]; omega) (by simp only [List.length_cons]; omega)
theorem nrm_ladd : ∀ a b : List Int, nrm (ladd a b) ≤ nrm a + nrm b
  | [], b => by simp [ladd]
  | y :: a, [] => by simp [ladd]
  | y :: a, z :: b => by
    have := nrm_ladd a b
    simp only [ladd, nrm]
    omega
theorem nrm_lscl (c : Int) : ∀ b : List Int, nrm (lscl c b) = c.natAbs * nrm b
  | [] => by simp [lscl, nrm]
  | y :: b => by
    have := nrm_lscl c b
    simp only [lscl] at this
    simp only [lscl, List.map_cons, nrm, this, Int.natAbs_mul, Nat.mul_add]
theorem nrm_lmul : ∀ a b : List Int, nrm (lmul a b) ≤ nrm a * nrm b
  | [], b => by simp [lmul, nrm]
  | y :: a, b => by
    have h1 := nrm_lmul a b
    have h2 := nrm_ladd (lscl y b) (0 :: lmul a b)
    rw [nrm_lscl] at h2
    simp only [nrm] at h2 ⊢
    rw [lmul, Nat.add_mul]
    simp at h2
    omega
/-- a coefficient is at most the sum of all -/
theorem nrm_get : ∀ (L : List Int) (k : Nat), (L[k]?.getD 0).natAbs ≤ nrm L
  | [], k => by simp
  | a :: L, 0 => by simp [nrm]
  | a :: L, k + 1 => by
    have := nrm_get L k
    simp only [List.getElem?_cons_succ, nrm]
    omega
theorem ev_bound (x : Int) (hx : 1 ≤ x) : ∀ L : List Int, (∀ y : Int, x ≤ y → ev L y = 0) → ∀ k : Nat, L[k]?.getD 0 = 0
  | [], _, k => by simp
  | a :: L, h, k => by
    have ha : a = 0 := by
      have h1 := h (x + a.natAbs) (by omega)
      simp only [ev] at h1
      have hd : (x + (a.natAbs : Int)) ∣ a := ⟨- ev L (x + a.natAbs), by grind⟩
      by_cases h0 : a = 0
      · exact h0
      · have := Int.natAbs_dvd_natAbs.2 hd
        have := Nat.le_of_dvd (by omega) this
        omega
    have hr := ev_bound x hx L (fun y hy => by
      have h1 := h y hy
      simp only [ev] at h1
      rw [ha, Int.zero_add] at h1
      rcases Int.mul_eq_zero.1 h1 with q | q
      · omega
      · exact q)
    cases k with
    | zero => simpa using ha
    | succ k => simpa using hr k
theorem ev_sub (x : Int) : ∀ a b : List Int, ev (ladd a (lscl (-1) b)) x = ev a x - ev b x := by
  intro a b
  rw [ev_ladd, ev_lscl]; omega
theorem ladd_get : ∀ (a b : List Int) (k : Nat), (ladd a b)[k]?.getD 0 = a[k]?.getD 0 + b[k]?.getD 0
  | [], b, k => by simp [ladd]
  | y :: a, [], k => by simp [ladd]
  | y :: a, z :: b, 0 => by simp [ladd]
  | y :: a, z :: b, k + 1 => by
    have := ladd_get a b k
    simpa [ladd] using this
theorem lscl_get (c : Int) (b : List Int) (k : Nat) : (lscl c b)[k]?.getD 0 = c * b[k]?.getD 0 := by
  unfold lscl
  rw [List.getElem?_map]
  cases b[k]? <;> simp
/-- lists with the same values have the same coefficients -/
theorem ev_ext {a b : List Int} (x : Int) (h : ∀ y, x ≤ y → ev a y = ev b y) (k : Nat) : a[k]?.getD 0 = b[k]?.getD 0 := by
  have h1 := ev_bound (max x 1) (by omega) (ladd a (lscl (-1) b)) (fun y hy => by rw [ev_sub, h y (by omega)]; omega) k
  rw [ladd_get, lscl_get] at h1
  omega
/-- the value by the coefficients -/
theorem ev_sum (x : Int) : ∀ (L : List Int) (n : Nat), L.length ≤ n → ev L x = sumI n (fun k => L[k]?.getD 0 * x ^ k)
  | [], n, _ => by
    have : sumI n (fun k => ([] : List Int)[k]?.getD 0 * x ^ k) = sumI n (fun _ => 0) := sumI_congr (fun l _ => by simp)
    rw [this, sumI_zero]; rfl
  | a :: L, n, h => by
    cases n with
    | zero => simp at h
    | succ n =>
      have ih := ev_sum x L n (by simpa using h)
      have : ∀ m, sumI (m + 1) (fun k => (a :: L)[k]?.getD 0 * x ^ k) = a + x * sumI m (fun k => L[k]?.getD 0 * x ^ k) := by
        intro m
        induction m with
        | zero => simp [sumI]
        | succ m ihm =>
          rw [sumI, ihm, sumI]
          simp only [List.getElem?_cons_succ, Int.pow_succ]
          grind
      rw [this, ← ih]; rfl
/-- the sum of lists -/
def lsum : Nat → (Nat → List Int) → List Int
  | 0, _ => []
  | n + 1, f => ladd (lsum n f) (f n)
theorem ev_lsum (x : Int) (n : Nat) (f : Nat → List Int) : ev (lsum n f) x = sumI n (fun k => ev (f k) x) := by
  induction n with
  | zero => rfl
  | succ n ih => rw [lsum, ev_ladd, ih, sumI]
theorem lsum_length {n d : Nat} {f : Nat → List Int} (h : ∀ k, k < n → (f k).length ≤ d) : (lsum n f).length ≤ d := by
  induction n with
  | zero => simp [lsum]
  | succ n ih => exact ladd_length (ih fun k hk => h k (by omega)) (h n (by omega))
theorem nrm_lsum (n : Nat) (f : Nat → List Int) : nrm (lsum n f) ≤ sumN n (fun k => nrm (f k)) := by
  induction n with
  | zero => simp [lsum, nrm, sumN]
  | succ n ih => rw [lsum, sumN]; have := nrm_ladd (lsum n f) (f n); omega
/-- the determinant of a matrix of polynomials -/
def dtL : List Nat → (Nat → Nat → List Int) → List Int
  | [], _ => [1]
  | j :: J, f => lsum (J.length + 1) (fun k => lscl (sgn k) (lmul (f k j) (dtL J (fun l => f (skp k l)))))
theorem ev_dtL (x : Int) : ∀ (J : List Nat) (f : Nat → Nat → List Int), ev (dtL J f) x = dt J (fun l j => ev (f l j) x)
  | [], f => by simp [dtL, dt, ev]
  | j :: J, f => by
    rw [dtL, ev_lsum, dt]
    refine sumI_congr (fun k _ => ?_)
    rw [ev_lscl, ev_lmul, ev_dtL x J, Int.mul_assoc]
/-- bounds of degrees add up -/
theorem dtL_length : ∀ (J : List Nat) (f : Nat → Nat → List Int) (d : Nat → Nat), (∀ l, l < J.length → ∀ j ∈ J, (f l j).length ≤ d l + 1) → (dtL J f).length ≤ sumN J.length d + 1
  | [], f, d, h => by simp [dtL, sumN]
  | j :: J, f, d, h => by
    rw [dtL]
    refine lsum_length (fun k hk => ?_)
    rw [lscl_length]
    have ih := dtL_length J (fun l => f (skp k l)) (fun l => d (skp k l)) (fun l hl i hi => h (skp k l) (by unfold skp; simp only [List.length_cons]; split <;> omega) i (List.mem_cons_of_mem _ hi))
    have h1 := lmul_length (h k (by simpa using hk) j (by simp)) ih
    refine Nat.le_trans h1 ?_
    have : sumN (J.length + 1) d = d k + sumN J.length (fun l => d (skp k l)) := by
      clear ih h1 h
      generalize J.length = n at *
      have : ∀ n k, k < n + 1 → sumN (n + 1) d = d k + sumN n (fun l => d (skp k l)) := by
        intro n
        induction n with
        | zero => intro k hk; have : k = 0 := by omega
                  subst this; simp [sumN]
        | succ n ih =>
          intro k hk
          rcases Nat.lt_or_ge k (n + 1) with q | q
          · rw [sumN, ih k q, sumN]
            simp only [skp, if_neg (show ¬ n < k by omega)]
            omega
          · have : k = n + 1 := by omega
            subst this
            rw [sumN]
            have : sumN (n + 1) (fun l => d (skp (n + 1) l)) = sumN (n + 1) d := sumN_congr (fun l hl => by simp only [skp, if_pos hl])
            rw [this]; omega
      exact this n k hk
    simp only [List.length_cons]
    omega
/-- the sums of the rows -/
def rsL (J : List Nat) (u : Nat → List Int) : Nat := (J.map fun j => nrm (u j)).sum
theorem nrm_dtL : ∀ (J : List Nat) (f : Nat → Nat → List Int), nrm (dtL J f) ≤ prodN J.length (fun l => rsL J (f l))
  | [], f => by simp [dtL, nrm, prodN]
  | j :: J, f => by
    rw [dtL]
    refine Nat.le_trans (nrm_lsum _ _) ?_
    refine Nat.le_trans (sumN_mono (g := fun k => nrm (f k j) * prodN J.length (fun l => rsL J (f (skp k l)))) (fun k _ => ?_)) ?_
    · rw [nrm_lscl]
      have h1 : (sgn k).natAbs = 1 := by unfold sgn; split <;> rfl
      rw [h1, Nat.one_mul]
      exact Nat.le_trans (nrm_lmul _ _) (Nat.mul_le_mul_left _ (nrm_dtL J _))
    · have := prod_skip J.length (fun k => nrm (f k j)) (fun k => rsL J (f k))
      simpa [rsL] using this
end Go.Proofs.YtjeklcgfffibpaaGreatDoor

namespace Go.Proofs.YtjeklcgfffibpaaGreatDoor
set_option linter.unusedVariables false

/-- a list without repetition of numbers below n has at most n elements -/
theorem nodup_le : ∀ (n : Nat) (l : List Nat), l.Nodup → (∀ x ∈ l, x < n) → l.length ≤ n
  | 0, l, _, h => by
    cases l with
    | nil => simp
    | cons a t => exact absurd (h a (by simp)) (by omega)
  | n + 1, l, hd, h => by
    have h1 := nodup_le n (l.erase n) (hd.erase n) (fun x hx => by
      have := (List.Nodup.mem_erase_iff hd).1 hx
      have := h x this.2
      omega)
    have : l.length ≤ (l.erase n).length + 1 := by
      by_cases hm : n ∈ l
      · have := List.length_erase_of_mem hm; omega
      · rw [List.erase_of_not_mem hm]; omega
    omega

/-- powers modulo r, by squaring: what the kernel reckons -/
def pmod (r a : Nat) : Nat → Nat → Nat
  | 0, _ => 1 % r
  | f + 1, e => if e = 0 then 1 % r else let h := pmod r (a * a % r) f (e / 2); if e % 2 = 1 then h * a % r else h
theorem pmod_eq (r : Nat) : ∀ (f a e : Nat), e < 2 ^ f → pmod r a f e = a ^ e % r
  | 0, a, e, h => by simp at h; subst h; simp [pmod]
  | f + 1, a, e, h => by
    have ih := pmod_eq r f (a * a % r) (e / 2) (by rw [Nat.pow_succ] at h; omega)
    simp only [pmod]
    split
    · subst e; simp
    · have h2 : (a * a % r) ^ (e / 2) % r = (a ^ (2 * (e / 2))) % r := by rw [← Nat.pow_mod, ← Nat.pow_two, ← Nat.pow_mul]
      rw [ih, h2]
      split
      · rename_i h1
        have : e = 2 * (e / 2) + 1 := by omega
        conv => rhs; rw [this, Nat.pow_succ]
        rw [Nat.mul_mod, Nat.mod_mod, ← Nat.mul_mod]
      · have : e = 2 * (e / 2) := by omega
        conv => rhs; rw [this]

/-- the order -/
theorem order_ex (a r n : Nat) (hn : 0 < n) (h : a ^ n % r = 1 % r) : ∃ k, 0 < k ∧ a ^ k % r = 1 % r ∧ ∀ j, 0 < j → j < k → a ^ j % r ≠ 1 % r := by
  induction n using Nat.strongRecOn with
  | _ n ih =>
    by_cases hx : ∃ j, 0 < j ∧ j < n ∧ a ^ j % r = 1 % r
    · obtain ⟨j, h1, h2, h3⟩ := hx
      exact ih j h2 h1 h3
    · exact ⟨n, hn, h, fun j h1 h2 h3 => hx ⟨j, h1, h2, h3⟩⟩
theorem pow_mod_mul (a r k m : Nat) (h : a ^ k % r = 1 % r) : a ^ (k * m) % r = 1 % r := by
  rw [Nat.pow_mul, Nat.pow_mod, h, ← Nat.pow_mod, Nat.one_pow]
theorem order_dvd {a r k : Nat} (h : a ^ k % r = 1 % r) (hm : ∀ j, 0 < j → j < k → a ^ j % r ≠ 1 % r) (hk : 0 < k) (n : Nat) (hn : a ^ n % r = 1 % r) : k ∣ n := by
  have e := Nat.div_add_mod n k
  have h1 : a ^ n % r = a ^ (n % k) % r := by
    conv => lhs; rw [← e, Nat.pow_add]
    rw [Nat.mul_mod, pow_mod_mul a r k _ h, ← Nat.mul_mod, Nat.one_mul]
  rcases Nat.eq_zero_or_pos (n % k) with h0 | h0
  · exact Nat.dvd_of_mod_eq_zero h0
  · exact absurd (h1.symm.trans hn) (hm _ h0 (Nat.mod_lt _ hk))
/-- a number that is coprime to all smaller ones -/
def Pr (q : Nat) : Prop := ∀ m, 0 < m → m < q → Nat.gcd m q = 1
theorem Pr.coprime {q : Nat} (h : Pr q) {m : Nat} (hm : m % q ≠ 0) (hq : 0 < q) : Nat.gcd m q = 1 := by
  have h1 := h (m % q) (by omega) (Nat.mod_lt _ hq)
  rw [Nat.gcd_comm, Nat.gcd_rec, h1]
theorem Pr.dvd {q : Nat} (h : Pr q) (hq : 0 < q) {k n : Nat} (hk : k ∣ n) (hn : ¬ k ∣ n / q) (hqn : q ∣ n) : q ∣ k := by
  obtain ⟨m, rfl⟩ := hk
  by_cases hm : m % q = 0
  · obtain ⟨t, rfl⟩ := Nat.dvd_of_mod_eq_zero hm
    exact absurd ⟨t, by rw [Nat.mul_left_comm, Nat.mul_div_cancel_left _ hq]⟩ hn
  · exact (Nat.Coprime.dvd_of_dvd_mul_right (Nat.coprime_comm.1 (h.coprime hm hq)) hqn)
theorem pow_inj {a r k : Nat} (h : a ^ k % r = 1 % r) (hm : ∀ j, 0 < j → j < k → a ^ j % r ≠ 1 % r) {i j : Nat} (hij : i < j) (hj : j < k) : a ^ i % r ≠ a ^ j % r := by
  intro e
  refine hm (j - i) (by omega) (by omega) ?_
  have h1 : a ^ (j - i) % r = a ^ (k * 1 + (j - i)) % r := by rw [Nat.pow_add, Nat.mul_mod, pow_mod_mul a r k 1 h, ← Nat.mul_mod, Nat.one_mul]
  have h2 : k * 1 + (j - i) = j + (k - i) := by omega
  rw [h1, h2, Nat.pow_add, Nat.mul_mod, ← e, ← Nat.mul_mod, ← Nat.pow_add]
  rw [show i + (k - i) = k by omega, h]
theorem order_le {a r k : Nat} (hr : 0 < r) (h : a ^ k % r = 1 % r) (hm : ∀ j, 0 < j → j < k → a ^ j % r ≠ 1 % r) : k ≤ r := by
  have := nodup_le r ((List.range k).map fun i => a ^ i % r) (by
    rw [List.nodup_iff_pairwise_ne, List.pairwise_map]
    have hp := @List.pairwise_lt_range k
    refine List.Pairwise.imp_of_mem ?_ hp
    intro i j _ hj hij
    exact pow_inj h hm hij (List.mem_range.1 hj)) (fun x hx => by
      obtain ⟨i, _, rfl⟩ := List.mem_map.1 hx
      exact Nat.mod_lt _ hr)
  simpa using this

/-- the prime of the elimination -/
def p61 : Nat := 2305843009213693951
def checkP (q : Nat) : Bool := (List.range q).all fun m => m == 0 || Nat.gcd m q == 1
theorem Pr_of_check {q : Nat} (h : checkP q = true) : Pr q := by
  intro m h0 h1
  have := List.all_eq_true.1 h m (List.mem_range.2 h1)
  simp only [Bool.or_eq_true, beq_iff_eq] at this
  omega
theorem not_one {r e : Nat} (hr : 1 < r) (hd : r ∣ p61) (he : e < 2 ^ 61) (hg : Nat.gcd (pmod p61 3 61 e - 1) p61 = 1) (h1 : 1 ≤ pmod p61 3 61 e) : 3 ^ e % r ≠ 1 % r := by
  intro h
  rw [pmod_eq p61 61 3 e he] at hg h1
  have h2 : 3 ^ e % p61 % r = 1 % r := by rw [Nat.mod_mod_of_dvd _ hd, h]
  have h3 : r ∣ 3 ^ e % p61 - 1 := by
    generalize 3 ^ e % p61 = y at *
    exact (Nat.dvd_iff_mod_eq_zero).2 (Nat.sub_mod_eq_zero_of_mod_eq h2)
  have := Nat.dvd_gcd h3 hd
  rw [hg] at this
  exact absurd (Nat.le_of_dvd (by omega) this) (by omega)
theorem prime_order {r k e q : Nat} (hr : 1 < r) (hd : r ∣ p61) (k1 : 3 ^ k % r = 1 % r) (hk : k ∣ e) (c1 : checkP q = true) (c2 : 0 < q) (c3 : q ∣ e) (c4 : e / q < 2 ^ 61)
    (c5 : Nat.gcd (pmod p61 3 61 (e / q) - 1) p61 = 1) (c6 : 1 ≤ pmod p61 3 61 (e / q)) : q ∣ k := by
  refine (Pr_of_check c1).dvd c2 hk ?_ c3
  rintro ⟨m, hm⟩
  refine not_one hr hd c4 c5 c6 ?_
  rw [hm]; exact pow_mod_mul 3 r k m k1
theorem order61 {r e : Nat} (hd : r ∣ p61) (he : e < 2 ^ 61) (h : pmod p61 3 61 e = 1) : 3 ^ e % r = 1 % r := by
  have := pmod_eq p61 61 3 e he
  rw [h] at this
  rw [← Nat.mod_mod_of_dvd _ hd, ← this]
theorem big_divisor {r : Nat} (hr : 1 < r) (hd : r ∣ p61) : 4027518961 ≤ r := by
  have main : ∀ e, e = 2305843009213693950 → 4027518961 ≤ r := by
    intro e he
    have h1 : 3 ^ e % r = 1 % r := order61 hd (by omega) (by rw [he]; decide +kernel)
    obtain ⟨k, k0, k1, k2⟩ := order_ex 3 r e (by omega) h1
    have hk := order_dvd k1 k2 k0 _ h1
    have a1 : 61 ∣ k := prime_order hr hd k1 hk (by decide +kernel) (by decide) (by rw [he]; decide +kernel) (by rw [he]; decide +kernel) (by rw [he]; decide +kernel) (by rw [he]; decide +kernel)
    have a2 : 151 ∣ k := prime_order hr hd k1 hk (by decide +kernel) (by decide) (by rw [he]; decide +kernel) (by rw [he]; decide +kernel) (by rw [he]; decide +kernel) (by rw [he]; decide +kernel)
    have a3 : 331 ∣ k := prime_order hr hd k1 hk (by decide +kernel) (by decide) (by rw [he]; decide +kernel) (by rw [he]; decide +kernel) (by rw [he]; decide +kernel) (by rw [he]; decide +kernel)
    have a4 : 1321 ∣ k := prime_order hr hd k1 hk (by decide +kernel) (by decide) (by rw [he]; decide +kernel) (by rw [he]; decide +kernel) (by rw [he]; decide +kernel) (by rw [he]; decide +kernel)
    have b1 : 61 * 151 ∣ k := Nat.Coprime.mul_dvd_of_dvd_of_dvd (by decide +kernel) a1 a2
    have b2 : 61 * 151 * 331 ∣ k := Nat.Coprime.mul_dvd_of_dvd_of_dvd (by decide +kernel) b1 a3
    have b3 : 61 * 151 * 331 * 1321 ∣ k := Nat.Coprime.mul_dvd_of_dvd_of_dvd (by decide +kernel) b2 a4
    have b4 := Nat.le_of_dvd k0 b3
    have b5 := order_le (Nat.lt_trans Nat.zero_lt_one hr) k1 k2
    exact Nat.le_trans (Nat.le_trans (by decide +kernel) b4) b5
  exact main _ rfl
theorem pr61 : Pr p61 := by
  intro m h0 h1
  have hd := Nat.gcd_dvd_right m p61
  have hm := Nat.gcd_dvd_left m p61
  have hle := Nat.le_of_dvd h0 hm
  generalize Nat.gcd m p61 = r at *
  obtain ⟨s, hs⟩ := hd
  rcases Nat.lt_or_ge 1 r with h2 | h2
  · have c1 := big_divisor h2 ⟨s, hs⟩
    have hs1 : 1 < s := by
      rcases Nat.lt_or_ge 1 s with h | h
      · exact h
      · have : r * s ≤ r * 1 := Nat.mul_le_mul_left r h
        omega
    have c2 := big_divisor hs1 ⟨r, by rw [Nat.mul_comm]; exact hs⟩
    have c3 := Nat.mul_le_mul c1 c2
    rw [← hs] at c3
    simp [p61] at c3
  · rcases Nat.eq_zero_or_pos r with h3 | h3
    · subst h3; simp [p61] at hs
    · omega
/-- no zero divisors -/
theorem p61_mul {a b : Nat} (ha : a % p61 ≠ 0) (hb : b % p61 ≠ 0) : a * b % p61 ≠ 0 := by
  intro h
  have h1 := Nat.dvd_of_mod_eq_zero h
  have h2 := pr61.coprime ha (by decide)
  exact hb (Nat.mod_eq_zero_of_dvd (Nat.Coprime.dvd_of_dvd_mul_left (Nat.coprime_comm.1 h2) h1))
end Go.Proofs.YtjeklcgfffibpaaGreatDoor

namespace Go.Proofs.YtjeklcgfffibpaaGreatDoor
set_option linter.unusedVariables false

def prG : List Nat → Nat
  | [] => 1
  | a :: l => a * prG l
theorem prG_perm {l k : List Nat} (h : l.Perm k) : prG l = prG k := by
  induction h with
  | nil => rfl
  | cons a _ ih => rw [prG, prG, ih]
  | swap a b l => rw [prG, prG, prG, prG, Nat.mul_left_comm]
  | trans _ _ h1 h2 => rw [h1, h2]
def facG : Nat → Nat
  | 0 => 1
  | n + 1 => (n + 1) * facG n
theorem nodup_facG : ∀ (n : Nat) (l : List Nat), l.Nodup → (∀ x ∈ l, 1 ≤ x ∧ x ≤ n) → l.length = n → prG l = facG n
  | 0, l, _, _, hl => by rw [List.eq_nil_of_length_eq_zero hl]; rfl
  | n + 1, l, hd, hb, hl => by
    have hm : n + 1 ∈ l := by
      by_cases q : n + 1 ∈ l
      · exact q
      · exfalso
        have h1 := nodup_le n (l.map (fun x => x - 1)) (by
          rw [List.Nodup, List.pairwise_map]
          exact hd.imp_of_mem (fun {a b} ha hb' hne he => hne (by have := hb a ha; have := hb b hb'; omega)))
          (fun x hx => by
            obtain ⟨y, hy, rfl⟩ := List.mem_map.1 hx
            have := hb y hy
            have : y ≠ n + 1 := fun e => q (e ▸ hy)
            omega)
        rw [List.length_map] at h1
        omega
    rw [prG_perm (List.perm_cons_erase hm), prG, facG]
    rw [nodup_facG n (l.erase (n + 1)) (hd.erase _) (fun x hx => by
      have h2 := (List.Nodup.mem_erase_iff hd).1 hx
      have := hb x h2.2
      omega) (by rw [List.length_erase_of_mem hm]; omega)]
/-- no zero divisors -/
theorem Pr.mul {q a b : Nat} (h : Pr q) (hq : 0 < q) (ha : a % q ≠ 0) (hb : b % q ≠ 0) : a * b % q ≠ 0 := by
  intro e
  have h1 := Nat.dvd_of_mod_eq_zero e
  have h2 := h.coprime ha hq
  exact hb (Nat.mod_eq_zero_of_dvd (Nat.Coprime.dvd_of_dvd_mul_left (Nat.coprime_comm.1 h2) h1))
theorem facG_ne {q : Nat} (hq : Pr q) (h1 : 1 < q) : ∀ n, n < q → facG n % q ≠ 0
  | 0, _ => by rw [facG, Nat.mod_eq_of_lt h1]; omega
  | n + 1, h => by
    rw [facG]
    exact hq.mul (by omega) (by rw [Nat.mod_eq_of_lt h]; omega) (facG_ne hq h1 n (by omega))
theorem Pr.cancel0 {q a b c : Nat} (hq : Pr q) (h0 : 0 < q) (h : c % q ≠ 0) (hab : b ≤ a) (he : c * a % q = c * b % q) : a % q = b % q := by
  have h1 : (c * (a - b)) % q = 0 := by
    rw [Nat.mul_sub]
    exact Nat.sub_mod_eq_zero_of_mod_eq he
  have h3 : (a - b) % q = 0 := by
    by_cases z : (a - b) % q = 0
    · exact z
    · exact absurd h1 (hq.mul h0 h z)
  have := Nat.div_add_mod (a - b) q
  rw [h3] at this
  rw [show a = b + q * ((a - b) / q) by omega, Nat.add_mul_mod_self_left]
theorem Pr.cancel {q a b c : Nat} (hq : Pr q) (h0 : 0 < q) (h : c % q ≠ 0) (he : c * a % q = c * b % q) : a % q = b % q := by
  rcases Nat.le_total b a with z | z
  · exact hq.cancel0 h0 h z he
  · exact (hq.cancel0 h0 h z he.symm).symm
theorem prG_mul {q a : Nat} : ∀ (l : List Nat), prG (l.map (fun x => a * x % q)) % q = a ^ l.length * prG l % q
  | [] => by simp [prG]
  | b :: l => by
    rw [List.map_cons, prG, prG, List.length_cons, Nat.pow_succ, Nat.mul_mod, Nat.mod_mod, prG_mul l, ← Nat.mul_mod]
    congr 1
    rw [Nat.mul_mul_mul_comm, Nat.mul_comm a (a ^ l.length), Nat.mul_comm b (prG l), Nat.mul_comm (prG l) b]
theorem fermatG {q a : Nat} (hq : Pr q) (hp : 1 < q) (h : a % q ≠ 0) : a ^ (q - 1) % q = 1 := by
  obtain ⟨P, hP⟩ : ∃ P, P = q - 1 := ⟨_, rfl⟩
  rw [← hP]
  have hrange : prG ((List.range P).map (· + 1)) = facG P := nodup_facG P _ (by
    rw [List.Nodup, List.pairwise_map]
    exact List.pairwise_lt_range.imp (fun hlt he => by omega)) (fun x hx => by
      obtain ⟨y, hy, rfl⟩ := List.mem_map.1 hx
      have := List.mem_range.1 hy
      omega) (by simp)
  have hmul : prG (((List.range P).map (· + 1)).map (fun x => a * x % q)) = facG P := nodup_facG P _ (by
    rw [List.Nodup, List.pairwise_map, List.pairwise_map]
    refine List.pairwise_lt_range.imp_of_mem (fun {i j} hi hj hlt he => ?_)
    have h1 := List.mem_range.1 hi
    have h2 := List.mem_range.1 hj
    have h3 := hq.cancel (by omega) h he
    rw [Nat.mod_eq_of_lt (by omega), Nat.mod_eq_of_lt (by omega)] at h3
    omega) (fun x hx => by
      obtain ⟨y, hy, rfl⟩ := List.mem_map.1 hx
      obtain ⟨z, hz, rfl⟩ := List.mem_map.1 hy
      have h1 := List.mem_range.1 hz
      have h2 := hq.mul (by omega) h (show (z + 1) % q ≠ 0 by rw [Nat.mod_eq_of_lt (by omega)]; omega)
      have h3 := Nat.mod_lt (a * (z + 1)) (show 0 < q by omega)
      omega) (by simp)
  have h4 := prG_mul (q := q) (a := a) ((List.range P).map (· + 1))
  rw [hmul, hrange] at h4
  simp only [List.length_map, List.length_range] at h4
  have h5 : facG P * 1 % q = facG P * a ^ P % q := by rw [Nat.mul_one, h4, Nat.mul_comm]
  have h6 := hq.cancel (by omega) (facG_ne hq hp P (by omega)) h5
  rw [← h6, Nat.mod_eq_of_lt hp]
theorem two_pow_of_dvd {k n : Nat} (h : k ∣ 2 ^ (n + 1)) (h2 : ¬ k ∣ 2 ^ n) : k = 2 ^ (n + 1) := by
  obtain ⟨m, hm⟩ := h
  rcases Nat.mod_two_eq_zero_or_one m with e | e
  · exfalso
    refine h2 ⟨m / 2, ?_⟩
    have : k * m = 2 * (k * (m / 2)) := by
      conv => lhs; rw [show m = 2 * (m / 2) by omega]
      rw [Nat.mul_left_comm]
    rw [Nat.pow_succ] at hm
    omega
  · have h3 : Nat.Coprime m 2 := by
      unfold Nat.Coprime
      rw [Nat.gcd_comm, Nat.gcd_rec, e]; rfl
    have h4 : Nat.Coprime m (2 ^ (n + 1)) := Nat.Coprime.pow_right _ h3
    have h5 : m = 1 := Nat.Coprime.eq_one_of_dvd h4 ⟨k, by rw [Nat.mul_comm]; exact hm⟩
    rw [hm, h5, Nat.mul_one]
/-- the least divisor above 1 -/
theorem least_div (p : Nat) (hp : 1 < p) : ∃ d, 1 < d ∧ d ∣ p ∧ ∀ e, 1 < e → e ∣ p → d ≤ e := by
  have : ∀ n, (∃ d, 1 < d ∧ d ∣ p ∧ d ≤ n) → ∃ d, 1 < d ∧ d ∣ p ∧ ∀ e, 1 < e → e ∣ p → d ≤ e := by
    intro n
    induction n with
    | zero => rintro ⟨d, h1, _, h2⟩; omega
    | succ n ih =>
      rintro ⟨d, h1, h2, h3⟩
      by_cases q : ∃ e, 1 < e ∧ e ∣ p ∧ e < d
      · obtain ⟨e, e1, e2, e3⟩ := q
        exact ih ⟨e, e1, e2, by omega⟩
      · refine ⟨d, h1, h2, fun e e1 e2 => ?_⟩
        rcases Nat.lt_or_ge e d with z | z
        · exact absurd ⟨e, e1, e2, z⟩ q
        · exact z
  exact this p ⟨p, hp, Nat.dvd_refl _, Nat.le_refl _⟩
/-- a number with an element of order 2^17 is prime if no small number of the form 1 + j 2^17 divides it -/
theorem prime_of {p r B E : Nat} (hE : E = 65536) (h1 : 2 < p) (hodd : p % 2 = 1) (hr : r ^ E % p = p - 1) (hc : ∀ j, 1 ≤ j → j ≤ B → p % (1 + j * 131072) ≠ 0) (hB : p < (1 + (B + 1) * 131072) * (1 + (B + 1) * 131072)) : Pr p := by
  intro m hm0 hm
  rcases Nat.lt_or_ge (Nat.gcd m p) 2 with q | q
  · have := Nat.gcd_pos_of_pos_left p hm0
    omega
  exfalso
  obtain ⟨d, d1, d2, d3⟩ := least_div p (by omega)
  have hg := d3 _ (show 1 < Nat.gcd m p by omega) (Nat.gcd_dvd_right m p)
  have hle := Nat.le_of_dvd hm0 (Nat.gcd_dvd_left m p)
  obtain ⟨s, hs⟩ := Nat.gcd_dvd_right m p
  have hs1 : 1 < s := by
    rcases Nat.lt_or_ge 1 s with z | z
    · exact z
    · have : Nat.gcd m p * s ≤ Nat.gcd m p * 1 := Nat.mul_le_mul_left _ z
      omega
  have hg2 := d3 s hs1 ⟨Nat.gcd m p, by rw [Nat.mul_comm]; exact hs⟩
  have hdd : d * d ≤ p := by rw [hs]; exact Nat.mul_le_mul hg hg2
  have hdP : Pr d := by
    intro m' h0 h2
    rcases Nat.lt_or_ge (Nat.gcd m' d) 2 with z | z
    · have := Nat.gcd_pos_of_pos_left d h0
      omega
    · have := d3 _ (show 1 < Nat.gcd m' d by omega) (Nat.dvd_trans (Nat.gcd_dvd_right m' d) d2)
      have := Nat.le_of_dvd h0 (Nat.gcd_dvd_left m' d)
      omega
  have hd2 : d ≠ 2 := by
    intro e
    rw [e] at d2
    have := Nat.mod_eq_zero_of_dvd d2
    omega
  have hm1 : r ^ E % d = d - 1 := by
    have hmm : r ^ E % d = (r ^ E % p) % d := (Nat.mod_mod_of_dvd _ d2).symm
    rw [hmm, hr]
    obtain ⟨t, ht⟩ := d2
    have ht0 : 0 < t := by
      rcases Nat.eq_zero_or_pos t with z | z
      · rw [z] at ht; omega
      · exact z
    have : p - 1 = (d - 1) + d * (t - 1) := by
      rw [Nat.mul_sub, Nat.mul_one, ← ht]
      have : d ≤ p := Nat.le_trans (Nat.le_mul_of_pos_right d (by omega)) hdd
      omega
    rw [this, Nat.add_mul_mod_self_left, Nat.mod_eq_of_lt (by omega)]
  have hr0 : r % d ≠ 0 := by
    intro e
    rw [Nat.pow_mod, e, Nat.zero_pow (by omega), Nat.zero_mod] at hm1
    omega
  have hF := fermatG hdP d1 hr0
  have h17 : r ^ (E + E) % d = 1 % d := by
    rw [Nat.pow_add, Nat.mul_mod, hm1]
    have : (d - 1) * (d - 1) = 1 + d * (d - 2) := by
      obtain ⟨e, rfl⟩ : ∃ e, d = e + 2 := ⟨d - 2, by omega⟩
      simp only [Nat.add_sub_cancel]
      rw [show e + 2 - 1 = e + 1 by omega]
      grind
    rw [this, Nat.add_mul_mod_self_left]
  obtain ⟨k, k0, k1, k2⟩ := order_ex r d (E + E) (by omega) h17
  have c1 : k ∣ 2 ^ (16 + 1) := by
    have := order_dvd k1 k2 k0 _ h17
    rw [hE] at this; exact this
  have c2 : ¬ k ∣ 2 ^ 16 := by
    rintro ⟨t, ht⟩
    have := pow_mod_mul r d k t k1
    rw [← ht, show 2 ^ 16 = E from hE.symm, hm1, Nat.mod_eq_of_lt d1] at this
    omega
  have c3 := two_pow_of_dvd c1 c2
  have c4 : k ∣ d - 1 := order_dvd k1 k2 k0 _ (by rw [hF, Nat.mod_eq_of_lt d1])
  rw [c3] at c4
  obtain ⟨j, hj⟩ := c4
  have hj1 : d = 1 + j * 131072 := by omega
  have hjp : 1 ≤ j := by omega
  rcases Nat.lt_or_ge B j with z | z
  · have : (1 + (B + 1) * 131072) * (1 + (B + 1) * 131072) ≤ d * d := Nat.mul_le_mul (by omega) (by omega)
    omega
  · exact hc j hjp z (by rw [← hj1]; exact Nat.mod_eq_zero_of_dvd d2)
/-- the product of all 1 + j 2^17, lo <= j < lo + 2^d -/
def pr2 : Nat → Nat → Nat
  | 0, lo => 1 + lo * 131072
  | d + 1, lo => pr2 d lo * pr2 d (lo + 2 ^ d)
theorem pr2_dvd : ∀ (d lo j : Nat), j < 2 ^ d → (1 + (lo + j) * 131072) ∣ pr2 d lo
  | 0, lo, j, h => by have : j = 0 := by omega
                      subst this; exact Nat.dvd_refl _
  | d + 1, lo, j, h => by
    rw [Nat.pow_succ] at h
    rw [pr2]
    rcases Nat.lt_or_ge j (2 ^ d) with q | q
    · exact Nat.dvd_mul_right_of_dvd (pr2_dvd d lo j q) _
    · have := pr2_dvd d (lo + 2 ^ d) (j - 2 ^ d) (by omega)
      rw [show lo + 2 ^ d + (j - 2 ^ d) = lo + j by omega] at this
      exact Nat.dvd_mul_left_of_dvd this _
def prAll : Nat := fldT.foldr (fun t a => t.1 * a) 1
theorem prAll_dvd {t : Nat × Nat × Nat} : ∀ (L : List (Nat × Nat × Nat)), t ∈ L → t.1 ∣ L.foldr (fun t a => t.1 * a) 1
  | [], h => by simp at h
  | a :: L, h => by
    rcases List.mem_cons.1 h with e | e
    · rw [e]; exact Nat.dvd_mul_right _ _
    · exact Nat.dvd_mul_left_of_dvd (prAll_dvd L e) _
theorem fld_gcd : Nat.gcd (pr2 14 0) prAll = 1 := by decide +kernel
theorem fld_chk {t : Nat × Nat × Nat} (ht : t ∈ fldT) {j : Nat} (h1 : 1 ≤ j) (h2 : j < 16384) : t.1 % (1 + j * 131072) ≠ 0 := by
  intro e
  have d1 := Nat.dvd_of_mod_eq_zero e
  have d2 := pr2_dvd 14 0 j h2
  rw [Nat.zero_add] at d2
  have d3 := Nat.dvd_gcd d2 (Nat.dvd_trans d1 (prAll_dvd fldT ht))
  rw [show fldT.foldr (fun t a => t.1 * a) 1 = prAll from rfl, fld_gcd] at d3
  have := Nat.le_of_dvd (by omega) d3
  omega
theorem fld_odd : (fldT.all fun t => t.1 % 2 == 1 && decide (2 < t.1) && decide (t.1 < (1 + (11586 + 1) * 131072) * (1 + (11586 + 1) * 131072)) && decide (1152921504606846976 < t.1) && decide (t.1 < 2305843009213693952)) = true := by decide +kernel
/-- what is known of a field -/
structure Fld (p rt : Nat) : Prop where
  pr : Pr p
  big : 1152921504606846976 < p
  lt : p < 2305843009213693952
  root : ∀ E, E = 65536 → rt ^ E % p = p - 1
theorem fldL_fld {k : Nat} (hk : k < fldL.length) : Fld fldL[k].1 fldL[k].2 := by
  have hk' : k < fldT.length := by simpa [fldL] using hk
  suffices hS : Fld fldT[k].1 fldT[k].2.1 by simpa [fldL] using hS
  have h1 := fun j => @fld_chk _ (List.getElem_mem hk') j
  have h2 := List.all_eq_true.1 fld_odd _ (List.getElem_mem hk')
  have h3 := List.all_eq_true.1 fld_root _ (List.getElem_mem hk')
  generalize fldT[k] = t at *
  obtain ⟨p, r, b⟩ := t
  simp only [Bool.and_eq_true, beq_iff_eq, decide_eq_true_eq] at h2 h3
  obtain ⟨⟨⟨⟨o1, o2⟩, o3⟩, o4⟩, o5⟩ := h2
  obtain ⟨⟨q1, q2⟩, _⟩ := h3
  unfold rtOk at q2
  rw [q1, beq_iff_eq] at q2
  have q3 : ∀ E, E = 65536 → r ^ E % p = p - 1 := fun E hE => by
    rw [← hE] at q2
    rw [← pwm_eq (by omega) (by omega)]; exact q2
  obtain ⟨E, hE⟩ : ∃ E, E = 65536 := ⟨_, rfl⟩
  exact ⟨prime_of hE o2 o1 (q3 E hE) (fun j j1 j2 => h1 j j1 (by omega)) o3, o4, o5, q3⟩
end Go.Proofs.YtjeklcgfffibpaaGreatDoor
