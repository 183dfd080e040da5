/- Determinants: expansion along the first column; rows are functions (plain). -/
/- Determinants: bounds, triangles, combinations of rows (plain). -/
/- Fermat's little theorem for 2^61 - 1 (plain). -/
/- What elimination modulo the prime tells of the integer matrix (plain). -/
import Derived.Test.YtcjaloddgilnpaaZGcr
import Derived.Test.YtcjaloddgilnpaaZFdw
import Derived.Test.YtcjaloddgilnpaaZSmi
namespace Go.Proofs.Ytcjaloddgilnpaa
set_option linter.unusedVariables false

def skp (k l : Nat) : Nat := if l < k then l else l + 1
def sgn (k : Nat) : Int := if k % 2 = 0 then 1 else -1
theorem sgn_succ (k : Nat) : sgn (k + 1) = - sgn k := by
  unfold sgn
  by_cases h : k % 2 = 0
  · rw [if_pos h, if_neg (by omega)]
  · rw [if_neg h, if_pos (by omega)]; rfl
/-- the determinant of the first rows of f, as many as there are columns -/
def dt : List Nat → (Nat → Nat → Int) → Int
  | [], _ => 1
  | j :: J, f => sumI (J.length + 1) (fun k => sgn k * f k j * dt J (fun l => f (skp k l)))
/-- row k becomes u -/
def fup (f : Nat → Nat → Int) (k : Nat) (u : Nat → Int) : Nat → Nat → Int := fun l => if l = k then u else f l
theorem dt_congr : ∀ {J : List Nat} {f g : Nat → Nat → Int}, (∀ l, l < J.length → ∀ j ∈ J, f l j = g l j) → dt J f = dt J g
  | [], f, g, _ => rfl
  | j :: J, f, g, h => by
    rw [dt, dt]
    refine sumI_congr (fun k hk => ?_)
    rw [h k (by simpa using hk) j (by simp), dt_congr (J := J) (f := fun l => f (skp k l)) (g := fun l => g (skp k l)) (fun l hl i hi => h (skp k l) (by unfold skp; simp only [List.length_cons]; split <;> omega) i (by simp [hi]))]
theorem fup_skp_same (f : Nat → Nat → Int) (k : Nat) (u : Nat → Int) : (fun l => fup f k u (skp k l)) = fun l => f (skp k l) := by
  funext l
  unfold fup
  rw [if_neg (by unfold skp; split <;> omega)]
/-- where row k has gone when row l is struck -/
def usk (l k : Nat) : Nat := if k < l then k else k - 1
theorem fup_skp_ne (f : Nat → Nat → Int) {k l : Nat} (h : l ≠ k) (u : Nat → Int) : (fun i => fup f k u (skp l i)) = fup (fun i => f (skp l i)) (usk l k) u := by
  funext i
  show (if skp l i = k then u else f (skp l i)) = if i = usk l k then u else f (skp l i)
  have e : (skp l i = k) = (i = usk l k) := by
    unfold skp usk
    apply propext
    split <;> split <;> omega
  simp only [e]
theorem sumI_add {C : Nat} (f g : Nat → Int) (c : Int) : sumI C (fun l => f l + c * g l) = sumI C f + c * sumI C g := by
  induction C with
  | zero => simp [sumI]
  | succ n ih => simp only [sumI]; rw [ih, Int.mul_add]; omega
/-- linear in each row -/
theorem dt_lin : ∀ {J : List Nat} {f : Nat → Nat → Int} {k : Nat} (u v : Nat → Int) (c : Int), k < J.length → dt J (fup f k (fun j => u j + c * v j)) = dt J (fup f k u) + c * dt J (fup f k v)
  | [], f, k, u, v, c, h => by simp at h
  | j :: J, f, k, u, v, c, h => by
    rw [dt, dt, dt, ← sumI_add]
    refine sumI_congr (fun l hl => ?_)
    show sgn l * fup f k (fun j => u j + c * v j) l j * dt J (fun i => fup f k (fun j => u j + c * v j) (skp l i)) = sgn l * fup f k u l j * dt J (fun i => fup f k u (skp l i)) + c * (sgn l * fup f k v l j * dt J (fun i => fup f k v (skp l i)))
    by_cases e : l = k
    · subst e
      rw [fup_skp_same, fup_skp_same, fup_skp_same]
      simp only [fup, if_pos]
      generalize dt J (fun i => f (skp l i)) = d
      rw [Int.mul_add, Int.add_mul, Int.mul_left_comm (sgn l) c, Int.mul_assoc c]
    · have hk : usk l k < J.length := by unfold usk; simp only [List.length_cons] at h hl; split <;> omega
      rw [fup_skp_ne f e, fup_skp_ne f e, fup_skp_ne f e, dt_lin u v c hk]
      simp only [fup, if_neg e]
      generalize sgn l * f l j = s
      rw [Int.mul_add, Int.mul_left_comm]
theorem dt_zero {J : List Nat} {f : Nat → Nat → Int} {k : Nat} (h : k < J.length) : dt J (fup f k (fun _ => 0)) = 0 := by
  have h1 := dt_lin (f := f) (fun _ => 0) (fun _ => 0) (-1) h
  have h2 : (fun j : Nat => (0 : Int) + -1 * 0) = fun _ => 0 := by funext; rfl
  rw [h2] at h1
  omega
theorem dt_mul {J : List Nat} {f : Nat → Nat → Int} {k : Nat} (v : Nat → Int) (c : Int) (h : k < J.length) : dt J (fup f k (fun j => c * v j)) = c * dt J (fup f k v) := by
  have h1 := dt_lin (f := f) (fun _ => 0) v c h
  have h2 : (fun j : Nat => (0 : Int) + c * v j) = fun j => c * v j := by funext; simp
  rw [h2, dt_zero h] at h1
  omega
/-- two neighbours that are alike -/
theorem dt_adj : ∀ {J : List Nat} {f : Nat → Nat → Int} {k : Nat}, k + 1 < J.length → (∀ j ∈ J, f k j = f (k + 1) j) → dt J f = 0
  | [], f, k, h, _ => by simp at h
  | j :: J, f, k, h, he => by
    simp only [List.length_cons] at h
    rw [dt]
    have h0 := sumI_two (C := J.length + 1) (j := k) (k := k + 1) (f := fun l => sgn l * f l j * dt J (fun i => f (skp l i))) (g := fun _ => 0) (by omega) (by omega) (by omega) (fun l hl h1 h2 => by
      show sgn l * f l j * dt J (fun i => f (skp l i)) = 0
      have hz : dt J (fun i => f (skp l i)) = 0 := by
        by_cases q : l < k
        · refine dt_adj (J := J) (k := k - 1) (by omega) (fun i hi => ?_)
          show f (skp l (k - 1)) i = f (skp l (k - 1 + 1)) i
          unfold skp
          rw [if_neg (by omega), if_neg (by omega), show k - 1 + 1 = k by omega]
          exact he i (by simp [hi])
        · refine dt_adj (J := J) (k := k) (by omega) (fun i hi => ?_)
          show f (skp l k) i = f (skp l (k + 1)) i
          unfold skp
          rw [if_pos (by omega), if_pos (by omega)]
          exact he i (by simp [hi])
      rw [hz, Int.mul_zero])
    rw [h0, sumI_zero]
    have e1 : dt J (fun i => f (skp (k + 1) i)) = dt J (fun i => f (skp k i)) := dt_congr (fun l hl i hi => by
      show f (skp (k + 1) l) i = f (skp k l) i
      unfold skp
      by_cases q : l < k
      · rw [if_pos q, if_pos (by omega)]
      · by_cases q2 : l = k
        · subst q2
          rw [if_pos (by omega), if_neg (by omega)]
          exact he i (by simp [hi])
        · rw [if_neg (by omega), if_neg (by omega)])
    show 0 + (sgn k * f k j * dt J (fun i => f (skp k i)) - 0) + (sgn (k + 1) * f (k + 1) j * dt J (fun i => f (skp (k + 1) i)) - 0) = 0
    rw [e1, sgn_succ, ← he j (by simp), Int.neg_mul, Int.neg_mul]
    omega
theorem fup_self (f : Nat → Nat → Int) (k : Nat) : fup f k (f k) = f := by
  funext l; unfold fup; split
  · next e => rw [e]
  · rfl
theorem fup_fup (f : Nat → Nat → Int) (k : Nat) (u v : Nat → Int) : fup (fup f k u) k v = fup f k v := by
  funext l; unfold fup; split <;> rfl
theorem fup_comm (f : Nat → Nat → Int) {k l : Nat} (h : k ≠ l) (u v : Nat → Int) : fup (fup f k u) l v = fup (fup f l v) k u := by
  funext i; unfold fup
  by_cases e1 : i = l
  · by_cases e2 : i = k
    · omega
    · rw [if_pos e1, if_neg e2, if_pos e1]
  · rw [if_neg e1]
    by_cases e2 : i = k
    · rw [if_pos e2, if_pos e2]
    · rw [if_neg e2, if_neg e2, if_neg e1]
/-- neighbours change places -/
theorem dt_swap_adj {J : List Nat} {f : Nat → Nat → Int} {k : Nat} (h : k + 1 < J.length) : dt J (fup (fup f k (f (k + 1))) (k + 1) (f k)) = - dt J f := by
  have hk : k < J.length := by omega
  have hne : k ≠ k + 1 := by omega
  generalize hu : f k = u
  generalize hv : f (k + 1) = v
  have z : dt J (fup (fup f k (fun j => u j + 1 * v j)) (k + 1) (fun j => u j + 1 * v j)) = 0 := dt_adj h (fun j _ => by
    simp only [fup, if_neg hne, if_pos])
  have zu : dt J (fup (fup f k u) (k + 1) u) = 0 := dt_adj h (fun j _ => by simp only [fup, if_neg hne, if_pos])
  have zv : dt J (fup (fup f k v) (k + 1) v) = 0 := dt_adj h (fun j _ => by simp only [fup, if_neg hne, if_pos])
  rw [dt_lin u v 1 h, fup_comm f hne, dt_lin u v 1 hk, fup_comm f hne (fun j => u j + 1 * v j), dt_lin u v 1 hk, fup_comm f hne.symm, fup_comm f hne.symm, fup_comm f hne.symm, fup_comm f hne.symm] at z
  rw [zu, zv] at z
  have e : fup (fup f k u) (k + 1) v = f := by rw [← hu, ← hv, fup_self, fup_self]
  rw [e] at z
  omega
/-- two rows that are alike -/
theorem dt_same : ∀ (d : Nat) {J : List Nat} {f : Nat → Nat → Int} {a : Nat}, a + 1 + d < J.length → (∀ j, f a j = f (a + 1 + d) j) → dt J f = 0
  | 0, J, f, a, h, he => dt_adj h (fun j _ => he j)
  | d + 1, J, f, a, h, he => by
    have hs := dt_swap_adj (J := J) (f := f) (k := a + 1 + d) (by omega)
    have hz := dt_same d (J := J) (f := fup (fup f (a + 1 + d) (f (a + 1 + d + 1))) (a + 1 + d + 1) (f (a + 1 + d))) (a := a) (by omega) (fun j => by
      simp only [fup]
      rw [if_neg (by omega), if_neg (by omega), if_neg (by omega), if_pos True.intro]
      exact he j)
    rw [hz] at hs
    omega
theorem dt_alike {J : List Nat} {f : Nat → Nat → Int} {a b : Nat} (ha : a < J.length) (hb : b < J.length) (hab : a ≠ b) (he : ∀ j, f a j = f b j) : dt J f = 0 := by
  rcases Nat.lt_or_ge a b with q | q
  · exact dt_same (b - (a + 1)) (a := a) (by omega) (fun j => by rw [show a + 1 + (b - (a + 1)) = b by omega]; exact he j)
  · exact dt_same (a - (b + 1)) (a := b) (by omega) (fun j => by rw [show b + 1 + (a - (b + 1)) = a by omega]; exact (he j).symm)
/-- a multiple of another row is added -/
theorem dt_addmul {J : List Nat} {f : Nat → Nat → Int} {a b : Nat} (ha : a < J.length) (hb : b < J.length) (hab : a ≠ b) (c : Int) : dt J (fup f b (fun j => f b j + c * f a j)) = dt J f := by
  rw [dt_lin (f b) (f a) c hb, fup_self]
  have : dt J (fup f b (f a)) = 0 := dt_alike ha hb hab (fun j => by simp only [fup, if_neg hab, if_pos])
  rw [this]; omega
/-- congruent rows -/
theorem dt_mod {m : Int} : ∀ {J : List Nat} {f g : Nat → Nat → Int}, (∀ l, l < J.length → ∀ j ∈ J, m ∣ f l j - g l j) → m ∣ dt J f - dt J g
  | [], f, g, _ => by simp [dt]
  | j :: J, f, g, h => by
    rw [dt, dt]
    refine sumI_mod (fun k hk => ?_)
    show m ∣ sgn k * f k j * dt J (fun l => f (skp k l)) - sgn k * g k j * dt J (fun l => g (skp k l))
    have h1 := h k (by simpa using hk) j (by simp)
    have h2 := dt_mod (J := J) (f := fun l => f (skp k l)) (g := fun l => g (skp k l)) (fun l hl i hi => h (skp k l) (by unfold skp; simp only [List.length_cons]; split <;> omega) i (by simp [hi]))
    generalize dt J (fun l => f (skp k l)) = d1 at *
    generalize dt J (fun l => g (skp k l)) = d2 at *
    generalize f k j = a at *
    generalize g k j = b at *
    have e : sgn k * a * d1 - sgn k * b * d2 = sgn k * (a * (d1 - d2) + (a - b) * d2) := by
      rw [Int.mul_add, Int.mul_sub, Int.sub_mul, Int.mul_sub, Int.mul_sub, ← Int.mul_assoc, ← Int.mul_assoc, ← Int.mul_assoc]; omega
    rw [e]
    exact Int.dvd_trans (Int.dvd_add (Int.dvd_trans h2 (Int.dvd_mul_left _ _)) (Int.dvd_trans h1 (Int.dvd_mul_right _ _))) (Int.dvd_mul_left _ _)
end Go.Proofs.Ytcjaloddgilnpaa

namespace Go.Proofs.Ytcjaloddgilnpaa
set_option linter.unusedVariables false

def prodN : Nat → (Nat → Nat) → Nat
  | 0, _ => 1
  | n + 1, g => prodN n g * g n
def sumN : Nat → (Nat → Nat) → Nat
  | 0, _ => 0
  | n + 1, g => sumN n g + g n
theorem prodN_congr {n : Nat} {f g : Nat → Nat} (h : ∀ l, l < n → f l = g l) : prodN n f = prodN n g := by
  induction n with
  | zero => rfl
  | succ n ih => rw [prodN, prodN, ih (fun l hl => h l (by omega)), h n (by omega)]
theorem prodN_mono {n : Nat} {f g : Nat → Nat} (h : ∀ l, l < n → f l ≤ g l) : prodN n f ≤ prodN n g := by
  induction n with
  | zero => exact Nat.le_refl _
  | succ n ih => rw [prodN, prodN]; exact Nat.mul_le_mul (ih (fun l hl => h l (by omega))) (h n (by omega))
theorem sumN_mono {n : Nat} {f g : Nat → Nat} (h : ∀ l, l < n → f l ≤ g l) : sumN n f ≤ sumN n g := by
  induction n with
  | zero => exact Nat.le_refl _
  | succ n ih => rw [sumN, sumN]; exact Nat.add_le_add (ih (fun l hl => h l (by omega))) (h n (by omega))
theorem sumN_congr {n : Nat} {f g : Nat → Nat} (h : ∀ l, l < n → f l = g l) : sumN n f = sumN n g := by
  induction n with
  | zero => rfl
  | succ n ih => rw [sumN, sumN, ih (fun l hl => h l (by omega)), h n (by omega)]
theorem sumN_mulr {n : Nat} (f : Nat → Nat) (c : Nat) : sumN n (fun l => f l * c) = sumN n f * c := by
  induction n with
  | zero => simp [sumN]
  | succ n ih => simp only [sumN]; rw [ih, Nat.add_mul]
theorem natAbs_sumI {n : Nat} (f : Nat → Int) : (sumI n f).natAbs ≤ sumN n (fun l => (f l).natAbs) := by
  induction n with
  | zero => simp [sumI, sumN]
  | succ n ih =>
    rw [sumI, sumN]
    have := Int.natAbs_add_le (sumI n f) (f n)
    omega
theorem prod_skip (n : Nat) (a s : Nat → Nat) : sumN (n + 1) (fun k => a k * prodN n (fun l => s (skp k l))) ≤ prodN (n + 1) (fun l => a l + s l) := by
  induction n with
  | zero => simp [sumN, prodN]
  | succ n ih =>
    rw [sumN]
    have h1 : sumN (n + 1) (fun k => a k * prodN (n + 1) (fun l => s (skp k l))) = sumN (n + 1) (fun k => a k * prodN n (fun l => s (skp k l))) * s (n + 1) := by
      rw [← sumN_mulr]
      refine sumN_congr (fun k hk => ?_)
      show a k * (prodN n (fun l => s (skp k l)) * s (skp k n)) = a k * prodN n (fun l => s (skp k l)) * s (n + 1)
      rw [show skp k n = n + 1 by unfold skp; rw [if_neg (by omega)], Nat.mul_assoc]
    have h2 : prodN (n + 1) (fun l => s (skp (n + 1) l)) ≤ prodN (n + 1) (fun l => a l + s l) := by
      refine prodN_mono (fun l hl => ?_)
      show s (skp (n + 1) l) ≤ a l + s l
      rw [show skp (n + 1) l = l by unfold skp; rw [if_pos hl]]; omega
    show _ ≤ prodN (n + 1) (fun l => a l + s l) * (a (n + 1) + s (n + 1))
    rw [h1, Nat.mul_add, Nat.add_comm (prodN (n + 1) (fun l => a l + s l) * a (n + 1))]
    exact Nat.add_le_add (Nat.mul_le_mul_right _ ih) (by rw [Nat.mul_comm (a (n + 1))]; exact Nat.mul_le_mul_right _ h2)
/-- the sum of the absolute values in some columns -/
def rsum (J : List Nat) (u : Nat → Int) : Nat := (J.map fun j => (u j).natAbs).sum
theorem dt_bound : ∀ (J : List Nat) (f : Nat → Nat → Int), (dt J f).natAbs ≤ prodN J.length (fun l => rsum J (f l))
  | [], f => by simp [dt, prodN]
  | j :: J, f => by
    rw [dt]
    refine Nat.le_trans (natAbs_sumI _) ?_
    refine Nat.le_trans (sumN_mono (g := fun k => (f k j).natAbs * prodN J.length (fun l => rsum J (f (skp k l)))) (fun k _ => ?_)) ?_
    · show (sgn k * f k j * dt J (fun l => f (skp k l))).natAbs ≤ _
      rw [Int.natAbs_mul, Int.natAbs_mul, show (sgn k).natAbs = 1 by unfold sgn; split <;> rfl, Nat.one_mul]
      exact Nat.mul_le_mul_left _ (dt_bound J (fun l => f (skp k l)))
    · have h := prod_skip J.length (fun k => (f k j).natAbs) (fun l => rsum J (f l))
      refine Nat.le_trans h (Nat.le_of_eq (prodN_congr (fun l _ => ?_)))
      simp [rsum]
theorem prodN_const (n c : Nat) : prodN n (fun _ => c) = c ^ n := by
  induction n with
  | zero => rfl
  | succ n ih => rw [prodN, ih, Nat.pow_succ]
/-- columns that are renamed -/
theorem dt_map (τ : Nat → Nat) : ∀ (J : List Nat) (f : Nat → Nat → Int), dt (J.map τ) f = dt J (fun l j => f l (τ j))
  | [], f => rfl
  | j :: J, f => by
    rw [List.map_cons, dt, dt, List.length_map]
    refine sumI_congr (fun k _ => ?_)
    show sgn k * f k (τ j) * dt (J.map τ) (fun l => f (skp k l)) = sgn k * f k (τ j) * dt J (fun l j => f (skp k l) (τ j))
    rw [dt_map τ J]
def prodI : Nat → (Nat → Int) → Int
  | 0, _ => 1
  | n + 1, g => prodI n g * g n
theorem prodI_front (n : Nat) (g : Nat → Int) : prodI (n + 1) g = g 0 * prodI n (fun l => g (l + 1)) := by
  induction n with
  | zero => simp [prodI]
  | succ n ih => rw [prodI, ih, prodI, Int.mul_assoc]
/-- a triangle -/
theorem dt_tri : ∀ (r s : Nat) (f : Nat → Nat → Int), (∀ l j, l < r → j < r → j < l → f l (s + j) = 0) → dt (List.range' s r) f = prodI r (fun l => f l (s + l))
  | 0, s, f, _ => rfl
  | r + 1, s, f, h => by
    rw [List.range'_succ, dt, List.length_range', prodI_front]
    have h0 := sumI_single (C := r + 1) (j := 0) (f := fun k => sgn k * f k s * dt (List.range' (s + 1) r) (fun l => f (skp k l))) (by omega) (fun l hl hne => by
      show sgn l * f l s * dt (List.range' (s + 1) r) (fun i => f (skp l i)) = 0
      have := h l 0 hl (by omega) (by omega)
      rw [Nat.add_zero] at this
      rw [this, Int.mul_zero, Int.zero_mul])
    rw [h0]
    have e : dt (List.range' (s + 1) r) (fun l => f (skp 0 l)) = prodI r (fun l => f (l + 1) (s + 1 + l)) := by
      rw [dt_tri r (s + 1) (fun l => f (skp 0 l)) (fun l j hl hj hlt => by
        show f (skp 0 l) (s + 1 + j) = 0
        rw [show skp 0 l = l + 1 by unfold skp; rw [if_neg (by omega)], show s + 1 + j = s + (j + 1) by omega]
        exact h (l + 1) (j + 1) (by omega) (by omega) (by omega))]
      rfl
    show sgn 0 * f 0 s * dt (List.range' (s + 1) r) (fun l => f (skp 0 l)) = f 0 (s + 0) * prodI r (fun l => f (l + 1) (s + (l + 1)))
    rw [e, show sgn 0 = 1 from rfl, Int.one_mul, Nat.add_zero]
    have e2 : (fun l => f (l + 1) (s + 1 + l)) = fun l => f (l + 1) (s + (l + 1)) := by funext l; rw [show s + 1 + l = s + (l + 1) by omega]
    rw [e2]; rfl
/-- multiples of one row are added to all others -/
theorem dt_many {J : List Nat} {f : Nat → Nat → Int} {a : Nat} (ha : a < J.length) (c : Nat → Int) (hc : c a = 0) : dt J (fun l j => f l j + c l * f a j) = dt J f := by
  have h : ∀ x, x ≤ J.length → dt J (fun l j => f l j + (if l < x then c l else 0) * f a j) = dt J f := by
    intro x
    induction x with
    | zero => intro _; exact dt_congr (fun l _ j _ => by rw [if_neg (by omega)]; simp)
    | succ x ih =>
      intro hx
      rw [← ih (by omega)]
      by_cases e : x = a
      · refine dt_congr (fun l _ j _ => ?_)
        by_cases q : l < x
        · rw [if_pos q, if_pos (by omega)]
        · by_cases q2 : l = x
          · rw [if_pos (by omega), if_neg q, q2, e, hc]
          · rw [if_neg q, if_neg (by omega)]
      · have h1 := dt_addmul (J := J) (f := fun l j => f l j + (if l < x then c l else 0) * f a j) ha (show x < J.length by omega) (fun z => e z.symm) (c x)
        rw [← h1]
        refine dt_congr (fun l _ j _ => ?_)
        unfold fup
        by_cases q2 : l = x
        · rw [if_pos q2, q2]
          simp only [if_neg (show ¬ x < x by omega), if_pos (show x < x + 1 by omega), Int.zero_mul, Int.add_zero]
          by_cases q3 : a < x
          · rw [if_pos q3, hc]; simp
          · rw [if_neg q3]; simp
        · rw [if_neg q2]
          show f l j + (if l < x + 1 then c l else 0) * f a j = f l j + (if l < x then c l else 0) * f a j
          by_cases q : l < x
          · rw [if_pos q, if_pos (by omega)]
          · rw [if_neg q, if_neg (by omega)]
  rw [← h J.length (Nat.le_refl _)]
  exact dt_congr (fun l hl j _ => by rw [if_pos hl])
/-- a row that is a combination of the rows -/
theorem dt_comb {J : List Nat} {f : Nat → Nat → Int} {k : Nat} (hk : k < J.length) (b : Nat → Int) : dt J (fup f k (fun j => sumI J.length (fun l => b l * f l j))) = b k * dt J f := by
  have h : ∀ x, x ≤ J.length → dt J (fup f k (fun j => sumI x (fun l => b l * f l j))) = (if k < x then b k else 0) * dt J f := by
    intro x
    induction x with
    | zero =>
      intro _
      rw [if_neg (by omega), Int.zero_mul]
      exact dt_zero hk
    | succ x ih =>
      intro hx
      have h1 := dt_lin (J := J) (f := f) (k := k) (fun j => sumI x (fun l => b l * f l j)) (f x) (b x) hk
      show dt J (fup f k (fun j => sumI x (fun l => b l * f l j) + b x * f x j)) = _
      rw [h1, ih (by omega)]
      by_cases e : x = k
      · subst e
        rw [fup_self, if_neg (by omega), if_pos (by omega)]; omega
      · have : dt J (fup f k (f x)) = 0 := dt_alike (show x < J.length by omega) hk e (fun j => by simp only [fup, if_neg e, if_pos])
        rw [this]
        by_cases q : k < x
        · rw [if_pos q, if_pos (by omega)]; omega
        · rw [if_neg q, if_neg (by omega)]; omega
  rw [h J.length (Nat.le_refl _), if_pos hk]
end Go.Proofs.Ytcjaloddgilnpaa

namespace Go.Proofs.Ytcjaloddgilnpaa
set_option linter.unusedVariables false

def prL2 : List Nat → Nat
  | [] => 1
  | a :: l => a * prL2 l
theorem prL2_perm {l k : List Nat} (h : l.Perm k) : prL2 l = prL2 k := by
  induction h with
  | nil => rfl
  | cons a _ ih => rw [prL2, prL2, ih]
  | swap a b l => rw [prL2, prL2, prL2, prL2, Nat.mul_left_comm]
  | trans _ _ h1 h2 => rw [h1, h2]
def fac : Nat → Nat
  | 0 => 1
  | n + 1 => (n + 1) * fac n
/-- numbers that differ, as many as there are up to n -/
theorem nodup_fac : ∀ (n : Nat) (l : List Nat), l.Nodup → (∀ x ∈ l, 1 ≤ x ∧ x ≤ n) → l.length = n → prL2 l = fac n
  | 0, l, _, _, hl => by rw [List.eq_nil_of_length_eq_zero hl]; rfl
  | n + 1, l, hd, hb, hl => by
    have hm : n + 1 ∈ l := by
      by_cases q : n + 1 ∈ l
      · exact q
      · exfalso
        have h1 := nodup_le n (l.map (fun x => x - 1)) (by
          rw [List.Nodup, List.pairwise_map]
          exact hd.imp_of_mem (fun {a b} ha hb' hne he => hne (by have := hb a ha; have := hb b hb'; omega)))
          (fun x hx => by
            obtain ⟨y, hy, rfl⟩ := List.mem_map.1 hx
            have := hb y hy
            have : y ≠ n + 1 := fun e => q (e ▸ hy)
            omega)
        rw [List.length_map] at h1
        omega
    rw [prL2_perm (List.perm_cons_erase hm), prL2, fac]
    rw [nodup_fac n (l.erase (n + 1)) (hd.erase _) (fun x hx => by
      have h2 := (List.Nodup.mem_erase_iff hd).1 hx
      have := hb x h2.2
      omega) (by rw [List.length_erase_of_mem hm]; omega)]
theorem fac_ne : ∀ n, n < p61 → fac n % p61 ≠ 0
  | 0, _ => by decide
  | n + 1, h => by
    rw [fac]
    exact p61_mul (by rw [Nat.mod_eq_of_lt h]; omega) (fac_ne n (by omega))
theorem p61_cancel {a b c : Nat} (h : c % p61 ≠ 0) (hab : b ≤ a) (he : c * a % p61 = c * b % p61) : a % p61 = b % p61 := by
  have h1 : (c * (a - b)) % p61 = 0 := by
    rw [Nat.mul_sub]
    have h2 : c * b ≤ c * a := Nat.mul_le_mul_left c hab
    have := Nat.div_add_mod (c * a) p61
    have := Nat.div_add_mod (c * b) p61
    rw [he] at *
    have e : c * a - c * b = p61 * (c * a / p61 - c * b / p61) := by rw [Nat.mul_sub]; omega
    rw [e, Nat.mul_mod_right]
  have h3 : (a - b) % p61 = 0 := by
    by_cases q : (a - b) % p61 = 0
    · exact q
    · exact absurd h1 (p61_mul h q)
  have := Nat.div_add_mod (a - b) p61
  rw [h3] at this
  rw [show a = b + p61 * ((a - b) / p61) by omega, Nat.add_mul_mod_self_left]
theorem p61_cancel' {a b c : Nat} (h : c % p61 ≠ 0) (he : c * a % p61 = c * b % p61) : a % p61 = b % p61 := by
  rcases Nat.le_total b a with q | q
  · exact p61_cancel h q he
  · exact (p61_cancel h q he.symm).symm
theorem prL2_mul {a : Nat} : ∀ (l : List Nat), prL2 (l.map (fun x => a * x % p61)) % p61 = a ^ l.length * prL2 l % p61
  | [] => by simp [prL2]
  | b :: l => by
    rw [List.map_cons, prL2, prL2, List.length_cons, Nat.pow_succ, Nat.mul_mod, Nat.mod_mod, prL2_mul l, ← Nat.mul_mod]
    congr 1
    rw [Nat.mul_mul_mul_comm, Nat.mul_comm a (a ^ l.length), Nat.mul_comm b (prL2 l), Nat.mul_comm (prL2 l) b]
theorem fermat {a : Nat} (h : a % p61 ≠ 0) : a ^ (p61 - 1) % p61 = 1 := by
  have hp : 1 < p61 := by decide
  obtain ⟨P, hP⟩ : ∃ P, P = p61 - 1 := ⟨_, rfl⟩
  rw [← hP]
  have hrange : prL2 ((List.range P).map (· + 1)) = fac P := nodup_fac P _ (by
    rw [List.Nodup, List.pairwise_map]
    exact List.pairwise_lt_range.imp (fun hlt he => by omega)) (fun x hx => by
      obtain ⟨y, hy, rfl⟩ := List.mem_map.1 hx
      have := List.mem_range.1 hy
      omega) (by simp)
  have hmul : prL2 (((List.range P).map (· + 1)).map (fun x => a * x % p61)) = fac P := nodup_fac P _ (by
    rw [List.Nodup, List.pairwise_map, List.pairwise_map]
    refine List.pairwise_lt_range.imp_of_mem (fun {i j} hi hj hlt he => ?_)
    have h1 := List.mem_range.1 hi
    have h2 := List.mem_range.1 hj
    have h3 := p61_cancel' h he
    rw [Nat.mod_eq_of_lt (by omega), Nat.mod_eq_of_lt (by omega)] at h3
    omega) (fun x hx => by
      obtain ⟨y, hy, rfl⟩ := List.mem_map.1 hx
      obtain ⟨z, hz, rfl⟩ := List.mem_map.1 hy
      have h1 := List.mem_range.1 hz
      have h2 := p61_mul h (show (z + 1) % p61 ≠ 0 by rw [Nat.mod_eq_of_lt (by omega)]; omega)
      have h3 := Nat.mod_lt (a * (z + 1)) (show 0 < p61 by omega)
      omega) (by simp)
  have h4 := prL2_mul (a := a) ((List.range P).map (· + 1))
  rw [hmul, hrange] at h4
  simp only [List.length_map, List.length_range] at h4
  have h5 : fac P * 1 % p61 = fac P * a ^ P % p61 := by rw [Nat.mul_one, h4, Nat.mul_comm]
  have h6 := p61_cancel' (fac_ne P (by omega)) h5
  rw [← h6, Nat.mod_eq_of_lt hp]
/-- the inverse that the code reckons -/
theorem invF_mul {a : Nat} (h : a % p61 ≠ 0) : a * invF a % p61 = 1 := by
  rw [invF_eq, Nat.mul_mod, Nat.mod_mod, ← Nat.mul_mod, Nat.mul_comm, ← Nat.pow_succ]
  have e : p61 - 2 + 1 = p61 - 1 := by decide
  rw [Nat.succ_eq_add_one, e]
  exact fermat h
end Go.Proofs.Ytcjaloddgilnpaa

namespace Go.Proofs.Ytcjaloddgilnpaa
set_option linter.unusedVariables false

/-- two numbers change places -/
def tr2 (a b i : Nat) : Nat := if i = b then a else if i = a then b else i
theorem tr2_tr2 (a b i : Nat) : tr2 a b (tr2 a b i) = i := by unfold tr2; split <;> split <;> (try split) <;> omega
theorem tr2_lt {a b i n : Nat} (ha : a < n) (hb : b < n) (hi : i < n) : tr2 a b i < n := by unfold tr2; split <;> (try split) <;> omega
theorem ge_swR {A : List (List Nat)} {a b : Nat} (ha : a < A.length) (hb : b < A.length) (i j : Nat) : ge (swR A a b) i j = ge A (tr2 a b i) j := by
  unfold ge tr2
  rw [gr_swR ha hb]
  split
  · rfl
  · split <;> rfl
theorem ge_swC {C : Nat} {A : List (List Nat)} (hc : Cl C A) {a b i j : Nat} (ha : a < C) (hb : b < C) (hi : i < A.length) : ge (swC A a b) i j = ge A i (tr2 a b j) := by
  unfold ge tr2
  rw [gr_swC hi, gn_swp (by rw [hc i hi]; exact ha) (by rw [hc i hi]; exact hb)]
  split
  · rfl
  · split <;> rfl
theorem ge_elS {C k x y i j : Nat} {A : List (List Nat)} (hc : Cl C A) (hk : k < A.length) (hkC : k < C) (hx : x < A.length) (hy : y < C) (hi : i < A.length) : ge (elS A k x y) i j = ge A (tr2 x k i) (tr2 y k j) := by
  unfold elS
  rw [ge_swC (hc.swR hx hk) hy hkC (by rw [swR_length]; exact hi), ge_swR hx hk]
/-- a bijection of the numbers below n -/
structure Bij (n : Nat) (ρ : Nat → Nat) : Prop where
  lt : ∀ i, i < n → ρ i < n
  inj : ∀ i j, i < n → j < n → ρ i = ρ j → i = j
  sur : ∀ i, i < n → ∃ j, j < n ∧ ρ j = i
theorem Bij.id (n : Nat) : Bij n (fun i => i) := ⟨fun _ h => h, fun _ _ _ _ h => h, fun i h => ⟨i, h, rfl⟩⟩
theorem Bij.tr {n : Nat} {ρ : Nat → Nat} (h : Bij n ρ) {a b : Nat} (ha : a < n) (hb : b < n) : Bij n (fun i => ρ (tr2 a b i)) :=
  ⟨fun i hi => h.lt _ (tr2_lt ha hb hi), fun i j hi hj e => by
    have := h.inj _ _ (tr2_lt ha hb hi) (tr2_lt ha hb hj) e
    rw [← tr2_tr2 a b i, ← tr2_tr2 a b j, this],
   fun i hi => by
    obtain ⟨j, hj, e⟩ := h.sur i hi
    exact ⟨tr2 a b j, tr2_lt ha hb hj, by rw [tr2_tr2]; exact e⟩⟩
/-- at stage k the determinants of A, with the first k rows, are those of M with its rows and columns renamed -/
structure EI (n C k : Nat) (M : Nat → Nat → Int) (A : List (List Nat)) (ρ κ : Nat → Nat) : Prop where
  len : A.length = n
  det : ∀ (J : List Nat) (R : Nat → Nat), k ≤ J.length → (∀ j ∈ J, j < C) → (∀ l, l < J.length → R l < n) → (∀ l, l < k → R l = l) → ((2305843009213693951 : Nat) : Int) ∣ dt J (fun l j => (ge A (R l) j : Int)) - dt J (fun l j => M (ρ (R l)) (κ j))
  tri : ∀ i j, i < n → j < k → j < i → ge A i j = 0
  row : Bij n ρ
  col : Bij C κ
theorem EI.start {n C : Nat} {M : Nat → Nat → Int} {A : List (List Nat)} (hl : A.length = n) (h : ∀ i j, i < n → j < C → ((2305843009213693951 : Nat) : Int) ∣ (ge A i j : Int) - M i j) : EI n C 0 M A (fun i => i) (fun j => j) :=
  ⟨hl, fun J R _ hJ hR _ => dt_mod (fun l hl' j hj => h _ _ (hR l hl') (hJ j hj)), fun i j _ hj => by omega, Bij.id n, Bij.id C⟩
theorem EI.elS {n C k x y : Nat} {M : Nat → Nat → Int} {A : List (List Nat)} {ρ κ : Nat → Nat} (h : EI n C k M A ρ κ) (hc : Cl C A) (hk : k < n) (hkC : k < C) (hx : x < n) (hy : y < C) (hkx : k ≤ x) (hky : k ≤ y) :
    EI n C k M (elS A k x y) (fun i => ρ (tr2 x k i)) (fun j => κ (tr2 y k j)) := by
  have hl := h.len
  have hg : ∀ i j, i < n → ge (Go.Proofs.Ytcjaloddgilnpaa.elS A k x y) i j = ge A (tr2 x k i) (tr2 y k j) := fun i j hi => ge_elS hc (by omega) hkC (by omega) hy (by omega)
  refine ⟨by rw [elS_length]; exact hl, fun J R hJl hJ hR hRk => ?_, fun i j hi hj hji => ?_, h.row.tr hx hk, h.col.tr hy hkC⟩
  · have h1 := h.det (J.map (tr2 y k)) (fun l => tr2 x k (R l)) (by simpa using hJl) (fun j hj => by
      obtain ⟨i, hi, rfl⟩ := List.mem_map.1 hj
      exact tr2_lt hy hkC (hJ i hi)) (fun l hl' => tr2_lt hx hk (hR l (by simpa using hl'))) (fun l hl' => by
      rw [hRk l hl']; unfold tr2; rw [if_neg (by omega), if_neg (by omega)])
    rw [dt_map, dt_map] at h1
    rw [dt_congr (J := J) (f := fun l j => (ge (Go.Proofs.Ytcjaloddgilnpaa.elS A k x y) (R l) j : Int)) (g := fun l j => (ge A (tr2 x k (R l)) (tr2 y k j) : Int)) (fun l hl' j _ => by rw [hg _ _ (hR l hl')])]
    exact h1
  · rw [hg i j hi]
    refine h.tri _ _ (tr2_lt hx hk hi) ?_ ?_
    · unfold tr2; rw [if_neg (by omega), if_neg (by omega)]; exact hj
    · unfold tr2; rw [if_neg (by omega), if_neg (by omega)]; split <;> (try split) <;> omega
theorem ge_elN {C k i j : Nat} {A : List (List Nat)} (hc : Cl C A) (hi : i < A.length) (hj : j < C) :
    ge (elN A k) i j = if k < i ∧ ge A i k ≠ 0 ∧ k ≤ j then (ge A i j + (2305843009213693951 - ge A i k * invF (ge A k k) % 2305843009213693951 * ge A k j % 2305843009213693951)) % 2305843009213693951 else ge A i j := by
  unfold elN
  show gn (gr _ i) j = _
  rw [gr_updR hi]
  by_cases q : k < i
  · rw [if_pos ⟨by omega, hi⟩]
    unfold elR
    by_cases z : gn (gr A i) k = 0
    · rw [if_pos z, if_neg (fun w => w.2.1 z)]; rfl
    · rw [if_neg z, gn_cmb (by rw [hc i hi]; exact hj), hc i hi]
      by_cases w : k ≤ j
      · rw [if_pos ⟨w, hj⟩, if_pos ⟨q, z, w⟩]; rfl
      · rw [if_neg (fun v => w v.1), if_neg (fun v => w v.2.2)]; rfl
  · rw [if_neg (by omega), if_neg (fun w => q w.1)]; rfl
theorem EI.elN {n C k : Nat} {M : Nat → Nat → Int} {A : List (List Nat)} {ρ κ : Nat → Nat} (h : EI n C k M A ρ κ) (hc : Cl C A) (hs : Ltm 2305843009213693951 A) (hk : k < n) (hkC : k < C) (hp : ge A k k ≠ 0) : EI n C (k + 1) M (elN A k) ρ κ := by
  have hl := h.len
  have hg : ∀ i j, i < n → j < C → ge (Go.Proofs.Ytcjaloddgilnpaa.elN A k) i j = if k < i ∧ ge A i k ≠ 0 ∧ k ≤ j then (ge A i j + (2305843009213693951 - ge A i k * invF (ge A k k) % 2305843009213693951 * ge A k j % 2305843009213693951)) % 2305843009213693951 else ge A i j := fun i j hi hj => ge_elN hc (by omega) hj
  obtain ⟨c, hcd⟩ : ∃ c : Nat → Int, c = fun i => if k < i ∧ ge A i k ≠ 0 then -((ge A i k * invF (ge A k k) % 2305843009213693951 : Nat) : Int) else 0 := ⟨_, rfl⟩
  have hmod : ∀ i j, i < n → j < C → ((2305843009213693951 : Nat) : Int) ∣ (ge (Go.Proofs.Ytcjaloddgilnpaa.elN A k) i j : Int) - ((ge A i j : Int) + c i * (ge A k j : Int)) := by
    intro i j hi hj
    rw [hg i j hi hj, hcd]
    simp only
    by_cases q : k < i ∧ ge A i k ≠ 0
    · rw [if_pos q]
      by_cases w : k ≤ j
      · rw [if_pos ⟨q.1, q.2, w⟩, Int.neg_mul, ← Int.natCast_mul, ← Int.sub_eq_add_neg]
        exact mod_sub_dvd 2305843009213693951 _ _ (by omega)
      · rw [if_neg (fun v => w v.2.2), h.tri k j hk (by omega) (by omega)]
        simp
    · rw [if_neg q, if_neg (fun v => q ⟨v.1, v.2.1⟩)]
      simp
  refine ⟨by rw [elN_length]; exact hl, fun J R hJl hJ hR hRk => ?_, fun i j hi hj hji => ?_, h.row, h.col⟩
  · have h1 := h.det J R (by omega) hJ hR (fun l hl' => hRk l (by omega))
    have h2 : ((2305843009213693951 : Nat) : Int) ∣ dt J (fun l j => (ge (Go.Proofs.Ytcjaloddgilnpaa.elN A k) (R l) j : Int)) - dt J (fun l j => (ge A (R l) j : Int) + c (R l) * (ge A (R k) j : Int)) := dt_mod (fun l hl' j hj => by
      rw [hRk k (by omega)]
      exact hmod _ _ (hR l hl') (hJ j hj))
    have h3 := dt_many (J := J) (f := fun l j => (ge A (R l) j : Int)) (a := k) (by omega) (fun l => c (R l)) (by
      show c (R k) = 0
      rw [hRk k (by omega), hcd]; simp)
    rw [h3] at h2
    have h4 := Int.dvd_add h2 h1
    rwa [show ∀ a b d : Int, a - b + (b - d) = a - d from fun a b d => by omega] at h4
  · rw [hg i j hi (by omega)]
    by_cases e : j = k
    · subst e
      split
      · next q =>
        have hf := invF_mul (a := ge A j j) (by rw [p61_def, Nat.mod_eq_of_lt (hs j j)]; exact hp)
        rw [p61_def] at hf
        have e1 : ge A i j * invF (ge A j j) % 2305843009213693951 * ge A j j % 2305843009213693951 = ge A i j := by
          rw [Nat.mul_mod, Nat.mod_mod, ← Nat.mul_mod, Nat.mul_assoc, Nat.mul_comm (invF _), Nat.mul_mod, hf, Nat.mul_one, Nat.mod_mod, Nat.mod_eq_of_lt (hs i j)]
        rw [e1, show ge A i j + (2305843009213693951 - ge A i j) = 2305843009213693951 by have := hs i j; omega, Nat.mod_self]
      · next q =>
        by_cases z : ge A i j = 0
        · exact z
        · exact absurd ⟨hji, z, Nat.le_refl j⟩ q
    · rw [if_neg (fun v => by omega)]
      exact h.tri i j hi (by omega) hji
/-- up to the sign -/
def Pm1 (a b : Int) : Prop := ((2305843009213693951 : Nat) : Int) ∣ a - b ∨ ((2305843009213693951 : Nat) : Int) ∣ a + b
theorem elM_pm {mi v e : Nat} {b : Int} (h : Pm1 (mi : Int) b) : Pm1 (elM mi v e : Int) (b * (v : Int)) := by
  have h1 : ((2305843009213693951 : Nat) : Int) ∣ ((mi * v % 2305843009213693951 : Nat) : Int) - (mi : Int) * (v : Int) := by
    have := Nat.div_add_mod (mi * v) 2305843009213693951
    refine ⟨-((mi * v / 2305843009213693951 : Nat) : Int), ?_⟩
    rw [← Int.natCast_mul]
    omega
  have h2 : Pm1 ((mi : Int) * (v : Int)) (b * (v : Int)) := by
    rcases h with h | h
    · left; rw [← Int.sub_mul]; exact Int.dvd_trans h (Int.dvd_mul_right _ _)
    · right; rw [← Int.add_mul]; exact Int.dvd_trans h (Int.dvd_mul_right _ _)
  have hl : mi * v % 2305843009213693951 < 2305843009213693951 := Nat.mod_lt _ (by omega)
  unfold elM
  generalize mi * v % 2305843009213693951 = q at *
  generalize (mi : Int) * (v : Int) = A at *
  generalize b * (v : Int) = B at *
  split
  · have h3 := mod_sub_dvd 2305843009213693951 0 q (by omega)
    rw [Nat.mod_eq_of_lt hl] at h3
    generalize (0 + (2305843009213693951 - q)) % 2305843009213693951 = z at *
    rcases h2 with h2 | h2
    · right
      have := Int.dvd_sub h3 (Int.dvd_sub (Int.dvd_neg.2 h1) h2) 
      have e : (z : Int) + B = ((z : Int) - (((0 : Nat) : Int) - (q : Int))) - ((q : Int) - A) - (A - B) := by omega
      rw [e]
      exact Int.dvd_sub (Int.dvd_sub h3 h1) h2
    · left
      have e : (z : Int) - B = ((z : Int) - (((0 : Nat) : Int) - (q : Int))) - ((q : Int) - A) - (A + B) := by omega
      rw [e]
      exact Int.dvd_sub (Int.dvd_sub h3 h1) h2
  · rcases h2 with h2 | h2
    · left
      have e : (q : Int) - B = ((q : Int) - A) + (A - B) := by omega
      rw [e]; exact Int.dvd_add h1 h2
    · right
      have e : (q : Int) + B = ((q : Int) - A) + (A + B) := by omega
      rw [e]; exact Int.dvd_add h1 h2
/-- what elimination ends with -/
structure Fin2 (n C r : Nat) (M : Nat → Nat → Int) (mi : Nat) (A : List (List Nat)) (ρ κ : Nat → Nat) : Prop where
  ei : EI n C r M A ρ κ
  rn : r ≤ n
  rC : r ≤ C
  zero : ∀ i j, r ≤ i → i < n → j < C → ge A i j = 0
  minor : Pm1 (mi : Int) (prodI r (fun l => (ge A l l : Int)))
theorem prodI_congr {r : Nat} {f g : Nat → Int} (h : ∀ l, l < r → f l = g l) : prodI r f = prodI r g := by
  induction r with
  | zero => rfl
  | succ r ih => rw [prodI, prodI, ih (fun l hl => h l (by omega)), h r (by omega)]
theorem elF_fin {n C : Nat} {M : Nat → Nat → Int} : ∀ (f : Nat) (A : List (List Nat)) (k mi : Nat) (ρ κ : Nat → Nat), EI n C k M A ρ κ → Cl C A → Ltm 2305843009213693951 A → k ≤ n → k ≤ C → n - k < f → Pm1 (mi : Int) (prodI k (fun l => (ge A l l : Int))) →
    ∃ r A' ρ' κ', Fin2 n C r M (elF C f A k mi).2 A' ρ' κ'
  | 0, A, k, mi, ρ, κ, h, hc, hs, hkn, hkC, hf, hm => by omega
  | f + 1, A, k, mi, ρ, κ, h, hc, hs, hkn, hkC, hf, hm => by
    have hl := h.len
    cases hF : findF A k C with
    | none =>
      rw [elF_none hF]
      refine ⟨k, A, ρ, κ, h, hkn, hkC, fun i j h1 h2 h3 => ?_, hm⟩
      rcases Nat.lt_or_ge j k with q | q
      · exact h.tri i j h2 q (by omega)
      · exact findF_none hF i j h1 (by omega) q h3
    | some xy =>
      obtain ⟨x, y⟩ := xy
      rw [elF_some hF]
      obtain ⟨q1, q2, q3, q4, _⟩ := findF_some hF
      rw [hl] at q2
      have hk : k < n := by omega
      have hkC' : k < C := by omega
      have h1 := h.elS hc hk hkC' q2 q4 q1 q3
      have hc1 : Cl C (elS A k x y) := hc.elS (by omega) (by omega)
      have hs1 : Ltm 2305843009213693951 (elS A k x y) := hs.elS hc (by omega) (by omega) hkC' (by omega) q4
      have h2 := h1.elN hc1 hs1 hk hkC' (elS_pos hc hF)
      refine elF_fin f _ _ _ _ _ h2 hc1.elN (hs1.elN hc1) (by omega) (by omega) (by omega) ?_
      have e1 : prodI (k + 1) (fun l => (ge (elN (elS A k x y) k) l l : Int)) = prodI k (fun l => (ge A l l : Int)) * (ge (elS A k x y) k k : Int) := by
        rw [prodI]
        have e2 : ∀ l, l ≤ k → ge (elN (elS A k x y) k) l l = ge (elS A k x y) l l := fun l hlk => by
          rw [ge_elN hc1 (by rw [elS_length]; omega) (by omega), if_neg (by omega)]
        rw [e2 k (Nat.le_refl _), prodI_congr (g := fun l => (ge A l l : Int)) (fun l hlk => by
          rw [e2 l (by omega), ge_elS hc (by omega) hkC' (by omega) q4 (by omega)]
          unfold tr2
          rw [if_neg (by omega), if_neg (by omega), if_neg (by omega), if_neg (by omega)])]
      rw [e1]
      exact elM_pm hm
end Go.Proofs.Ytcjaloddgilnpaa
