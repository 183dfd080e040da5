/- A vector in the kernel is kept by the steps of factors (plain). -/
/- The steps of factors keep a vector of the kernel; the last factor is the modulus (plain). -/
/- The invariants: a chain of divisors whose last one is 0 (plain). -/
import Derived.Test.YtcjaloddgilnpaaZFap
import Derived.Test.YtcjaloddgilnpaaZLmx
namespace Go.Proofs.Ytcjaloddgilnpaa
set_option linter.unusedVariables false

/-- a sum -/
def sumI : Nat → (Nat → Int) → Int
  | 0, _ => 0
  | c + 1, f => sumI c f + f c
theorem sumI_congr {C : Nat} {f g : Nat → Int} (h : ∀ l, l < C → f l = g l) : sumI C f = sumI C g := by
  induction C with
  | zero => rfl
  | succ c ih => rw [sumI, sumI, ih (fun l hl => h l (by omega)), h c (by omega)]
theorem sumI_one {C j : Nat} {f g : Nat → Int} (hj : j < C) (h : ∀ l, l < C → l ≠ j → f l = g l) : sumI C f = sumI C g + (f j - g j) := by
  induction C with
  | zero => omega
  | succ c ih =>
    rw [sumI, sumI]
    by_cases e : j = c
    · subst e
      rw [sumI_congr (f := f) (g := g) (fun l hl => h l (by omega) (by omega))]; omega
    · rw [ih (by omega) (fun l hl hne => h l (by omega) hne), h c (by omega) (fun q => e q.symm)]; omega
theorem sumI_two {C j k : Nat} {f g : Nat → Int} (hj : j < C) (hk : k < C) (hjk : j ≠ k) (h : ∀ l, l < C → l ≠ j → l ≠ k → f l = g l) : sumI C f = sumI C g + (f j - g j) + (f k - g k) := by
  have h1 := sumI_one (f := f) (g := fun l => if l = k then f k else g l) hj (fun l hl hne => by
    show f l = if l = k then f k else g l
    by_cases e : l = k
    · rw [if_pos e, e]
    · rw [if_neg e]; exact h l hl hne e)
  have h2 := sumI_one (f := fun l => if l = k then f k else g l) (g := g) hk (fun l hl hne => by
    show (if l = k then f k else g l) = g l
    rw [if_neg hne])
  simp only [if_neg hjk, if_pos] at h1 h2
  rw [h1, h2]; omega
theorem sumI_mod {m : Int} {C : Nat} {f g : Nat → Int} (h : ∀ l, l < C → m ∣ f l - g l) : m ∣ sumI C f - sumI C g := by
  induction C with
  | zero => simp [sumI]
  | succ c ih =>
    rw [sumI, sumI, show sumI c f + f c - (sumI c g + g c) = (sumI c f - sumI c g) + (f c - g c) by omega]
    exact Int.dvd_add (ih (fun l hl => h l (by omega))) (h c (by omega))
theorem sumI_sub {C : Nat} (f g : Nat → Int) (b : Int) : sumI C (fun l => f l - b * g l) = sumI C f - b * sumI C g := by
  induction C with
  | zero => simp [sumI]
  | succ c ih => simp only [sumI]; rw [ih, Int.mul_add]; omega
theorem sumI_mul {C : Nat} (f : Nat → Int) (b : Int) : sumI C (fun l => b * f l) = b * sumI C f := by
  induction C with
  | zero => simp [sumI]
  | succ c ih => simp only [sumI]; rw [ih, Int.mul_add]
theorem sumI_zero {C : Nat} : sumI C (fun _ => 0) = 0 := by
  induction C with
  | zero => rfl
  | succ c ih => rw [sumI, ih]; rfl
theorem sumI_single {C j : Nat} {f : Nat → Int} (hj : j < C) (h : ∀ l, l < C → l ≠ j → f l = 0) : sumI C f = f j := by
  have := sumI_one (f := f) (g := fun _ => 0) hj h
  rw [sumI_zero] at this
  omega

/-- a difference modulo m -/
theorem mod_sub_dvd (m a b : Nat) (hm : 0 < m) : (m : Int) ∣ (((a + (m - b % m)) % m : Nat) : Int) - ((a : Int) - (b : Int)) := by
  have h1 : b % m < m := Nat.mod_lt _ hm
  have h2 := Nat.div_add_mod (a + (m - b % m)) m
  have h3 := Nat.div_add_mod b m
  refine ⟨1 + ((b / m : Nat) : Int) - (((a + (m - b % m)) / m : Nat) : Int), ?_⟩
  have h4 : ((m : Int) * (((a + (m - b % m)) / m : Nat) : Int)) + (((a + (m - b % m)) % m : Nat) : Int) = (a : Int) + ((m : Int) - ((b % m : Nat) : Int)) := by
    have : ((m * ((a + (m - b % m)) / m) + (a + (m - b % m)) % m : Nat) : Int) = ((a + (m - b % m) : Nat) : Int) := by rw [h2]
    rw [Int.natCast_add, Int.natCast_mul] at this
    omega
  have h5 : ((m : Int) * ((b / m : Nat) : Int)) + ((b % m : Nat) : Int) = (b : Int) := by
    have : ((m * (b / m) + b % m : Nat) : Int) = (b : Int) := by rw [h3]
    rw [Int.natCast_add, Int.natCast_mul] at this
    exact this
  rw [Int.mul_sub, Int.mul_add, Int.mul_one]
  omega

/-- a vector of the kernel whose elements have no common divisor with m -/
structure Kv (m C k : Nat) (x0 : Nat → Int) (A : List (List Nat)) (x : Nat → Int) : Prop where
  blk : ∀ i j, i < A.length → j < C → (i < k ∨ j < k) → i ≠ j → ge A i j = 0
  ker : ∀ i, i < A.length → (m : Int) ∣ sumI C (fun j => (ge A i j : Int) * x j)
  uni : ∃ y : Nat → Int, (m : Int) ∣ sumI C (fun j => y j * x j) - 1
  old : ∀ i, i < k → x i = x0 i
def KV (m C k : Nat) (x0 : Nat → Int) (A : List (List Nat)) : Prop := ∃ x, Kv m C k x0 A x

section
variable {m C k : Nat} {x0 : Nat → Int} {A : List (List Nat)}
theorem KV.swR (h : KV m C k x0 A) {a b : Nat} (ha : a < A.length) (hb : b < A.length) (hka : k ≤ a) (hkb : k ≤ b) : KV m C k x0 (swR A a b) := by
  obtain ⟨x, h⟩ := h
  have hg : ∀ i j, ge (Go.Proofs.Ytcjaloddgilnpaa.swR A a b) i j = if i = b then ge A a j else if i = a then ge A b j else ge A i j := by
    intro i j
    unfold ge
    rw [gr_swR ha hb]
    split
    · rfl
    · split <;> rfl
  refine ⟨x, fun i j hi hj hor hne => ?_, fun i hi => ?_, h.uni, h.old⟩
  · rw [swR_length] at hi
    rw [hg]
    split
    · next e => exact h.blk a j ha hj (by omega) (by omega)
    · split
      · exact h.blk b j hb hj (by omega) (by omega)
      · exact h.blk i j hi hj hor hne
  · rw [swR_length] at hi
    have e : (fun j => (ge (Go.Proofs.Ytcjaloddgilnpaa.swR A a b) i j : Int) * x j) = fun j => (ge A (if i = b then a else if i = a then b else i) j : Int) * x j := by
      funext j
      rw [hg]
      split
      · rfl
      · split <;> rfl
    rw [e]
    refine h.ker _ ?_
    split
    · exact ha
    · split
      · exact hb
      · exact hi
/-- two columns are exchanged in all rows -/
theorem KV.swap {B : List (List Nat)} (h : KV m C k x0 A) (hl : B.length = A.length) {a b : Nat} (ha : a < C) (hb : b < C) (hka : k ≤ a) (hkb : k ≤ b) (hab : a ≠ b)
    (hg : ∀ i j, i < A.length → j < C → ge B i j = ge A i (if j = b then a else if j = a then b else j)) : KV m C k x0 B := by
  obtain ⟨x, h⟩ := h
  refine ⟨fun j => x (if j = b then a else if j = a then b else j), fun i j hi hj hor hne => ?_, fun i hi => ?_, ?_, fun i hi => ?_⟩
  · rw [hl] at hi
    rw [hg i j hi hj]
    split
    · next e => exact h.blk i a hi ha (by omega) (by omega)
    · split
      · exact h.blk i b hi hb (by omega) (by omega)
      · exact h.blk i j hi hj hor hne
  · rw [hl] at hi
    have e := sumI_two (f := fun j => (ge B i j : Int) * x (if j = b then a else if j = a then b else j)) (g := fun j => (ge A i j : Int) * x j) ha hb hab (fun l h1 h2 h3 => by
      show (ge B i l : Int) * _ = _
      rw [hg i l hi h1, if_neg h3, if_neg h2])
    simp only [hg i a hi ha, hg i b hi hb, if_neg hab, if_pos] at e
    rw [e, show sumI C (fun j => (ge A i j : Int) * x j) + ((ge A i b : Int) * x b - (ge A i a : Int) * x a) + ((ge A i a : Int) * x a - (ge A i b : Int) * x b) = sumI C (fun j => (ge A i j : Int) * x j) by omega]
    exact h.ker i hi
  · obtain ⟨y, hy⟩ := h.uni
    refine ⟨fun j => y (if j = b then a else if j = a then b else j), ?_⟩
    have e := sumI_two (f := fun j => y (if j = b then a else if j = a then b else j) * x (if j = b then a else if j = a then b else j)) (g := fun j => y j * x j) ha hb hab (fun l h1 h2 h3 => by
      show y _ * x _ = _
      rw [if_neg h3, if_neg h2])
    simp only [if_neg hab, if_pos] at e
    rw [e, show sumI C (fun j => y j * x j) + (y b * x b - y a * x a) + (y a * x a - y b * x b) = sumI C (fun j => y j * x j) by omega]
    exact hy
  · show x _ = _
    rw [if_neg (by omega), if_neg (by omega)]; exact h.old i hi
/-- a multiple of column k is taken from column j -/
theorem KV.col {B : List (List Nat)} (h : KV m C k x0 A) (hl : B.length = A.length) {j : Nat} {b : Int} (hj : j < C) (hkC : k < C) (hkj : k < j)
    (hg : ∀ i l, i < A.length → l < C → l ≠ j → ge B i l = ge A i l) (hm : ∀ i, i < A.length → (m : Int) ∣ (ge B i j : Int) - ((ge A i j : Int) - b * (ge A i k : Int))) (hz : ∀ i, i < k → i < A.length → ge B i j = 0) : KV m C k x0 B := by
  obtain ⟨x, h⟩ := h
  have hkj' : k ≠ j := by omega
  refine ⟨fun l => if l = k then x k + b * x j else x l, fun i l hi hl' hor hne => ?_, fun i hi => ?_, ?_, fun i hi => ?_⟩
  · rw [hl] at hi
    by_cases e : l = j
    · subst e
      exact hz i (by omega) hi
    · rw [hg i l hi hl' e]; exact h.blk i l hi hl' hor hne
  · rw [hl] at hi
    have e := sumI_two (f := fun l => (ge B i l : Int) * (if l = k then x k + b * x j else x l)) (g := fun l => (ge A i l : Int) * x l) hj hkC hkj'.symm (fun l h1 h2 h3 => by
      show (ge B i l : Int) * (if l = k then x k + b * x j else x l) = (ge A i l : Int) * x l
      rw [if_neg h3, hg i l hi h1 h2])
    simp only [if_neg hkj'.symm, if_pos, hg i k hi hkC hkj'] at e
    rw [e]
    obtain ⟨q, hq⟩ := hm i hi
    obtain ⟨p, hp⟩ := h.ker i hi
    refine ⟨p + q * x j, ?_⟩
    have e3 : (ge B i j : Int) = (ge A i j : Int) - b * (ge A i k : Int) + (m : Int) * q := by omega
    rw [e3, hp, Int.mul_add, ← Int.mul_assoc, Int.add_mul, Int.sub_mul, Int.mul_add, Int.mul_assoc b, Int.mul_left_comm b, ← Int.mul_assoc (ge A i k : Int) b]
    rw [Int.mul_assoc (m : Int) q (x j)]
    omega
  · obtain ⟨y, hy⟩ := h.uni
    refine ⟨fun l => if l = j then y j - b * y k else y l, ?_⟩
    have e := sumI_two (f := fun l => (if l = j then y j - b * y k else y l) * (if l = k then x k + b * x j else x l)) (g := fun l => y l * x l) hj hkC hkj'.symm (fun l h1 h2 h3 => by
      show (if l = j then y j - b * y k else y l) * (if l = k then x k + b * x j else x l) = y l * x l
      rw [if_neg h2, if_neg h3])
    simp only [if_neg hkj'.symm, if_neg hkj', if_pos] at e
    have e5 : (y j - b * y k) * x j - y j * x j + (y k * (x k + b * x j) - y k * x k) = 0 := by
      rw [Int.sub_mul, Int.mul_add, Int.mul_comm b (y k), Int.mul_assoc]; omega
    rw [e, show sumI C (fun j => y j * x j) + ((y j - b * y k) * x j - y j * x j) + (y k * (x k + b * x j) - y k * x k) = sumI C (fun j => y j * x j) by omega]
    exact hy
  · show (if i = k then x k + b * x j else x i) = x0 i
    rw [if_neg (by omega)]; exact h.old i hi
/-- a multiple of row k is taken from row i -/
theorem KV.row {B : List (List Nat)} (h : KV m C k x0 A) (hl : B.length = A.length) {i : Nat} {b : Int} (hi : i < A.length) (hki : k < i)
    (hg : ∀ r l, r < A.length → r ≠ i → ge B r l = ge A r l) (hm : ∀ l, l < C → (m : Int) ∣ (ge B i l : Int) - ((ge A i l : Int) - b * (ge A k l : Int))) (hz : ∀ l, l < k → l < C → ge B i l = 0) : KV m C k x0 B := by
  obtain ⟨x, h⟩ := h
  refine ⟨x, fun r l hr hl' hor hne => ?_, fun r hr => ?_, h.uni, h.old⟩
  · rw [hl] at hr
    by_cases e : r = i
    · subst e; exact hz l (by omega) hl'
    · rw [hg r l hr e]; exact h.blk r l hr hl' hor hne
  · rw [hl] at hr
    by_cases e : r = i
    · subst e
      have h1 : (m : Int) ∣ sumI C (fun l => (ge B r l : Int) * x l) - sumI C (fun l => (ge A r l : Int) * x l - b * ((ge A k l : Int) * x l)) := sumI_mod (fun l hl' => by
        obtain ⟨q, hq⟩ := hm l hl'
        refine ⟨q * x l, ?_⟩
        show (ge B r l : Int) * x l - ((ge A r l : Int) * x l - b * ((ge A k l : Int) * x l)) = _
        rw [show (m : Int) * (q * x l) = (m : Int) * q * x l from (Int.mul_assoc _ _ _).symm, ← hq, Int.sub_mul, Int.sub_mul, Int.mul_assoc b])
      rw [sumI_sub] at h1
      have h2 : (m : Int) ∣ sumI C (fun l => (ge A r l : Int) * x l) - b * sumI C (fun l => (ge A k l : Int) * x l) := Int.dvd_sub (h.ker r hr) (Int.dvd_trans (h.ker k (by omega)) (Int.dvd_mul_left _ _))
      have h3 := Int.dvd_add h1 h2
      rwa [Int.sub_add_cancel] at h3
    · have e2 : (fun j => (ge B r j : Int) * x j) = fun j => (ge A r j : Int) * x j := by funext j; rw [hg r j hr e]
      rw [e2]; exact h.ker r hr
end
end Go.Proofs.Ytcjaloddgilnpaa

namespace Go.Proofs.Ytcjaloddgilnpaa
set_option linter.unusedVariables false

section
variable {m C k : Nat} {x0 : Nat → Int} {A : List (List Nat)}
theorem KV.elS (h : KV m C k x0 A) (hc : Cl C A) {x y : Nat} (hk : k < A.length) (hkC : k < C) (hx : x < A.length) (hy : y < C) (hkx : k ≤ x) (hky : k ≤ y) : KV m C k x0 (elS A k x y) := by
  have h1 := h.swR hx hk hkx (Nat.le_refl k)
  have hc1 := hc.swR hx hk
  unfold Go.Proofs.Ytcjaloddgilnpaa.elS
  by_cases e : y = k
  · rw [e, swC_self]; exact h1
  · refine h1.swap (swC_length _ _ _) hy hkC hky (Nat.le_refl k) e (fun i j hi hj => ?_)
    have hl := hc1 i hi
    unfold ge
    rw [gr_swC hi, gn_swp (by rw [hl]; exact hy) (by rw [hl]; exact hkC)]
    split
    · rfl
    · split <;> rfl
theorem KV.rowPre (h : KV m C k x0 A) (hw : Wk m k C A) {i : Nat} (hi : i < A.length) (hki : k < i) : KV m C k x0 (rowPre k i A) := by
  unfold Go.Proofs.Ytcjaloddgilnpaa.rowPre
  split
  · exact h.swR hw.kn hi (Nat.le_refl _) (by omega)
  · exact h
theorem KV.rowStep (h : KV m C k x0 A) (hw : Wk m k C A) {i : Nat} (hi : i < A.length) (hki : k < i) : KV m C k x0 (rowStep m k i A) := by
  have h1 := h.rowPre hw hi hki
  have hc := hw.cl.rowPre hi hw.kn (k := k) (i := i)
  have hl : (gr (Go.Proofs.Ytcjaloddgilnpaa.rowPre k i A) i).length = C := hc i (by rw [rowPre_length]; exact hi)
  have hge : ∀ l, l < C → ge (Go.Proofs.Ytcjaloddgilnpaa.rowStep m k i A) i l = if k ≤ l then (ge (Go.Proofs.Ytcjaloddgilnpaa.rowPre k i A) i l + (m - ge (Go.Proofs.Ytcjaloddgilnpaa.rowPre k i A) i k / ge (Go.Proofs.Ytcjaloddgilnpaa.rowPre k i A) k k * ge (Go.Proofs.Ytcjaloddgilnpaa.rowPre k i A) k l % m)) % m else ge (Go.Proofs.Ytcjaloddgilnpaa.rowPre k i A) i l := by
    intro l hl'
    show gn (gr (Go.Proofs.Ytcjaloddgilnpaa.rowStep m k i A) i) l = _
    rw [gr_rowStep hi, if_pos rfl, gn_cmb (by rw [hl]; exact hl')]
    by_cases q : k ≤ l
    · rw [if_pos q, if_pos ⟨q, by rw [hl]; exact hl'⟩]; rfl
    · rw [if_neg q, if_neg (fun z => q z.1)]; rfl
  obtain ⟨xx, hh⟩ := h1
  have hi' : i < (Go.Proofs.Ytcjaloddgilnpaa.rowPre k i A).length := by rw [rowPre_length]; exact hi
  have hk' : k < (Go.Proofs.Ytcjaloddgilnpaa.rowPre k i A).length := by rw [rowPre_length]; exact hw.kn
  refine KV.row (b := ((ge (Go.Proofs.Ytcjaloddgilnpaa.rowPre k i A) i k / ge (Go.Proofs.Ytcjaloddgilnpaa.rowPre k i A) k k : Nat) : Int)) ⟨xx, hh⟩ (by rw [rowStep_length, rowPre_length]) hi' hki (fun r l hr hne => ?_) (fun l hl' => ?_) (fun l hlk hl' => ?_)
  · unfold ge; rw [gr_rowStep hi, if_neg hne]
  · rw [hge l hl']
    by_cases q : k ≤ l
    · rw [if_pos q, ← Int.natCast_mul]
      exact mod_sub_dvd m _ _ hw.m0
    · rw [if_neg q, hh.blk i l hi' hl' (by omega) (by omega), hh.blk k l hk' hl' (by omega) (by omega)]
      simp
  · rw [hge l hl', if_neg (by omega)]
    exact hh.blk i l hi' hl' (by omega) (by omega)
theorem KV.colPre (h : KV m C k x0 A) (hw : Wk m k C A) {j : Nat} (hj : j < C) (hkj : k < j) : KV m C k x0 (colPre k j A) := by
  unfold Go.Proofs.Ytcjaloddgilnpaa.colPre
  split
  · obtain ⟨xx, hh⟩ := h
    refine KV.swap (a := k) (b := j) ⟨xx, hh⟩ (updR_length _ _ _ _) hw.kC hj (Nat.le_refl k) (by omega) (by omega) (fun i l hi hl' => ?_)
    have hl := hw.cl i hi
    show gn (gr _ i) l = _
    rw [gr_updR hi]
    by_cases q : k ≤ i
    · rw [if_pos ⟨q, hi⟩, gn_swp (by rw [hl]; exact hw.kC) (by rw [hl]; exact hj)]
      split
      · rfl
      · split <;> rfl
    · rw [if_neg (fun z => q z.1)]
      have z1 := hh.blk i k hi hw.kC (by omega) (by omega)
      have z2 := hh.blk i j hi hj (by omega) (by omega)
      split
      · next e => rw [e]; exact z2.trans z1.symm
      · split
        · next e => rw [e]; exact z1.trans z2.symm
        · rfl
  · exact h
theorem KV.colStep (h : KV m C k x0 A) (hw : Wk m k C A) {j : Nat} (hj : j < C) (hkj : k < j) : KV m C k x0 (colStep m k j A) := by
  have h1 := h.colPre hw hj hkj
  have hp := hw.colPre hj
  obtain ⟨xx, hh⟩ := h1
  have hlen : ∀ i, i < A.length → (gr (Go.Proofs.Ytcjaloddgilnpaa.colPre k j A) i).length = C := fun i hi => hp.cl i (by rw [colPre_length]; exact hi)
  refine KV.col (b := ((ge (Go.Proofs.Ytcjaloddgilnpaa.colPre k j A) k j / ge (Go.Proofs.Ytcjaloddgilnpaa.colPre k j A) k k : Nat) : Int)) ⟨xx, hh⟩ (by rw [colStep_length, colPre_length]) hj hw.kC hkj (fun i l hi hl' hne => ?_) (fun i hi => ?_) (fun i hik hi => ?_)
  · rw [colPre_length] at hi
    unfold ge
    rw [gr_colStep hi]
    split
    · rw [gn_colF (by rw [hlen i hi]; exact hj), if_neg hne]
    · rfl
  · have hi' := hi
    rw [colPre_length] at hi
    by_cases q : k ≤ i
    · have e : ge (Go.Proofs.Ytcjaloddgilnpaa.colStep m k j A) i j = (ge (Go.Proofs.Ytcjaloddgilnpaa.colPre k j A) i j + (m - ge (Go.Proofs.Ytcjaloddgilnpaa.colPre k j A) k j / ge (Go.Proofs.Ytcjaloddgilnpaa.colPre k j A) k k * ge (Go.Proofs.Ytcjaloddgilnpaa.colPre k j A) i k % m)) % m := by
        show gn (gr _ i) j = _
        rw [gr_colStep hi, if_pos q, gn_colF (by rw [hlen i hi]; exact hj), if_pos rfl]; rfl
      rw [e, ← Int.natCast_mul]
      exact mod_sub_dvd m _ _ hw.m0
    · have e : ge (Go.Proofs.Ytcjaloddgilnpaa.colStep m k j A) i j = ge (Go.Proofs.Ytcjaloddgilnpaa.colPre k j A) i j := by
        show gn (gr _ i) j = _
        rw [gr_colStep hi, if_neg q]; rfl
      rw [e, hh.blk i j hi' hj (by omega) (by omega), hh.blk i k hi' hw.kC (by omega) (by omega)]
      simp
  · have hi' := hi
    rw [colPre_length] at hi
    show gn (gr _ i) j = 0
    rw [gr_colStep hi, if_neg (by omega)]
    exact hh.blk i j hi' hj (by omega) (by omega)
end
theorem KV.rowWhile {m C k i : Nat} {x0 : Nat → Int} (hki : k < i) : ∀ (f : Nat) (A : List (List Nat)), KV m C k x0 A → Wk m k C A → i < A.length → KV m C k x0 (rowWhile m k i f A)
  | 0, A, h, _, _ => h
  | f + 1, A, h, hw, hi => by
    rw [Go.Proofs.Ytcjaloddgilnpaa.rowWhile]; split
    · exact h
    · exact KV.rowWhile hki f _ (h.rowStep hw hi hki) (hw.rowStep hi (by omega)) (by rw [rowStep_length]; exact hi)
theorem KV.rowsU {m C k : Nat} {x0 : Nat → Int} {A : List (List Nat)} (h : KV m C k x0 A) (hw : Wk m k C A) : ∀ x, k + 1 + x ≤ A.length → KV m C k x0 (rowsU m k A x)
  | 0, _ => h
  | x + 1, hx => by
    rw [Go.Proofs.Ytcjaloddgilnpaa.rowsU]
    exact KV.rowWhile (by omega) _ _ (KV.rowsU h hw x (by omega)) (rowsU_all hw x (by omega)).1 (by rw [rowsU_length]; omega)
theorem KV.colWhile {m C k j : Nat} {x0 : Nat → Int} (hj : j < C) (hkj : k < j) : ∀ (f : Nat) (A : List (List Nat)), KV m C k x0 A → Wk m k C A → KV m C k x0 (colWhile m k j f A)
  | 0, A, h, _ => h
  | f + 1, A, h, hw => by
    rw [Go.Proofs.Ytcjaloddgilnpaa.colWhile]; split
    · exact h
    · exact KV.colWhile hj hkj f _ (h.colStep hw hj hkj) (hw.colStep hj (by omega))
theorem KV.colsU {m C k : Nat} {x0 : Nat → Int} {A : List (List Nat)} (h : KV m C k x0 A) (hw : Wk m k C A) : ∀ y, k + 1 + y ≤ C → KV m C k x0 (colsU m k A y)
  | 0, _ => h
  | y + 1, hy => by
    rw [Go.Proofs.Ytcjaloddgilnpaa.colsU]
    exact KV.colWhile (by omega) (by omega) _ _ (KV.colsU h hw y (by omega)) (colsU_all hw y (by omega)).1
theorem KV.rowsAll {m C k : Nat} {x0 : Nat → Int} {A : List (List Nat)} (h : KV m C k x0 A) (hw : Wk m k C A) : KV m C k x0 (rowsAll m k A) := h.rowsU hw _ (by have := hw.kn; omega)
theorem KV.colsAll {m C k : Nat} {x0 : Nat → Int} {A : List (List Nat)} (h : KV m C k x0 A) (hw : Wk m k C A) : KV m C k x0 (colsAll m k C A) := h.colsU hw _ (by have := hw.kC; omega)
theorem KV.isoF {m C k : Nat} {x0 : Nat → Int} : ∀ (f : Nat) (A : List (List Nat)), KV m C k x0 A → Wk m k C A → KV m C k x0 (isoF m k C f A)
  | 0, A, h, _ => h
  | f + 1, A, h, hw => by
    rw [Go.Proofs.Ytcjaloddgilnpaa.isoF]; split
    · exact KV.isoF f _ ((h.rowsAll hw).colsAll hw.rowsAll) hw.rowsAll.colsAll
    · exact (h.rowsAll hw).colsAll hw.rowsAll
/-- only rows k and i are touched -/
theorem rowStep_other {m k i r : Nat} {A : List (List Nat)} (hi : i < A.length) (hk : k < A.length) (h1 : r ≠ i) (h2 : r ≠ k) : gr (rowStep m k i A) r = gr A r := by
  rw [gr_rowStep hi, if_neg h1]
  unfold rowPre
  split
  · rw [gr_swR hk hi, if_neg h1, if_neg h2]
  · rfl
theorem rowWhile_other {m k i r : Nat} (h1 : r ≠ i) (h2 : r ≠ k) : ∀ (f : Nat) (A : List (List Nat)), i < A.length → k < A.length → gr (rowWhile m k i f A) r = gr A r
  | 0, A, _, _ => rfl
  | f + 1, A, hi, hk => by
    rw [rowWhile]; split
    · rfl
    · rw [rowWhile_other h1 h2 f _ (by rw [rowStep_length]; exact hi) (by rw [rowStep_length]; exact hk), rowStep_other hi hk h1 h2]
theorem rowsU_zero {m k C : Nat} {A : List (List Nat)} (h : Wk m k C A) : ∀ x, k + 1 + x ≤ A.length → ∀ i, k < i → i < k + 1 + x → ge (rowsU m k A x) i k = 0
  | 0, _, i, h1, h2 => by omega
  | x + 1, hx, i, h1, h2 => by
    rw [rowsU]
    have hw := (rowsU_all h x (by omega)).1
    have hl := rowsU_length m k A x
    by_cases e : i = k + 1 + x
    · subst e
      exact (rowWhile_all (i := k + 1 + x) (by omega) _ _ hw (by rw [hl]; omega) (Nat.le_refl _)).2.1
    · unfold ge
      rw [rowWhile_other e (by omega) _ _ (by rw [hl]; omega) (by rw [hl]; omega)]
      exact rowsU_zero h x (by omega) i h1 (by omega)
theorem colsU_same {m k : Nat} {A : List (List Nat)} : ∀ y, (∀ j, k < j → j < k + 1 + y → ge A k j = 0) → colsU m k A y = A
  | 0, _ => rfl
  | y + 1, h => by
    have e := colsU_same (m := m) y (fun j h1 h2 => h j h1 (by omega))
    rw [colsU, e, colWhile_done (h _ (by omega) (by omega))]
theorem isoF_zero {m k C : Nat} : ∀ (f : Nat) (A : List (List Nat)), Wk m k C A → isoM k C A < f → (∀ i, k < i → i < A.length → ge (isoF m k C f A) i k = 0) ∧ (∀ j, k < j → j < C → ge (isoF m k C f A) k j = 0)
  | 0, A, _, h => by omega
  | f + 1, A, hw, h => by
    rw [isoF]
    split
    · next hc =>
      obtain ⟨a, b⟩ := isoF_zero f _ hw.rowsAll.colsAll (by have := isoM_less hw hc; omega)
      exact ⟨fun i h1 h2 => a i h1 (by rw [colsAll_length, rowsAll_length]; exact h2), b⟩
    · next hc =>
      have hz : ∀ j, k < j → j < C → ge (rowsAll m k A) k j = 0 := by
        intro j h1 h2
        by_cases e : ge (rowsAll m k A) k j = 0
        · exact e
        · exact absurd (chg_true.2 ⟨j, h1, h2, e⟩) hc
      have hkC := hw.kC
      have hkn := hw.kn
      have e : colsAll m k C (rowsAll m k A) = rowsAll m k A := colsU_same _ (fun j h1 h2 => hz j h1 (by omega))
      rw [e]
      exact ⟨fun i h1 h2 => rowsU_zero hw _ (by omega) i h1 (by omega), hz⟩
/-- one more place of the diagonal -/
theorem Kv.succ {m C k : Nat} {x0 : Nat → Int} {A : List (List Nat)} {x : Nat → Int} (h : Kv m C k x0 A x) (hk : k < A.length) (hkC : k < C) (hc : ∀ i, k < i → i < A.length → ge A i k = 0) (hr : ∀ j, k < j → j < C → ge A k j = 0) :
    Kv m C (k + 1) x A x ∧ (m : Int) ∣ (ge A k k : Int) * x k := by
  refine ⟨⟨fun i j hi hj hor hne => ?_, h.ker, h.uni, fun _ _ => rfl⟩, ?_⟩
  · by_cases q : i < k ∨ j < k
    · exact h.blk i j hi hj q hne
    · by_cases e : i = k
      · subst e; exact hr j (by omega) hj
      · have e2 : j = k := by omega
        subst e2; exact hc i (by omega) hi
  · have := h.ker k hk
    rwa [sumI_single (f := fun j => (ge A k j : Int) * x j) hkC (fun l hl hne => by
      show (ge A k l : Int) * x l = 0
      have : ge A k l = 0 := by
        rcases Nat.lt_or_ge l k with q | q
        · exact h.blk k l hk hl (Or.inr q) (fun e => hne e.symm)
        · exact hr l (by omega) hl
      rw [this]; simp)] at this
theorem gcd_dvd_mul {m a : Nat} {x : Int} (h : (m : Int) ∣ (a : Int) * x) : (m : Int) ∣ (Nat.gcd a m : Int) * x := by
  rw [Int.ofNat_dvd_left, Int.natAbs_mul, Int.natAbs_natCast] at h ⊢
  rw [← Nat.gcd_mul_right]
  exact Nat.dvd_gcd h (Nat.dvd_mul_right _ _)
theorem facA_kv {m C : Nat} {A : List (List Nat)} (hl : Ltm m A) (hc : Cl C A) (hm : 0 < m) {x00 : Nat → Int} (h : KV m C 0 x00 A) : ∀ k, k ≤ A.length → k ≤ C → ∃ x, Kv m C k x (facA m C A k) x ∧ ∀ i, i < k → (m : Int) ∣ (dgv m C A i : Int) * x i
  | 0, _, _ => by
    obtain ⟨x, hx⟩ := h
    exact ⟨x, ⟨hx.blk, hx.ker, hx.uni, fun _ _ => rfl⟩, fun i hi => by omega⟩
  | k + 1, h1, h2 => by
    obtain ⟨x, hx, hd⟩ := facA_kv hl hc hm h k (by omega) (by omega)
    obtain ⟨l1, l2, l3⟩ := facA_all hl hc hm k
    have key : ∃ x', Kv m C k x (facA m C A (k + 1)) x' ∧ (∀ i, k < i → i < A.length → ge (facA m C A (k + 1)) i k = 0) ∧ (∀ j, k < j → j < C → ge (facA m C A (k + 1)) k j = 0) ∧ (facA m C A (k + 1)).length = A.length := by
      rw [facA]
      cases hF : findF (facA m C A k) k C with
      | none =>
        rw [facS_none hF]
        have hz := findF_none hF
        exact ⟨x, hx, fun i q1 q2 => hz i k (by omega) (by omega) (Nat.le_refl _) (by omega), fun j q1 q2 => hz k j (Nat.le_refl _) (by omega) (by omega) q2, l3⟩
      | some xy =>
        obtain ⟨a, b⟩ := xy
        obtain ⟨q1, q2, q3, q4, _⟩ := findF_some hF
        rw [facS_some hF]
        have hw := wk_of_find hF l1 l2 hm
        have hk1 := KV.elS (x := a) (y := b) ⟨x, hx⟩ l2 (by omega) (by omega) q2 q4 q1 q3
        obtain ⟨x', hx'⟩ := KV.isoF (isoM k C (elS (facA m C A k) k a b) + 1) _ hk1 hw
        obtain ⟨z1, z2⟩ := isoF_zero (isoM k C (elS (facA m C A k) k a b) + 1) _ hw (by omega)
        exact ⟨x', hx', fun i p1 p2 => z1 i p1 (by rw [elS_length]; omega), z2, by rw [isoF_length, elS_length]; exact l3⟩
    obtain ⟨x', hx', z1, z2, l4⟩ := key
    obtain ⟨s1, s2⟩ := hx'.succ (by omega) (by omega) (fun i p1 p2 => z1 i p1 (by omega)) z2
    refine ⟨x', s1, fun i hi => ?_⟩
    by_cases e : i = k
    · subst e; exact gcd_dvd_mul s2
    · have := hd i (by omega)
      rw [hx'.old i (by omega)]; exact this
/-- the chain of divisors -/
def Chn (d i : Nat) (D : List Nat) : Prop := ∀ a b, a < i → a < b → b < d → gn D a ∣ gn D b
theorem chU_chn {d i : Nat} {E : List Nat} (hE : E.length = d) (hi : i < d) (h : Chn d i E) : ∀ x, i + 1 + x ≤ d → Chn d i (chU i E x) ∧ ∀ k, i < k → k < i + 1 + x → gn (chU i E x) i ∣ gn (chU i E x) k
  | 0, _ => ⟨h, fun k h1 h2 => by omega⟩
  | x + 1, hx => by
    obtain ⟨h1, h2⟩ := chU_chn hE hi h x (by omega)
    have hl : (chU i E x).length = d := by rw [chU_length]; exact hE
    have hg := gn_chS (i := i) (k := i + 1 + x) (D := chU i E x) (by omega) (by omega)
    rw [chU]
    generalize chU i E x = F at *
    refine ⟨fun a b ha hab hb => ?_, fun k hk1 hk2 => ?_⟩
    · rw [hg, hg, if_neg (by omega), if_neg (by omega)]
      split
      · exact Nat.dvd_trans (h1 a i ha (by omega) hi) (Nat.dvd_lcm_left _ _)
      · split
        · exact Nat.dvd_gcd (h1 a i ha (by omega) hi) (h1 a (i + 1 + x) ha (by omega) (by omega))
        · exact h1 a b ha hab hb
    · rw [hg, hg, if_neg (by omega), if_pos rfl]
      split
      · exact Nat.dvd_trans (Nat.gcd_dvd_left _ _) (Nat.dvd_lcm_left _ _)
      · rw [if_neg (by omega)]
        exact Nat.dvd_trans (Nat.gcd_dvd_left _ _) (h2 k hk1 (by omega))
theorem chI_chn {d : Nat} {D : List Nat} (hD : D.length = d) : ∀ i, i ≤ d → Chn d i (chI d D i)
  | 0, _ => fun a b ha => by omega
  | i + 1, hi => by
    obtain ⟨h1, h2⟩ := chU_chn (d := d) (i := i) (E := chI d D i) (by rw [chI_length]; exact hD) (by omega) (chI_chn hD i (by omega)) (d - (i + 1)) (by omega)
    rw [chI]
    intro a b ha hab hb
    by_cases e : a = i
    · subst e; exact h2 b hab (by omega)
    · exact h1 a b (by omega) hab hb
/-- what all of the end divide, all of the beginning divide -/
theorem chU_back {i X : Nat} {E : List Nat} (hi : i < E.length) : ∀ x, i + 1 + x ≤ E.length → (∀ j, j < E.length → gn (chU i E x) j ∣ X) → ∀ j, j < E.length → gn E j ∣ X
  | 0, _, h => h
  | x + 1, hx, h => by
    refine chU_back hi x (by omega) (fun j hj => ?_)
    have hl : (chU i E x).length = E.length := chU_length _ _ _
    have hg := gn_chS (i := i) (k := i + 1 + x) (D := chU i E x) (by omega) (by omega)
    have hk := h (i + 1 + x) (by omega)
    rw [chU, hg, if_pos rfl] at hk
    have hj' := h j hj
    rw [chU, hg] at hj'
    by_cases e1 : j = i + 1 + x
    · rw [e1]; exact Nat.dvd_trans (Nat.dvd_lcm_right _ _) hk
    · by_cases e2 : j = i
      · rw [e2]; exact Nat.dvd_trans (Nat.dvd_lcm_left _ _) hk
      · rw [if_neg e1, if_neg e2] at hj'; exact hj'
theorem chI_back {d X : Nat} {D : List Nat} (hD : D.length = d) : ∀ i, i ≤ d → (∀ j, j < d → gn (chI d D i) j ∣ X) → ∀ j, j < d → gn D j ∣ X
  | 0, _, h => h
  | i + 1, hi, h => by
    refine chI_back hD i (by omega) (fun j hj => ?_)
    have hl : (chI d D i).length = d := by rw [chI_length]; exact hD
    exact chU_back (i := i) (E := chI d D i) (by omega) (d - (i + 1)) (by omega) (fun j hj => h j (by omega)) j (by omega)
theorem facD_chn (m C : Nat) (rows : List (List Int)) (d : Nat) : Chn d d (facD m C rows d) := chI_chn (dgP_length _ _ _ _ _) d (Nat.le_refl _)
/-- if a vector of the kernel has no common divisor with m, the last factor is m -/
theorem facD_last {m C : Nat} {rows : List (List Int)} (hm : 0 < m) (hc : ∀ r ∈ rows, r.length = C) (hC : 0 < C) (hn : C ≤ rows.length) {x00 : Nat → Int} (h : KV m C 0 x00 (resF m rows)) : gn (facD m C rows C) (C - 1) = m := by
  have hlt : Ltm m (resF m rows) := by
    intro i j
    unfold ge gr resF
    rw [List.getElem?_map]
    cases hr : rows[i]? with
    | none => simpa [gn] using hm
    | some r =>
      simp only [Option.map_some, Option.getD_some]
      unfold gn resR
      rw [List.getElem?_map]
      cases hx : r[j]? with
      | none => simpa using hm
      | some x => simp only [Option.map_some, Option.getD_some]; exact rs_lt hm x
  have hcl : Cl C (resF m rows) := by
    intro i hi
    rw [resF_length] at hi
    unfold gr resF
    rw [List.getElem?_map, List.getElem?_eq_getElem hi]
    simp only [Option.map_some, Option.getD_some, resR, List.length_map]
    exact hc _ (List.getElem_mem hi)
  obtain ⟨x, hx, hd⟩ := facA_kv hlt hcl hm h C (by rw [resF_length]; exact hn) (Nat.le_refl _)
  have hl : (facD m C rows C).length = C := by unfold facD; rw [chI_length, dgP_length]
  have hdv : gn (facD m C rows C) (C - 1) ∣ m := (dgP_dvs m C _ C).chI (dgP_length _ _ _ _ _) C (Nat.le_refl _) (C - 1) (by rw [chI_length, dgP_length]; omega)
  obtain ⟨X, hX⟩ : ∃ X, X = gn (facD m C rows C) (C - 1) := ⟨_, rfl⟩
  rw [← hX] at hdv ⊢
  have hall : ∀ j, j < C → gn (facD m C rows C) j ∣ X := by
    intro j hj
    rw [hX]
    by_cases e : j = C - 1
    · rw [e]; exact Nat.dvd_refl _
    · exact facD_chn m C rows C j (C - 1) hj (by omega) (by omega)
  have hdg : ∀ j, j < C → dgv m C (resF m rows) j ∣ X := by
    intro j hj
    have := chI_back (D := dgP m C (resF m rows) C C) (dgP_length _ _ _ _ _) C (Nat.le_refl _) hall j hj
    rwa [gn_dgP hj, if_pos hj] at this
  have hmx : ∀ j, j < C → (m : Int) ∣ (X : Int) * x j := by
    intro j hj
    obtain ⟨t, ht⟩ := hdg j hj
    rw [ht, Int.natCast_mul, Int.mul_comm (dgv m C (resF m rows) j : Int), Int.mul_assoc]
    exact Int.dvd_trans (hd j hj) (Int.dvd_mul_left _ _)
  obtain ⟨y, hy⟩ := hx.uni
  have h1 : (m : Int) ∣ sumI C (fun j => (X : Int) * (y j * x j)) - sumI C (fun _ => 0) := sumI_mod (fun l hl => by
    show (m : Int) ∣ (X : Int) * (y l * x l) - 0
    rw [Int.sub_zero, Int.mul_left_comm]
    exact Int.dvd_trans (hmx l hl) (Int.dvd_mul_left _ _))
  rw [sumI_zero, Int.sub_zero, sumI_mul] at h1
  have h2 : (m : Int) ∣ (X : Int) * (sumI C (fun j => y j * x j) - 1) := Int.dvd_trans hy (Int.dvd_mul_left _ _)
  have h3 : (m : Int) ∣ (X : Int) := by
    have := Int.dvd_sub h1 h2
    rwa [Int.mul_sub, Int.mul_one, show ∀ a b : Int, a - (a - b) = b from fun a b => by omega] at this
  exact Nat.dvd_antisymm hdv (Int.natCast_dvd_natCast.1 h3)
end Go.Proofs.Ytcjaloddgilnpaa

namespace Go.Proofs.Ytcjaloddgilnpaa
set_option linter.unusedVariables false

theorem rs_mod {m : Nat} (hm : 0 < m) (x : Int) : (m : Int) ∣ (rs m x : Int) - x := by
  unfold rs
  split
  · next h =>
    have := mod_sub_dvd m 0 x.natAbs hm
    rwa [show ((0 : Nat) : Int) - (x.natAbs : Int) = x by omega] at this
  · next h =>
    have h1 := Nat.div_add_mod x.natAbs m
    refine ⟨-((x.natAbs / m : Nat) : Int), ?_⟩
    have h2 : ((m * (x.natAbs / m) + x.natAbs % m : Nat) : Int) = (x.natAbs : Int) := by rw [h1]
    rw [Int.natCast_add, Int.natCast_mul] at h2
    rw [Int.mul_neg]
    omega
theorem ge_resF {m : Nat} {rows : List (List Int)} {i j : Nat} (hi : i < rows.length) (hj : j < rows[i].length) : ge (resF m rows) i j = rs m (gi rows[i] j) := by
  unfold ge gr resF
  rw [List.getElem?_map, List.getElem?_eq_getElem hi]
  simp only [Option.map_some, Option.getD_some]
  unfold gn resR gi
  rw [List.getElem?_map, List.getElem?_eq_getElem hj]; rfl
theorem kv_start {m C : Nat} {rows : List (List Int)} (hm : 0 < m) (hC : 0 < C) (hc : ∀ r ∈ rows, r.length = C) (hs : ∀ r ∈ rows, sumI C (gi r) = 0) : KV m C 0 (fun _ => 1) (resF m rows) := by
  refine ⟨fun _ => 1, fun i j _ _ h => by omega, fun i hi => ?_, ⟨fun j => if j = 0 then 1 else 0, ?_⟩, fun i hi => by omega⟩
  · rw [resF_length] at hi
    have hl := hc _ (List.getElem_mem hi)
    have h0 := hs _ (List.getElem_mem hi)
    have h1 : (m : Int) ∣ sumI C (fun j => (ge (resF m rows) i j : Int) * 1) - sumI C (gi rows[i]) := sumI_mod (fun l hl' => by
      show (m : Int) ∣ (ge (resF m rows) i l : Int) * 1 - gi rows[i] l
      rw [Int.mul_one, ge_resF hi (by rw [hl]; exact hl')]
      exact rs_mod hm _)
    rwa [h0, Int.sub_zero] at h1
  · have e := sumI_single (f := fun j => (if j = 0 then (1 : Int) else 0) * 1) hC (fun l _ hne => by
      show (if l = 0 then (1 : Int) else 0) * 1 = 0
      rw [if_neg hne]; rfl)
    have e2 : (fun j : Nat => (if j = 0 then (1 : Int) else 0) * (fun _ => 1) j) = fun j => (if j = 0 then (1 : Int) else 0) * 1 := rfl
    rw [e2, e]
    simp
theorem sum_addI {C : Nat} {r : List Int} {i : Nat} (d : Int) (hr : r.length = C) (hi : i < C) : sumI C (gi (addI r i d)) = sumI C (gi r) + d := by
  have h := sumI_one (f := gi (addI r i d)) (g := gi r) hi (fun l _ hne => by
    unfold addI; rw [gi_set _ _ _ _ (by omega), if_neg hne])
  rw [h]
  unfold addI
  rw [gi_set _ _ _ _ (by omega), if_pos rfl]; omega
theorem sum_rowM {arc : List Nat} {cols c : Nat} (h0 : gn arc (4 * c) < cols) (h1 : gn arc (4 * c + 1) < cols) (h2 : gn arc (4 * c + 2) < cols) : sumI cols (gi (rowM arc cols c)) = 0 := by
  unfold rowM
  rw [sum_addI _ (by simp [addI_length]) h2, sum_addI _ (by simp [addI_length]) h0, sum_addI _ (by simp) h1]
  have : sumI cols (gi (List.replicate cols 0)) = 0 := by
    rw [sumI_congr (g := fun _ => 0) (fun l _ => gi_zeros cols l)]; exact sumI_zero
  rw [this]; rfl
theorem rowsOf_zero {S M : List Int} {L : Int} (k : Ok S M L) : ∀ r ∈ rowsOf S M L, sumI (colN M L) (gi r) = 0 := by
  intro r hr
  unfold rowsOf matM at hr
  obtain ⟨c, hc, rfl⟩ := List.mem_map.1 hr
  have hc' := List.mem_range.1 hc
  have hm := k.m
  exact sum_rowM (arc_lt k (by omega)) (arc_lt k (by omega)) (arc_lt k (by omega))
section
variable {S M : List Int} {L : Int}
theorem gn_invL {j : Nat} (h : j < colN M L) : gn (invL S M L) j = gn (facL S M L) j := by unfold invL; rw [gn_map_range, if_pos h]
theorem inv_last (k : Ok S M L) (hK : 0 < colN M L) : gn (invL S M L) (colN M L - 1) = 0 := by
  rw [gn_invL (by omega)]
  by_cases hd : (facL S M L).length ≤ colN M L - 1
  · exact gn_out hd
  · rw [facL_length] at hd
    have hn : 0 < S.length := by omega
    have hcols := rowsOf_cols (S := S) (M := M) (L := L) hn
    have hmin : min S.length (cols (rowsOf S M L)) = colN M L := by have := cols_le (S := S) (M := M) (L := L); omega
    obtain ⟨m0, _⟩ := smD_bd (C := cols (rowsOf S M L)) (rows := rowsOf S M L) rowsOf_len
    have hc : ∀ r ∈ rowsOf S M L, r.length = colN M L := fun r hr => by rw [rowsOf_len r hr, hcols]
    unfold facL facO
    rw [hmin, hcols] at *
    have hlast := facD_last (m := smD (colN M L) (rowsOf S M L)) (C := colN M L) (rows := rowsOf S M L) m0 hc hK (by rw [rowsOf_length]; omega) (kv_start m0 hK hc (rowsOf_zero k))
    rw [gn_outP (by rw [facD_length]; omega), if_neg (fun q => q.2 hlast)]
theorem inv_next (k : Ok S M L) {i : Nat} (h0 : 0 < i) (hi : i < colN M L) : (gn (invL S M L) (i - 1) = 0 → gn (invL S M L) i = 0) ∧ gn (invL S M L) i % gn (invL S M L) (i - 1) = 0 := by
  obtain ⟨m0, _⟩ := smD_bd (C := cols (rowsOf S M L)) (rows := rowsOf S M L) rowsOf_len
  rw [gn_invL hi, gn_invL (by omega)]
  have hl := facL_length S M L
  rcases Nat.lt_or_ge i (facL S M L).length with q | q
  · have hch := facD_chn (smD (cols (rowsOf S M L)) (rowsOf S M L)) (cols (rowsOf S M L)) (rowsOf S M L) (min S.length (cols (rowsOf S M L))) (i - 1) i (by omega) (by omega) (by omega)
    have hdv := facD_dvs (smD (cols (rowsOf S M L)) (rowsOf S M L)) (cols (rowsOf S M L)) (rowsOf S M L) (min S.length (cols (rowsOf S M L))) i (by rw [facD_length]; omega)
    have hl2 := facD_length (smD (cols (rowsOf S M L)) (rowsOf S M L)) (cols (rowsOf S M L)) (rowsOf S M L) (min S.length (cols (rowsOf S M L)))
    unfold facL facO
    rw [gn_outP (by omega), gn_outP (by omega)]
    generalize facD (smD (cols (rowsOf S M L)) (rowsOf S M L)) (cols (rowsOf S M L)) (rowsOf S M L) (min S.length (cols (rowsOf S M L))) = D at *
    generalize smD (cols (rowsOf S M L)) (rowsOf S M L) = m at *
    generalize min S.length (cols (rowsOf S M L)) = d at *
    by_cases e1 : gn D (i - 1) = m
    · rw [e1] at hch
      have e2 : gn D i = m := Nat.dvd_antisymm hdv hch
      rw [if_neg (c := i < d ∧ gn D i ≠ m) (fun z => z.2 e2)]
      exact ⟨fun _ => rfl, Nat.zero_mod _⟩
    · rw [if_pos (c := i - 1 < d ∧ gn D (i - 1) ≠ m) ⟨by omega, e1⟩]
      have hp : gn D (i - 1) ≠ 0 := fun z => by
        rw [z] at hch
        have := Nat.eq_zero_of_zero_dvd hch
        rw [this] at hdv
        have := Nat.eq_zero_of_zero_dvd hdv
        omega
      refine ⟨fun z => absurd z hp, ?_⟩
      split
      · exact Nat.mod_eq_zero_of_dvd hch
      · exact Nat.zero_mod _
  · rw [gn_out q]; exact ⟨fun _ => rfl, Nat.zero_mod _⟩
end
/-- as the law reckons the product -/
def prL (l : List Nat) (m : Nat) : Nat → Nat × Bool
  | 0 => (1, false)
  | x + 1 => if 1125899906842624 < (prL l m x).1 * Nat.gcd (gn l x) m then (1, true) else ((prL l m x).1 * Nat.gcd (gn l x) m, (prL l m x).2)
theorem prL_bd (l : List Nat) {m : Nat} (hm : 0 < m) : ∀ x, 1 ≤ (prL l m x).1 ∧ (prL l m x).1 ≤ 1125899906842624
  | 0 => by simp [prL]
  | x + 1 => by
    have h := prL_bd l hm x
    have hg : 0 < Nat.gcd (gn l x) m := Nat.gcd_pos_of_pos_right _ hm
    rw [prL]; split
    · simp
    · exact ⟨Nat.mul_pos h.1 hg, by simp only; omega⟩
theorem prL_cnt (l : List Nat) {m : Nat} (hm : 0 < m) : ∀ x, cntP l m x = if (prL l m x).2 = true then none else some (prL l m x).1
  | 0 => rfl
  | x + 1 => by
    have h := prL_cnt l hm x
    have hg : 0 < Nat.gcd (gn l x) m := Nat.gcd_pos_of_pos_right _ hm
    rw [prL]
    by_cases hb : (prL l m x).2 = true
    · rw [if_pos hb] at h
      rw [cntP_none h (x + 1) (by omega)]
      split
      · rfl
      · rfl
    · rw [if_neg hb] at h
      rw [cntP_step h]
      have he : 1125899906842624 / Nat.gcd (gn l x) m < (prL l m x).1 ↔ 1125899906842624 < (prL l m x).1 * Nat.gcd (gn l x) m := Nat.div_lt_iff_lt_mul hg
      by_cases q : 1125899906842624 < (prL l m x).1 * Nat.gcd (gn l x) m
      · rw [if_pos (he.2 q), if_pos q]; rfl
      · rw [if_neg (fun z => q (he.1 z)), if_neg q]
        show _ = if (prL l m x).2 = true then none else some _
        rw [if_neg hb]
end Go.Proofs.Ytcjaloddgilnpaa
