/- The number of solutions of a diagonal matrix is a product of greatest common divisors (plain). -/
/- Lists of colors one after the other; what a coloring is (plain). -/
/- unravelref27.Next. -/
/- unravelref27.Coloring, of lists of colors in the range. -/
/- unravelref27.Count, where there are few lists. -/
import Derived.Test.YtcjaloddgilnpaaZCtk
import Derived.Test.YtcjaloddgilnpaaZGcr
import Derived.Test.YtcjaloddgilnpaaZLis
import Derived.Deep.QuietTactic
namespace Go.Proofs.Ytcjaloddgilnpaa
set_option linter.unusedVariables false

def cN : Nat → (Nat → Bool) → Nat
  | 0, _ => 0
  | n + 1, p => cN n p + if p n = true then 1 else 0
theorem cN_filter (p : Nat → Bool) : ∀ n, ((List.range n).filter p).length = cN n p
  | 0 => rfl
  | n + 1 => by
    rw [List.range_succ, List.filter_append, List.length_append, cN_filter p n, cN]
    by_cases h : p n = true
    · simp [h]
    · simp [h]
theorem cN_congr {n : Nat} {p q : Nat → Bool} (h : ∀ t, t < n → p t = q t) : cN n p = cN n q := by
  induction n with
  | zero => rfl
  | succ n ih => rw [cN, cN, ih (fun t ht => h t (by omega)), h n (by omega)]
theorem cN_add (n a : Nat) (p : Nat → Bool) : cN (n + a) p = cN n p + cN a (fun t => p (n + t)) := by
  induction a with
  | zero => simp [cN]
  | succ a ih => rw [← Nat.add_assoc, cN, ih, cN]; omega
theorem cN_true (n : Nat) : cN n (fun _ => true) = n := by
  induction n with
  | zero => rfl
  | succ n ih => rw [cN, ih]; rfl
theorem cN_false (n : Nat) : cN n (fun _ => false) = 0 := by
  induction n with
  | zero => rfl
  | succ n ih => rw [cN, ih]; rfl
theorem cN_mul {a : Nat} (ha : 0 < a) (b : Nat) (p q : Nat → Bool) : cN (a * b) (fun t => p (t % a) && q (t / a)) = cN a p * cN b q := by
  induction b with
  | zero => simp [cN]
  | succ b ih =>
    rw [Nat.mul_succ, cN_add, ih, cN, Nat.mul_add]
    congr 1
    have e : cN a (fun t => p ((a * b + t) % a) && q ((a * b + t) / a)) = cN a (fun t => p t && q b) := cN_congr (fun t ht => by
      rw [Nat.mul_add_mod, Nat.mod_eq_of_lt ht, Nat.mul_add_div ha, Nat.div_eq_of_lt ht, Nat.add_zero])
    rw [e]
    by_cases h : q b = true
    · rw [if_pos h, Nat.mul_one, h]
      exact cN_congr (fun t _ => by simp)
    · have h' : q b = false := by simpa using h
      rw [if_neg h, Nat.mul_zero, h', cN_congr (q := fun _ => false) (fun t _ => by simp)]
      exact cN_false a
theorem cN_one {a : Nat} (ha : 0 < a) : cN a (fun t => decide (t = 0)) = 1 := by
  obtain ⟨b, rfl⟩ : ∃ b, a = b + 1 := ⟨a - 1, by omega⟩
  induction b with
  | zero => rfl
  | succ b ih => rw [cN, ih (by omega)]; simp
/-- how many of the numbers below e are killed by s modulo e -/
theorem cN_gcd (s : Int) {e : Nat} (he : 0 < e) : cN e (fun x => decide ((e : Int) ∣ s * (x : Int))) = Nat.gcd s.natAbs e := by
  obtain ⟨g, hg⟩ : ∃ g, g = Nat.gcd s.natAbs e := ⟨_, rfl⟩
  have hg0 : 0 < g := by rw [hg]; exact Nat.gcd_pos_of_pos_right _ he
  obtain ⟨d, hd⟩ : g ∣ e := by rw [hg]; exact Nat.gcd_dvd_right _ _
  obtain ⟨u, hu⟩ : g ∣ s.natAbs := by rw [hg]; exact Nat.gcd_dvd_left _ _
  have hd0 : 0 < d := by
    rcases Nat.eq_zero_or_pos d with z | z
    · rw [z, Nat.mul_zero] at hd; omega
    · exact z
  have hco : Nat.gcd u d = 1 := by
    have h1 : Nat.gcd (g * u) (g * d) = g := by rw [← hu, ← hd]; exact hg.symm
    rw [Nat.gcd_mul_left] at h1
    exact Nat.eq_of_mul_eq_mul_left hg0 (by rw [h1, Nat.mul_one])
  rw [← hg]
  have e1 : cN e (fun x => decide ((e : Int) ∣ s * (x : Int))) = cN (d * g) (fun t => (fun t => decide (t = 0)) (t % d) && (fun _ => true) (t / d)) := by
    rw [show d * g = e by rw [hd, Nat.mul_comm]]
    refine cN_congr (fun t _ => ?_)
    simp only [Bool.and_true]
    rw [decide_eq_decide]
    rw [Int.ofNat_dvd_left, Int.natAbs_mul, Int.natAbs_natCast, hu]
    constructor
    · intro h
      rw [hd, Nat.mul_assoc] at h
      have h2 := Nat.dvd_of_mul_dvd_mul_left hg0 h
      exact Nat.mod_eq_zero_of_dvd (Nat.Coprime.dvd_of_dvd_mul_left (Nat.coprime_comm.1 hco) h2)
    · intro h
      obtain ⟨w, hw⟩ := Nat.dvd_of_mod_eq_zero h
      refine ⟨u * w, ?_⟩
      rw [hd, hw, Nat.mul_assoc, Nat.mul_assoc]
      congr 1
      rw [Nat.mul_left_comm]
  rw [e1, cN_mul hd0 g (fun t => decide (t = 0)) (fun _ => true), cN_one hd0, cN_true, Nat.one_mul]
theorem dg_mod {e t : Nat} {j C : Nat} (h : j < C) : dg e (t % e ^ C) j = dg e t j := by
  unfold dg
  obtain ⟨k, rfl⟩ : ∃ k, C = j + 1 + k := ⟨C - (j + 1), by omega⟩
  have e1 : e ^ (j + 1 + k) = e ^ j * (e * e ^ k) := by rw [Nat.pow_add, Nat.pow_succ, Nat.mul_assoc]
  rw [e1, Nat.mod_mul_right_div_self, Nat.mod_mul_right_mod]
/-- a property of each place by itself -/
theorem cntV_prod {e : Nat} (he : 0 < e) (P : Nat → Nat → Bool) : ∀ C, cntV e C (fun x => (List.range C).all fun j => P j (x j)) = prodN C (fun j => cN e (P j))
  | 0 => by simp [cntV, prodN]
  | C + 1 => by
    have ih := cntV_prod he P C
    unfold cntV at ih ⊢
    rw [cN_filter] at ih ⊢
    rw [prodN, ← ih, Nat.pow_succ, ← cN_mul (Nat.pow_pos he) e (fun t => (List.range C).all fun j => P j (dg e t j)) (P C)]
    refine cN_congr (fun t ht => ?_)
    show ((List.range (C + 1)).all fun j => P j (dg e t j)) = _
    rw [List.range_succ, List.all_append]
    have h1 : (List.range C).all (fun j => P j (dg e t j)) = (List.range C).all (fun j => P j (dg e (t % e ^ C) j)) := by
      rw [Bool.eq_iff_iff, List.all_eq_true, List.all_eq_true]
      constructor
      · intro h j hj; rw [dg_mod (List.mem_range.1 hj)]; exact h j hj
      · intro h j hj; have := h j hj; rwa [dg_mod (List.mem_range.1 hj)] at this
    have h2 : dg e t C = t / e ^ C := by
      unfold dg
      exact Nat.mod_eq_of_lt ((Nat.div_lt_iff_lt_mul (Nat.pow_pos he)).2 (by rw [Nat.mul_comm]; exact ht))
    rw [h1]
    simp only [List.all_cons, List.all_nil, Bool.and_true, h2]
/-- the factor of place j -/
def fct (n : Nat) (M : Nat → Nat → Int) (e j : Nat) : Nat := if j < n then Nat.gcd (M j j).natAbs e else e
theorem nSol_diag {n C : Nat} {M : Nat → Nat → Int} {e : Nat} (he : 0 < e) (hz : ∀ i j, i < n → j < C → i ≠ j → M i j = 0) : nSol n C M e = prodN C (fct n M e) := by
  have h1 : nSol n C M e = cntV e C (fun x => (List.range C).all fun j => (fun (j y : Nat) => if j < n then decide ((e : Int) ∣ M j j * (y : Int)) else true) j (x j)) := by
    refine cntV_congr (fun x => ?_)
    rw [Bool.eq_iff_iff, solB_true, List.all_eq_true]
    constructor
    · intro h j hj
      have hj' := List.mem_range.1 hj
      simp only
      split
      · next q =>
        have := h j q
        rw [sumI_single (f := fun l => M j l * (x l : Int)) hj' (fun l hl hne => by
          show M j l * (x l : Int) = 0
          rw [hz j l q hl (fun w => hne w.symm), Int.zero_mul])] at this
        exact decide_eq_true this
      · rfl
    · intro h i hi
      rcases Nat.lt_or_ge i C with q | q
      · have h2 := h i (List.mem_range.2 q)
        simp only [if_pos hi] at h2
        rw [sumI_single (f := fun l => M i l * (x l : Int)) q (fun l hl hne => by
          show M i l * (x l : Int) = 0
          rw [hz i l hi hl (fun w => hne w.symm), Int.zero_mul])]
        exact of_decide_eq_true h2
      · rw [sumI_congr (g := fun _ => 0) (fun l hl => by rw [hz i l hi hl (by omega), Int.zero_mul]), sumI_zero]
        exact Int.dvd_zero _
  rw [h1, cntV_prod he (fun (j y : Nat) => if j < n then decide ((e : Int) ∣ M j j * (y : Int)) else true)]
  refine prodN_congr (fun j _ => ?_)
  unfold fct
  split
  · next q =>
    rw [← cN_gcd (M j j) he]
    first | done | exact cN_congr (fun t _ => by simp only [if_pos q])
  · next q =>
    rw [cN_congr (q := fun _ => true) (fun t _ => by simp only), cN_true]
end Go.Proofs.Ytcjaloddgilnpaa

namespace Go.Proofs.Ytcjaloddgilnpaa
set_option linter.unusedVariables false

/-- the digits of t as a list -/
def vec (e C t : Nat) : List Nat := (List.range C).map (dg e t)
theorem vec_length (e C t : Nat) : (vec e C t).length = C := by simp [vec]
theorem gn_vec {e C t j : Nat} (h : j < C) : gn (vec e C t) j = dg e t j := by unfold vec; rw [gn_map_range, if_pos h]
theorem vec_succ (e C t : Nat) : vec e (C + 1) t = t % e :: vec e C (t / e) := by
  unfold vec
  rw [List.range_succ_eq_map, List.map_cons, List.map_map]
  congr 1
  · unfold dg; simp
  · refine List.map_congr_left (fun j _ => ?_)
    show dg e t (j + 1) = dg e (t / e) j
    unfold dg
    rw [Nat.pow_succ', Nat.div_div_eq_div_mul]
/-- the next list -/
def nxtF (m : Nat) : List Nat → Option (List Nat)
  | [] => none
  | x :: xs => if x + 1 < m then some ((x + 1) :: xs) else (nxtF m xs).map (0 :: ·)
theorem nxtF_vec {e : Nat} (he : 0 < e) : ∀ (C t : Nat), t < e ^ C → nxtF e (vec e C t) = if t + 1 < e ^ C then some (vec e C (t + 1)) else none
  | 0, t, h => by simp at h; subst h; simp [vec, nxtF]
  | C + 1, t, h => by
    rw [vec_succ, nxtF]
    have h1 := Nat.div_add_mod t e
    have h2 := Nat.mod_lt t he
    have h3 : t / e < e ^ C := (Nat.div_lt_iff_lt_mul he).2 (by rw [← Nat.pow_succ]; exact h)
    by_cases q : t % e + 1 < e
    · rw [if_pos q]
      have e1 : (t + 1) / e = t / e := by
        rw [show t + 1 = (t % e + 1) + e * (t / e) by omega, Nat.add_mul_div_left _ _ he, Nat.div_eq_of_lt q, Nat.zero_add]
      have e2 : (t + 1) % e = t % e + 1 := by
        rw [show t + 1 = (t % e + 1) + e * (t / e) by omega, Nat.add_mul_mod_self_left, Nat.mod_eq_of_lt q]
      have e3 : t + 1 < e ^ (C + 1) := by
        have h4 : (t / e + 1) * e ≤ e ^ C * e := Nat.mul_le_mul_right _ h3
        have h5 : e ^ (C + 1) = e ^ C * e := Nat.pow_succ _ _
        rw [← h5, Nat.add_mul, Nat.one_mul, Nat.mul_comm] at h4
        omega
      rw [if_pos e3, vec_succ, e1, e2]
    · rw [if_neg q, nxtF_vec he C (t / e) h3]
      have e1 : t + 1 = e * (t / e + 1) := by rw [Nat.mul_add]; omega
      have e2 : (t + 1) / e = t / e + 1 := by rw [e1, Nat.mul_div_cancel_left _ he]
      have e3 : (t + 1) % e = 0 := by rw [e1, Nat.mul_mod_right]
      by_cases w : t / e + 1 < e ^ C
      · have e4 : t + 1 < e ^ (C + 1) := by
          rw [e1, Nat.pow_succ, Nat.mul_comm (e ^ C)]
          exact Nat.mul_lt_mul_of_pos_left w he
        rw [if_pos w, if_pos e4, vec_succ, e2, e3]; rfl
      · have e4 : ¬ (t + 1 < e ^ (C + 1)) := by
          rw [e1, Nat.pow_succ, Nat.mul_comm (e ^ C)]
          intro z
          exact w (Nat.lt_of_mul_lt_mul_left z)
        rw [if_neg w, if_neg e4]; rfl
theorem nxtF_length {m : Nat} : ∀ {xs ys : List Nat}, nxtF m xs = some ys → ys.length = xs.length
  | [], ys, h => by simp [nxtF] at h
  | x :: xs, ys, h => by
    rw [nxtF] at h
    split at h
    · injection h with h; subst h; rfl
    · cases q : nxtF m xs with
      | none => rw [q] at h; simp at h
      | some z =>
        rw [q] at h
        simp at h
        subst h
        simp [nxtF_length q]
/-- so far the beginning has been set to 0 -/
theorem nxtF_skip {m : Nat} {xs : List Nat} : ∀ {i : Nat}, (∀ j, j < i → ¬ (gn xs j + 1 < m)) → i ≤ xs.length → nxtF m xs = (nxtF m (xs.drop i)).map (List.replicate i 0 ++ ·)
  | 0, _, _ => by simp
  | i + 1, h, hi => by
    rw [nxtF_skip (i := i) (fun j hj => h j (by omega)) (by omega), List.drop_eq_getElem_cons (by omega), nxtF]
    have h1 := h i (by omega)
    have h2 : gn xs i = xs[i] := by unfold gn; rw [List.getElem?_eq_getElem (by omega)]; rfl
    rw [h2] at h1
    rw [if_neg h1]
    cases nxtF m (xs.drop (i + 1)) with
    | none => rfl
    | some z =>
      simp only [Option.map_some]
      congr 1
      rw [List.replicate_succ', List.append_assoc]; rfl
theorem nxtF_here {m : Nat} {xs : List Nat} {i : Nat} (h : ∀ j, j < i → ¬ (gn xs j + 1 < m)) (hi : i < xs.length) (hx : gn xs i + 1 < m) : nxtF m xs = some (List.replicate i 0 ++ (gn xs i + 1) :: xs.drop (i + 1)) := by
  have h2 : gn xs i = xs[i] := by unfold gn; rw [List.getElem?_eq_getElem hi]; rfl
  rw [nxtF_skip h (by omega), List.drop_eq_getElem_cons hi, nxtF, ← h2, if_pos hx]; rfl
theorem nxtF_end {m : Nat} {xs : List Nat} (h : ∀ j, j < xs.length → ¬ (gn xs j + 1 < m)) : nxtF m xs = none := by
  rw [nxtF_skip h (Nat.le_refl _), List.drop_of_length_le (Nat.le_refl _)]; rfl
theorem vec_zero (e C : Nat) : vec e C 0 = List.replicate C 0 := by
  apply gn_ext (by simp [vec_length])
  intro i hi
  rw [vec_length] at hi
  rw [gn_vec hi]
  unfold dg gn
  rw [Nat.zero_div, Nat.zero_mod, List.getElem?_replicate, if_pos hi]; rfl

/-- a crossing's test, as the reference makes it -/
def crB (m : Nat) (a b d : Nat) : Bool :=
  let x : Int := (a : Int) - (b : Int)
  let y : Int := (a : Int) - (d : Int)
  decide (x = 0 - y) || (decide (0 < y) && decide (x = (m : Int) - y)) || (decide (y < 0) && decide (x = 0 - (m : Int) - y))
theorem crB_iff {m a b d : Nat} (ha : a < m) (hb : b < m) (hd : d < m) : crB m a b d = true ↔ (m : Int) ∣ 2 * (a : Int) - (b : Int) - (d : Int) := by
  unfold crB
  simp only [Bool.or_eq_true, Bool.and_eq_true, decide_eq_true_eq]
  constructor
  · rintro ((h | ⟨_, h⟩) | ⟨_, h⟩)
    · exact ⟨0, by omega⟩
    · exact ⟨1, by omega⟩
    · exact ⟨-1, by omega⟩
  · rintro ⟨q, hq⟩
    have h1 : -2 < q := by
      rcases Int.lt_or_le (-2) q with z | z
      · exact z
      · have : (m : Int) * q ≤ (m : Int) * (-2) := Int.mul_le_mul_of_nonneg_left z (by omega)
        omega
    have h2 : q < 2 := by
      rcases Int.lt_or_le q 2 with z | z
      · exact z
      · have : (m : Int) * 2 ≤ (m : Int) * q := Int.mul_le_mul_of_nonneg_left z (by omega)
        omega
    have h3 : q = -1 ∨ q = 0 ∨ q = 1 := by omega
    rcases h3 with rfl | rfl | rfl
    · right; constructor <;> omega
    · left; left; omega
    · left; right; constructor <;> omega
def colB (arc : List Nat) (n m : Nat) (x : List Nat) : Bool := (List.range n).all fun c => crB m (gn x (gn arc (4 * c + 1))) (gn x (gn arc (4 * c))) (gn x (gn arc (4 * c + 2)))
theorem colB_step {arc x : List Nat} {m c : Nat} (h : colB arc c m x = true) : colB arc (c + 1) m x = crB m (gn x (gn arc (4 * c + 1))) (gn x (gn arc (4 * c))) (gn x (gn arc (4 * c + 2))) := by
  unfold colB at h ⊢
  rw [List.range_succ, List.all_append, h]; simp
theorem colB_stop {arc x : List Nat} {n m c : Nat} (hc : c < n) (h : crB m (gn x (gn arc (4 * c + 1))) (gn x (gn arc (4 * c))) (gn x (gn arc (4 * c + 2))) = false) : colB arc n m x = false := by
  unfold colB
  rw [List.all_eq_false]
  exact ⟨c, List.mem_range.2 hc, by rw [h]; simp⟩
theorem dotI {C i : Nat} {r : List Int} {d : Int} {y : Nat → Int} (hr : r.length = C) (hi : i < C) : sumI C (fun j => gi (addI r i d) j * y j) = sumI C (fun j => gi r j * y j) + d * y i := by
  have h := sumI_one (f := fun j => gi (addI r i d) j * y j) (g := fun j => gi r j * y j) hi (fun l _ hne => by
    show gi (addI r i d) l * y l = gi r l * y l
    unfold addI; rw [gi_set _ _ _ _ (by omega), if_neg hne])
  rw [h]
  unfold addI
  rw [gi_set _ _ _ _ (by omega), if_pos rfl, Int.add_mul]; omega
theorem dot_rowM {arc : List Nat} {cols c : Nat} (y : Nat → Int) (h0 : gn arc (4 * c) < cols) (h1 : gn arc (4 * c + 1) < cols) (h2 : gn arc (4 * c + 2) < cols) :
    sumI cols (fun j => gi (rowM arc cols c) j * y j) = 2 * y (gn arc (4 * c + 1)) - y (gn arc (4 * c)) - y (gn arc (4 * c + 2)) := by
  unfold rowM
  rw [dotI (by simp [addI_length]) h2, dotI (by simp [addI_length]) h0, dotI (by simp) h1]
  have : sumI cols (fun j => gi (List.replicate cols 0) j * y j) = 0 := by
    rw [sumI_congr (g := fun _ => 0) (fun l _ => by rw [gi_zeros cols l, Int.zero_mul])]; exact sumI_zero
  rw [this]; omega
theorem matZ_rows {S M : List Int} {L : Int} {c : Nat} (h : c < S.length) (j : Nat) : matZ (rowsOf S M L) c j = gi (rowM (arcL M) (colN M L) c) j := by
  rw [matZ_get (by rw [rowsOf_length]; exact h)]
  unfold rowsOf
  congr 1
  simp [matM]
/-- colorings are the solutions -/
theorem colB_sol {S M : List Int} {L : Int} (k : Ok S M L) {m : Nat} {x : Nat → Nat} {l : List Nat} (hm : 0 < m) (hx : ∀ j, j < colN M L → x j < m) (hl : ∀ j, j < colN M L → gn l j = x j) : colB (arcL M) S.length m l = solB S.length (colN M L) (matZ (rowsOf S M L)) m x := by
  have hmm := k.m
  rw [Bool.eq_iff_iff, solB_true]
  unfold colB
  rw [List.all_eq_true]
  have key : ∀ c, c < S.length → (crB m (gn l (gn (arcL M) (4 * c + 1))) (gn l (gn (arcL M) (4 * c))) (gn l (gn (arcL M) (4 * c + 2))) = true ↔ (m : Int) ∣ sumI (colN M L) (fun j => matZ (rowsOf S M L) c j * (x j : Int))) := by
    intro c hc
    have h0 : gn (arcL M) (4 * c) < colN M L := arc_lt k (by omega)
    have h1 : gn (arcL M) (4 * c + 1) < colN M L := arc_lt k (by omega)
    have h2 : gn (arcL M) (4 * c + 2) < colN M L := arc_lt k (by omega)
    rw [sumI_congr (g := fun j => gi (rowM (arcL M) (colN M L) c) j * (x j : Int)) (fun j _ => by rw [matZ_rows hc]), dot_rowM (fun j => (x j : Int)) h0 h1 h2, hl _ h0, hl _ h1, hl _ h2]
    exact crB_iff (hx _ h1) (hx _ h0) (hx _ h2)
  constructor
  · intro h i hi
    exact (key i hi).1 (h i (List.mem_range.2 hi))
  · intro h c hc
    exact (key c (List.mem_range.1 hc)).2 (h c (List.mem_range.1 hc))
/-- the number of colorings -/
def nCol (S M : List Int) (L : Int) (m t : Nat) : Nat := cN t (fun s => colB (arcL M) S.length m (vec m (colN M L) s))
theorem nCol_sol {S M : List Int} {L : Int} (k : Ok S M L) {m : Nat} (hm : 0 < m) : nCol S M L m (m ^ colN M L) = nSol S.length (colN M L) (matZ (rowsOf S M L)) m := by
  unfold nCol nSol cntV
  rw [cN_filter]
  exact cN_congr (fun t _ => colB_sol k hm (fun j _ => dg_lt hm t j) (fun j hj => gn_vec hj))
theorem nCol_step (S M : List Int) (L : Int) (m t : Nat) : nCol S M L m (t + 1) = nCol S M L m t + if colB (arcL M) S.length m (vec m (colN M L) t) = true then 1 else 0 := rfl
theorem nCol_le (S M : List Int) (L : Int) (m : Nat) : ∀ t, nCol S M L m t ≤ t
  | 0 => Nat.le_refl _
  | t + 1 => by
    have := nCol_le S M L m t
    rw [nCol_step]; split <;> omega
end Go.Proofs.Ytcjaloddgilnpaa

namespace Go.Proofs.Ytcjaloddgilnpaa
open Go.RowKit
set_option linter.unusedVariables false

/-- numbers as integers -/
def zs (l : List Nat) : List Int := l.map fun (k : Nat) => (k : Int)
theorem zs_length (l : List Nat) : (zs l).length = l.length := by simp [zs]
theorem nc_zs (l : List Nat) : (zs l).map (Value.int .i64) = nc l := by unfold zs nc; rw [List.map_map]; rfl
theorem nc_length (l : List Nat) : (nc l).length = l.length := by simp [nc]
/-- the block of a slice of the call's own -/
theorem OwnI.arr {e : TypeId} {base : Nat} {w : World} {v : Value} {xs : List Nat} (h : OwnI e base w v (zs xs)) (hne : 0 < xs.length) : ∃ g c Y, v = .slice (some ⟨g, 0, none⟩) xs.length c ∧ base ≤ g ∧ xs.length ≤ c ∧ Arr w g e (nc xs ++ Y) := by
  rcases h.2 with ⟨_, h0⟩ | ⟨g, cap, cur, rfl, hg, hh, hn, _, hc, ht⟩
  · rw [zs_length] at h0; omega
  · rw [zs_length, nc_zs, Nat.mul_one] at ht
    rw [zs_length] at hn
    refine ⟨g, cap, cur.toList.drop xs.length, by rw [zs_length], hg, hn, ?_⟩
    unfold Arr rowOf
    rw [← ht, List.take_append_drop, hh]
theorem Ints.of_spare {w : World} {g c : Nat} {t : TypeId} {xs : List Nat} {Y : List Value} (h : Arr w g t (nc xs ++ Y)) (hc : xs.length ≤ c) : Ints w (.slice (some ⟨g, 0, none⟩) xs.length c) (zs xs) := by
  refine ⟨_, _, by rw [zs_length], by rw [zs_length]; exact hc, fun k x hk => ⟨g, 0, rfl, ?_⟩⟩
  have hk' : k < xs.length := by have := (List.getElem?_eq_some_iff.1 hk).1; rwa [zs_length] at this
  rw [Nat.zero_add, h.cell, List.getElem?_append_left (by rw [nc_length]; exact hk'), ← nc_zs, List.getElem?_map, hk]; rfl
theorem spare_get {l : List Nat} {Y : List Value} {k : Nat} (h : k < l.length) : (nc l ++ Y)[k]? = some (.int .i64 (gn l k : Nat)) := by
  rw [List.getElem?_append_left (by rw [nc_length]; exact h)]; exact nc_get h
theorem spare_set {l : List Nat} {Y : List Value} {k : Nat} (h : k < l.length) (x : Nat) : (nc l ++ Y).set k (.int .i64 (x : Nat)) = nc (l.set k x) ++ Y := by
  rw [List.set_append_left _ _ (by rw [nc_length]; exact h), nc_set]
/-- as far as place i the list is set to 0 -/
def skF (xs : List Nat) (i : Nat) : List Nat := List.replicate i 0 ++ xs.drop i
theorem skF_length {xs : List Nat} {i : Nat} (h : i ≤ xs.length) : (skF xs i).length = xs.length := by unfold skF; simp; omega
theorem gn_skF {xs : List Nat} {i : Nat} : gn (skF xs i) i = gn xs i := by
  unfold skF gn
  rw [List.getElem?_append_right (by simp), List.getElem?_drop]; simp
theorem skF_step {xs : List Nat} {i : Nat} (h : i < xs.length) (x : Nat) : (skF xs i).set i x = List.replicate i 0 ++ x :: xs.drop (i + 1) := by
  unfold skF
  rw [List.set_append_right _ _ (by simp), List.length_replicate, Nat.sub_self, List.drop_eq_getElem_cons h]; rfl
theorem skF_next {xs : List Nat} {i : Nat} (h : i < xs.length) : (skF xs i).set i 0 = skF xs (i + 1) := by
  rw [skF_step h]; unfold skF
  rw [List.replicate_succ', List.append_assoc]; rfl
theorem gn_mid (i y : Nat) (t : List Nat) : gn (List.replicate i 0 ++ y :: t) i = y := by unfold gn; rw [List.getElem?_append_right (by simp)]; simp
theorem len_mid {xs : List Nat} {i : Nat} (h : i < xs.length) (y : Nat) : (List.replicate i 0 ++ y :: xs.drop (i + 1)).length = xs.length := by simp; omega
theorem set_mid {xs : List Nat} {i : Nat} (h : i < xs.length) (y : Nat) : (List.replicate i 0 ++ y :: xs.drop (i + 1)).set i 0 = skF xs (i + 1) := by
  rw [List.set_append_right _ _ (by simp), List.length_replicate, Nat.sub_self]
  unfold skF
  rw [List.replicate_succ', List.append_assoc]; rfl
/-- what Next returns -/
def NxtE (B : Nat) (r : Option (List Nat)) (e : Ending) (w' : World) : Prop := match r with
  | some ys => ∃ g c, B ≤ g ∧ e = .returned (.slice (some ⟨g, 0, none⟩) ys.length c) ∧ Ints w' (.slice (some ⟨g, 0, none⟩) ys.length c) (zs ys)
  | none => e = .returned (.slice none 0 0)

set_option maxHeartbeats 2000000 in
theorem next_any (vx : Value) (xs : List Nat) (m : Nat) (w : World) (hX : Ints w vx (zs xs)) (h0 : 0 < xs.length) (hl : xs.length ≤ 1000) (hm : m ≤ 1000) (hb : ∀ j, gn xs j ≤ 1000) :
    Calls Try.prog 25 #[vx, .int .i64 (m : Nat)] w fun e w' => NxtE w.heap.size (nxtF m xs) e w' ∧ Below w.heap.size w w' := by
  obtain ⟨i0, hi0, hz0, hz1, hz2⟩ := info_parts info_int
  have HX := Lib.hid (fun W (hb : Below w.heap.size w W) => hX.below hb)
  have hX0 := hX
  obtain ⟨A, c, rfl, hc, hh⟩ := hX
  clear hh
  have hzl := zs_length xs
  have HB := Lib.hid hb
  clear hb
  go_enter Try.func25, Try.ntmps25
  go_upto_region 2 with (at_builtin; refine wpList_appI rfl _ _ 22 rfl Try.underlying22 hi0 hz0 hz1 hz2 rfl (OwnI.emptyAt (base := w.heap.size) (Nat.le_refl _) (Arr.new w 3 [])) rfl (HX.out _ ((Below.refl _ _).alloc (Nat.le_refl _) _)) (by simp; omega) (by simp [heap_push]) ?_; intro v' w1 hown hb1 hk1)
  rw [List.nil_append] at hown
  obtain ⟨g, cp, Y, rfl, hg, hcp, hA⟩ := hown.arr h0
  have hb2 : Below w.heap.size w w1 := ((Below.refl _ _).alloc (Nat.le_refl _) _).trans hb1
  clear hown hk1 hb1
  go_wp2_with fail
  go_loopg [6] xs.length (fun gk s6 wr => ∃ i : Nat, i ≤ xs.length ∧ gk = xs.length - i ∧ s6 = .int .i64 (i : Int) ∧ Hid (∀ j, j < i → ¬ (gn xs j + 1 < m)) ∧ Arr wr g 3 (nc (skF xs i) ++ Y) ∧ Below w.heap.size w wr)
  case atStart => exact ⟨0, Nat.zero_le _, rfl, rfl, Lib.hid (fun j hj => by omega), hA, hb2⟩
  case round =>
    clear hA hb2
    obtain ⟨i, hi, rfl, rfl, HZ, hA, hb2⟩ := hrel
    by_cases hlt : i < xs.length
    · have z1 : (i : Int) < (xs.length : Int) := by omega
      have hil : i < (skF xs i).length := by rw [skF_length hi]; exact hlt
      have c1 := (hA.cell i).trans ((spare_get hil).trans (by rw [gn_skF]))
      have f1 := hA.frozen i
      have hbi := HB.out i
      obtain ⟨y, hy⟩ : ∃ y, y = gn xs i + 1 := ⟨_, rfl⟩
      have e1 : (gn xs i : Int) + 1 = (y : Int) := by omega
      have HA2 := Lib.hid (hA.set i (.int .i64 (y : Int)))
      have HB3 := Lib.hid (hb2.setCell (p := ⟨g, i, none⟩) hg (.int .i64 (y : Int)))
      rw [spare_set hil, skF_step hlt] at HA2
      have HN := Lib.hid (show y < m → nxtF m xs = some (List.replicate i 0 ++ y :: xs.drop (i + 1)) from fun q => by rw [hy] at q ⊢; exact nxtF_here HZ.out hlt q)
      have HZ2 := Lib.hid (show ¬ (y < m) → ∀ j, j < i + 1 → ¬ (gn xs j + 1 < m) from fun q j hj => by
        by_cases e : j = i
        · rw [e, ← hy]; exact q
        · exact HZ.out j (by omega))
      have hy2 : y ≤ 1001 := by omega
      have HL := Lib.hid (len_mid hlt y)
      have HS := Lib.hid (set_mid hlt y)
      have hml : i < (List.replicate i 0 ++ y :: xs.drop (i + 1)).length := by rw [HL.out]; exact hlt
      have HG := Lib.hid (gn_mid i y (xs.drop (i + 1)))
      generalize gn xs i = v at *
      generalize List.replicate i 0 ++ y :: xs.drop (i + 1) = Z at *
      clear hA hb2 hy HZ hil
      go_upto_region 6 with fail
      generalize wr.setCell ⟨g, i, none⟩ (.int .i64 (y : Int)) = w2 at *
      have c2 := (HA2.out.cell i).trans ((spare_get hml).trans (by rw [HG.out]))
      clear c1 f1
      by_cases q : y < m
      · have z2 : (y : Int) < (m : Int) := by omega
        have hN := Lib.hid (HN.out q)
        have hI := Lib.hid (Ints.of_spare HA2.out (show Z.length ≤ cp by rw [HL.out]; exact hcp))
        clear q
        go_wp2_with fail
        go_ret
        refine ⟨?_, HB3.out⟩
        rw [hN.out]
        exact ⟨g, cp, hg, by rw [HL.out]; rfl, hI.out⟩
      · have z2 : ¬ ((y : Int) < (m : Int)) := by omega
        have hZ := Lib.hid (HZ2.out q)
        have f2 := HA2.out.frozen i
        have HA3 := Lib.hid (HA2.out.set i (.int .i64 ((0 : Nat) : Int)))
        rw [spare_set hml, HS.out] at HA3
        have HB4 := Lib.hid (HB3.out.setCell (p := ⟨g, i, none⟩) hg (.int .i64 ((0 : Nat) : Int)))
        clear q
        go_wp2_with fail
        go_roundg (xs.length - (i + 1))
        case measure => omega
        case rel => exact ⟨i + 1, by omega, rfl, by go_num, hZ, HA3.out, HB4.out⟩
    · have z1 : ¬ ((i : Int) < (xs.length : Int)) := by omega
      have hin : i = xs.length := by omega
      have HE := Lib.hid (nxtF_end (m := m) (xs := xs) (by rw [← hin]; exact HZ.out))
      clear hin
      go_wp2_with fail
      go_ret
      refine ⟨?_, hb2⟩
      rw [HE.out]; rfl
end Go.Proofs.Ytcjaloddgilnpaa

namespace Go.Proofs.Ytcjaloddgilnpaa
open Go.RowKit
set_option linter.unusedVariables false

theorem zs_get {l : List Nat} {k : Nat} (h : k < (zs l).length) : (zs l)[k] = (gn l k : Int) := by
  have h1 : (zs l)[k]? = some (gn l k : Int) := by
    unfold zs gn
    rw [List.getElem?_map, List.getElem?_eq_getElem (by rwa [zs_length] at h)]; rfl
  rw [List.getElem?_eq_getElem h] at h1
  exact Option.some.inj h1
/-- a color -/
theorem col_at {w : World} {A : Option Addr} {n c k : Nat} {xs : List Nat} (h : Ints w (.slice A n c) (zs xs)) (hk : k < xs.length) : ∃ b o, A = some ⟨b, o, none⟩ ∧ b < w.heap.size ∧ w.cell? ⟨b, o + k, none⟩ = some (.int .i64 (gn xs k : Int)) := by
  have hk' : k < (zs xs).length := by rw [zs_length]; exact hk
  obtain ⟨b, o, hA, hb, hc⟩ := h.at_ hk'
  exact ⟨b, o, hA, hb, by rw [hc, zs_get hk']⟩
set_option maxHeartbeats 4000000 in
set_option maxRecDepth 100000 in
theorem coloring_ref (vs vm vx : Value) (S M : List Int) (L : Int) (xs : List Nat) (m : Nat) (w : World) (hS : Ints w vs S) (hM : Ints w vm M) (hX : Ints w vx (zs xs)) (HK : Hid (Ok S M L)) (hm : 1 ≤ m) (hm2 : m ≤ 1000) (hl : xs.length = colN M L) (hb : ∀ j, j < xs.length → gn xs j < m) :
    Calls Try.prog 41 #[.agg #[vs, vm, .int .i64 L], .int .i64 (m : Nat), vx] w fun e w' => e = .returned (.bool (colB (arcL M) S.length m xs)) ∧ Below w.heap.size w w' := by
  have hW : Arr (w.alloc (.cells #[vs, vm, .int .i64 L] 24)) w.heap.size 24 [vs, vm, .int .i64 L] ∧ Below w.heap.size w (w.alloc (.cells #[vs, vm, .int .i64 L] 24)) := ⟨Arr.new w _ _, (Below.refl _ _).alloc (Nat.le_refl _) _⟩
  have HC := Lib.hid (fun W (hb : Below w.heap.size w W) => rArcs vs vm S M L W (hS.below hb) (hM.below hb) HK)
  have hcn := colN_le HK.out
  have hsn := HK.out.n
  have HAL := Lib.hid (fun h (hh : h < M.length) => arc_lt HK.out hh)
  have HAR := Lib.hid (arcL_length M)
  have T2 := Lib.hid HK.out.m
  have HX := Lib.hid (fun W (hb : Below w.heap.size w W) => hX.below hb)
  have HB := Lib.hid hb
  clear hb
  obtain ⟨A, c, rfl, hc, hx⟩ := hS
  obtain ⟨A2, c2, rfl, hc2, hx2⟩ := hM
  obtain ⟨A3, c3, rfl, hc3, hx3⟩ := hX
  clear hx hx2 hx3
  rw [zs_length] at hc3 HX ⊢
  rw [← hl] at hcn HAL HC
  have hl1 := HK.out.l1
  clear hl HK
  generalize arcL M = arc at *
  generalize hn : xs.length = n at *
  have HNN := Lib.hid hn
  clear hn
  have z1 : ¬ ((m : Int) < 1) := by omega
  have z2 : ((n : Int) != (n : Int)) = false := by simp
  go_enter Try.func41, Try.ntmps41
  go_upto_region 1 with fail
  generalize (w.alloc (.cells #[.slice A S.length c, .slice A2 M.length c2, .int .i64 L] 24)) = w4 at hW ⊢
  obtain ⟨q0, hb4⟩ := hW
  have y0 := q0.cell 0
  have y1 := q0.cell 1
  have y2 := q0.cell 2
  go_upto_region 2 with (go_at_call 18; refine (HC.out _ hb4).mono ?_; rintro e w5 ⟨g, rfl, hg5, a5, hb5⟩)
  have hb6 := hb4.trans (hb5.mono hb4.size)
  have q1 := q0.below hb5 q0.lt
  have HX5 := Lib.hid (HX.out w5 hb6)
  clear y0 y1 y2 q0 hb4 hb5 HC
  have y0 := q1.cell 0
  go_wp2_with fail
  go_loopg [9] n (fun gk s9 wr => ∃ i : Nat, i ≤ n ∧ gk = n - i ∧ s9 = .int .i64 (i : Int) ∧ wr = w5)
  case atStart => exact ⟨0, Nat.zero_le _, rfl, rfl, rfl⟩
  case round =>
    obtain ⟨i, hi, rfl, rfl, rfl⟩ := hrel
    by_cases hlt : i < n
    · have z3 : (i : Int) < (n : Int) := by omega
      obtain ⟨b, o, rfl, hbl, hcell⟩ := col_at HX5.out (k := i) (by rw [HNN.out]; exact hlt)
      have hbi := HB.out i hlt
      have z4 : ¬ ((gn xs i : Int) < 0) := by omega
      have z5 : ¬ ((m : Int) ≤ (gn xs i : Int)) := by omega
      generalize gn xs i = v at *
      go_wp2_with fail
      go_roundg (n - (i + 1))
      case measure => omega
      case rel => exact ⟨i + 1, by omega, rfl, by go_num, rfl⟩
    · have z3 : ¬ ((i : Int) < (n : Int)) := by omega
      go_wp2_with fail
      go_loopg [10] S.length (fun gk s10 wx => ∃ (x q : Nat), x ≤ S.length ∧ gk = S.length - x ∧ s10 = .int .i64 (x : Int) ∧ Hid (colB arc x m xs = true) ∧ wx = wr.drewN q)
      case atStart => exact ⟨0, 0, Nat.zero_le _, rfl, rfl, Lib.hid rfl, rfl⟩
      case round =>
        obtain ⟨x, q, hx, rfl, rfl, HP, rfl⟩ := hrel
        by_cases hxt : x < S.length
        · have z4 : (x : Int) < (S.length : Int) := by omega
          have hx4 : 4 * x + 3 < M.length := by have := T2.out; omega
          obtain ⟨p, hp⟩ : ∃ p, p = 4 * x := ⟨_, rfl⟩
          obtain ⟨u1, hu1⟩ : ∃ p, p = 4 * x + 1 := ⟨_, rfl⟩
          obtain ⟨u2, hu2⟩ : ∃ p, p = 4 * x + 2 := ⟨_, rfl⟩
          have l0 : p < M.length := by omega
          have l1 : u1 < M.length := by omega
          have l2 : u2 < M.length := by omega
          have m0 := HAL.out p l0
          have m1 := HAL.out u1 l1
          have m2 := HAL.out u2 l2
          have zg0 := (a5.cell p).trans (nc_get (by have := HAR.out; omega))
          have zg1 := (a5.cell u1).trans (nc_get (by have := HAR.out; omega))
          have zg2 := (a5.cell u2).trans (nc_get (by have := HAR.out; omega))
          have HST := Lib.hid (show colB arc (x + 1) m xs = crB m (gn xs (gn arc u1)) (gn xs (gn arc p)) (gn xs (gn arc u2)) by rw [colB_step HP.out, hp, hu1, hu2])
          have HSP := Lib.hid (show crB m (gn xs (gn arc u1)) (gn xs (gn arc p)) (gn xs (gn arc u2)) = false → colB arc S.length m xs = false by rw [hp, hu1, hu2]; exact colB_stop hxt)
          generalize gn arc p = e0 at *
          generalize gn arc u1 = e1 at *
          generalize gn arc u2 = e2 at *
          obtain ⟨b, o, rfl, hbl, d0⟩ := col_at HX5.out (k := e0) (by rw [HNN.out]; exact m0)
          obtain ⟨b', o', hbo, hbl', d1⟩ := col_at HX5.out (k := e1) (by rw [HNN.out]; exact m1)
          obtain ⟨b'', o'', hbo2, hbl'', d2⟩ := col_at HX5.out (k := e2) (by rw [HNN.out]; exact m2)
          injection hbo with hbo
          injection hbo with hbo hbo'
          injection hbo2 with hbo2
          injection hbo2 with hbo2 hbo2'
          subst hbo hbo' hbo2 hbo2'
          have v0 := HB.out e0 m0
          have v1 := HB.out e1 m1
          have v2 := HB.out e2 m2
          generalize gn xs e0 = f0 at *
          generalize gn xs e1 = f1 at *
          generalize gn xs e2 = f2 at *
          have k0 : (p : Int) < (M.length : Int) := by omega
          have k1 : (u1 : Int) < (M.length : Int) := by omega
          have k2 : (u2 : Int) < (M.length : Int) := by omega
          have j0 : (e0 : Int) < (n : Int) := by omega
          have j1 : (e1 : Int) < (n : Int) := by omega
          have j2 : (e2 : Int) < (n : Int) := by omega
          have wa : 4 * (x : Int) = (p : Int) := by omega
          have wb : (p : Int) + 1 = (u1 : Int) := by omega
          have wc : (p : Int) + 2 = (u2 : Int) := by omega
          clear hp hu1 hu2 hx4 hbl hbl' hbl'' HP
          have HT := Lib.hid (rfl : crB m f1 f0 f2 = crB m f1 f0 f2)
          have h1 : (-1000 : Int) ≤ (f1 : Int) - (f0 : Int) ∧ (f1 : Int) - (f0 : Int) ≤ 1000 := by omega
          have h2 : (-1000 : Int) ≤ (f1 : Int) - (f2 : Int) ∧ (f1 : Int) - (f2 : Int) ≤ 1000 := by omega
          have HCR := Lib.hid (show crB m f1 f0 f2 = (decide ((f1 : Int) - (f0 : Int) = 0 - ((f1 : Int) - (f2 : Int))) || (decide (0 < (f1 : Int) - (f2 : Int)) && decide ((f1 : Int) - (f0 : Int) = (m : Int) - ((f1 : Int) - (f2 : Int)))) || (decide ((f1 : Int) - (f2 : Int) < 0) && decide ((f1 : Int) - (f0 : Int) = 0 - (m : Int) - ((f1 : Int) - (f2 : Int))))) from rfl)
          go_upto_region 12 with fail
          go_quiet (fail)
          clear d0 d1 d2 wa wb wc zg0 zg1 zg2
          generalize (f1 : Int) - (f0 : Int) = X at *
          generalize (f1 : Int) - (f2 : Int) = Y at *
          generalize crB m f1 f0 f2 = B at *
          by_cases q1 : X = -Y
          · have t1 : (X != -Y) = false := by simp [q1]
            have HQ := Lib.hid q1
            have HBT := Lib.hid (show B = true by rw [HCR.out]; simp; omega)
            clear HCR HSP q1
            go_wp2_with fail
            go_roundg (S.length - (x + 1))
            case measure => omega
            case rel => exact ⟨x + 1, _, by omega, rfl, by go_num, Lib.hid (HST.out.trans HBT.out), rfl⟩
          · have t1 : (X != -Y) = true := by simp [q1]
            by_cases q2 : Y ≤ 0
            · have t2 : decide (Y ≤ 0) = true := by simp [q2]
              by_cases q3 : Y = 0
              · have t3 : decide (0 ≤ Y) = true := by simp; omega
                have HBF := Lib.hid (show B = false by rw [HCR.out]; simp; omega)
                clear HCR HST q3
                go_wp2_with fail
                go_ret
                exact ⟨by rw [HSP.out HBF.out]; rfl, bdrewN hb6 _⟩
              · have t3 : decide (0 ≤ Y) = false := by simp; omega
                have q3' : ¬ (0 ≤ Y) := by omega
                by_cases q4 : X = -(m : Int) - Y
                · have t4 : (X != -(m : Int) - Y) = false := by simp [q4]
                  have HBT := Lib.hid (show B = true by rw [HCR.out]; simp; omega)
                  clear HCR HSP q1 q4
                  go_wp2_with fail
                  go_roundg (S.length - (x + 1))
                  case measure => omega
                  case rel => exact ⟨x + 1, _, by omega, rfl, by go_num, Lib.hid (HST.out.trans HBT.out), rfl⟩
                · have t4 : (X != -(m : Int) - Y) = true := by simp [q4]
                  have HBF := Lib.hid (show B = false by rw [HCR.out]; simp; omega)
                  clear HCR HST
                  go_wp2_with fail
                  go_ret
                  exact ⟨by rw [HSP.out HBF.out]; rfl, bdrewN hb6 _⟩
            · have t2 : decide (Y ≤ 0) = false := by simp; omega
              by_cases q4 : X = (m : Int) - Y
              · have t4 : (X != (m : Int) - Y) = false := by simp [q4]
                have HBT := Lib.hid (show B = true by rw [HCR.out]; simp; omega)
                clear HCR HSP q1 q4
                go_wp2_with fail
                go_roundg (S.length - (x + 1))
                case measure => omega
                case rel => exact ⟨x + 1, _, by omega, rfl, by go_num, Lib.hid (HST.out.trans HBT.out), rfl⟩
              · have t4 : (X != (m : Int) - Y) = true := by simp [q4]
                have t3 : decide (0 ≤ Y) = true := by simp; omega
                have HBF := Lib.hid (show B = false by rw [HCR.out]; simp; omega)
                clear HCR HST
                go_wp2_with fail
                go_ret
                exact ⟨by rw [HSP.out HBF.out]; rfl, bdrewN hb6 _⟩
        · have z4 : ¬ ((x : Int) < (S.length : Int)) := by omega
          have hxn : x = S.length := by omega
          have HE := Lib.hid (show colB arc S.length m xs = true by rw [← hxn]; exact HP.out)
          clear hxn HP
          go_wp2_with fail
          go_ret
          exact ⟨by rw [HE.out]; rfl, bdrewN hb6 _⟩
end Go.Proofs.Ytcjaloddgilnpaa

namespace Go.Proofs.Ytcjaloddgilnpaa
open Go.RowKit
set_option linter.unusedVariables false

/-- the colors after t rounds -/
def ColV (m K t : Nat) (w : World) (v : Value) : Prop := if t < m ^ K then ∃ g c, v = .slice (some ⟨g, 0, none⟩) K c ∧ Ints w (.slice (some ⟨g, 0, none⟩) K c) (zs (vec m K t)) else v = .slice none 0 0
theorem ColV.yes {m K t : Nat} {w : World} {v : Value} (h : ColV m K t w v) (ht : t < m ^ K) : ∃ g c, v = .slice (some ⟨g, 0, none⟩) K c ∧ Ints w (.slice (some ⟨g, 0, none⟩) K c) (zs (vec m K t)) := by unfold ColV at h; rwa [if_pos ht] at h
theorem ColV.no {m K t : Nat} {w : World} {v : Value} (h : ColV m K t w v) (ht : ¬ t < m ^ K) : v = .slice none 0 0 := by unfold ColV at h; rwa [if_neg ht] at h
theorem NxtE.colV {m K t B : Nat} {e : Ending} {w : World} (hm : 0 < m) (ht : t < m ^ K) (h : NxtE B (nxtF m (vec m K t)) e w) : ∃ v, e = .returned v ∧ ColV m K (t + 1) w v := by
  rw [nxtF_vec hm K t ht] at h
  unfold ColV
  by_cases q : t + 1 < m ^ K
  · rw [if_pos q] at h
    obtain ⟨g, c, _, rfl, hI⟩ := h
    rw [vec_length] at hI
    exact ⟨_, rfl, by rw [if_pos q]; exact ⟨g, c, by rw [vec_length], hI⟩⟩
  · rw [if_neg q] at h
    exact ⟨_, h, by rw [if_neg q]⟩
theorem gn_vec_lt {m K t : Nat} (hm : 0 < m) (j : Nat) : gn (vec m K t) j < m := by
  rcases Nat.lt_or_ge j K with q | q
  · rw [gn_vec q]; exact dg_lt hm t j
  · rw [gn_out (by rw [vec_length]; exact q)]; exact hm
set_option maxHeartbeats 2000000 in
theorem count_ref (vs vm : Value) (S M : List Int) (L : Int) (m : Nat) (w : World) (hS : Ints w vs S) (hM : Ints w vm M) (HK : Hid (Ok S M L)) (hm : 1 ≤ m) (hm2 : m ≤ 1000) (hK0 : 0 < colN M L) (hp : m ^ colN M L ≤ 3000) :
    Calls Try.prog 20 #[.agg #[vs, vm, .int .i64 L], .int .i64 (m : Nat)] w fun e w' => e = .returned (.int .i64 (nCol S M L m (m ^ colN M L) : Nat)) ∧ Below w.heap.size w w' := by
  obtain ⟨i0, hi0, hz0, hz1, hz2⟩ := info_parts info_int
  have hW : Arr (w.alloc (.cells #[vs, vm, .int .i64 L] 24)) w.heap.size 24 [vs, vm, .int .i64 L] ∧ Below w.heap.size w (w.alloc (.cells #[vs, vm, .int .i64 L] 24)) := ⟨Arr.new w _ _, (Below.refl _ _).alloc (Nat.le_refl _) _⟩
  have HC := Lib.hid (fun W (hb : Below w.heap.size w W) => rArcs vs vm S M L W (hS.below hb) (hM.below hb) HK)
  have HCO := Lib.hid (fun vx xs W (hX : Ints W vx (zs xs)) (hb : Below w.heap.size w W) hl hbb => coloring_ref vs vm vx S M L xs m W (hS.below hb) (hM.below hb) hX HK hm hm2 hl hbb)
  have hcn := colN_le HK.out
  have HNS := Lib.hid (nCol_step S M L m)
  have HNL := Lib.hid (nCol_le S M L m)
  have HN0 := Lib.hid (show nCol S M L m 0 = 0 from rfl)
  generalize nCol S M L m = NC at *
  generalize hK : colN M L = K at *
  have hmk := run_make_one (P := Try.prog) 22 3 i0 (.int .i64 0) Try.underlying22 hi0 hz0 hz1 rfl (by rw [hz2]; decide) K (by omega)
  clear hi0 hz0 hz1 hz2 hK
  obtain ⟨A, c, rfl, hc, hx⟩ := hS
  obtain ⟨A2, c2, rfl, hc2, hx2⟩ := hM
  clear hx hx2
  obtain ⟨P, hP⟩ : ∃ P, P = m ^ K := ⟨_, rfl⟩
  have hP1 : 1 ≤ P := by rw [hP]; exact Nat.pow_pos hm
  rw [← hP] at hp ⊢
  have HP := Lib.hid hP
  have z0 : ((K : Int) == 0) = false := by simp; omega
  clear hP
  go_enter Try.func20, Try.ntmps20
  go_upto_region 1 with fail
  generalize (w.alloc (.cells #[.slice A S.length c, .slice A2 M.length c2, .int .i64 L] 24)) = w4 at hW ⊢
  obtain ⟨q0, hb4⟩ := hW
  have y0 := q0.cell 0
  have y1 := q0.cell 1
  have y2 := q0.cell 2
  go_upto_region 2 with (go_at_call 18; refine (HC.out _ hb4).mono ?_; rintro e w5 ⟨g, rfl, hg5, a5, hb5⟩)
  have hb6 := hb4.trans (hb5.mono hb4.size)
  have q1 := q0.below hb5 q0.lt
  clear y0 y1 y2 q0 hb4 hb5 HC a5
  go_upto_region 6 with fail
  have hI : Ints (w5.alloc (.cells (rowOf (List.replicate K (Value.int .i64 0))) 3)) (.slice (some ⟨w5.heap.size, 0, none⟩) K K) (zs (vec m K 0)) := by
    have h1 := Arr.new w5 3 (List.replicate K (Value.int .i64 0))
    have h2 : List.replicate K (Value.int .i64 0) = nc (vec m K 0) ++ [] := by rw [vec_zero, List.append_nil]; simp [nc]
    rw [h2] at h1 ⊢
    have h3 := Ints.of_spare (c := K) h1 (by rw [vec_length]; exact Nat.le_refl _)
    rw [vec_length] at h3
    exact h3
  have hcv : ColV m K 0 (w5.alloc (.cells (rowOf (List.replicate K (Value.int .i64 0))) 3)) (.slice (some ⟨w5.heap.size, 0, none⟩) K K) := by
    unfold ColV
    rw [if_pos (by rw [← HP.out]; exact hP1)]
    exact ⟨_, _, rfl, hI⟩
  have hb7 := hb6.alloc hb6.size (.cells (rowOf (List.replicate K (Value.int .i64 0))) 3)
  have q2 := q1.alloc (.cells (rowOf (List.replicate K (Value.int .i64 0))) 3)
  generalize w5.alloc (.cells (rowOf (List.replicate K (Value.int .i64 0))) 3) = w7 at *
  generalize w5.heap.size = g5 at *
  clear hmk hI hb6 q1
  go_loopg [7, 8] P (fun gk s7 s8 wr => ∃ t : Nat, t ≤ P ∧ gk = P - t ∧ s7 = .int .i64 (NC t : Int) ∧ ColV m K t wr s8 ∧ Below w.heap.size w wr ∧ Arr wr w.heap.size 24 [.slice A S.length c, .slice A2 M.length c2, .int .i64 L])
  case atStart => exact ⟨0, Nat.zero_le _, rfl, by rw [HN0.out]; rfl, hcv, hb7, q2⟩
  case round =>
    clear hcv hb7 q2
    obtain ⟨t, ht, rfl, rfl, hcv, hb8, q3⟩ := hrel
    have hnl := HNL.out t
    by_cases hlt : t < P
    · obtain ⟨g, c8, rfl, hI⟩ := hcv.yes (by rw [← HP.out]; exact hlt)
      have z3 : (0 : Int) < (K : Int) := by omega
      have y0 := q3.cell 0
      have y1 := q3.cell 1
      have y2 := q3.cell 2
      have HST := Lib.hid (HNS.out t)
      have HC8 := Lib.hid (HCO.out _ (vec m K t) wr hI hb8 (vec_length _ _ _) (fun j _ => gn_vec_lt hm j))
      have HI8 := Lib.hid hI
      clear hcv hI
      generalize colB (arcL M) S.length m (vec m K t) = B at *
      have HNX := Lib.hid (fun W (hb : Below wr.heap.size wr W) => next_any _ (vec m K t) m W (HI8.out.below hb) (by rw [vec_length]; exact hK0) (by rw [vec_length]; omega) hm2 (fun j => by have := gn_vec_lt (K := K) (t := t) hm j; omega))
      have HCV := Lib.hid (fun B e W (h : NxtE B (nxtF m (vec m K t)) e W) => h.colV hm (by rw [← HP.out]; exact hlt))
      cases B with
      | true =>
        rw [if_pos rfl] at HST
        go_upto_region 9 with (go_at_call 41; refine HC8.out.mono ?_; rintro e w9 ⟨rfl, hb9⟩)
        have q4 := q3.below hb9 q3.lt
        have hb9' := hb8.trans (hb9.mono hb8.size)
        have HN9 := Lib.hid (HNX.out w9 hb9)
        clear y0 y1 y2 q3 HNX
        go_wp2_with (go_at_call 25; refine HN9.out.mono ?_; rintro e w10 ⟨he, hb10⟩; obtain ⟨v, rfl, hcv⟩ := HCV.out _ _ _ he)
        have hb10' := hb9'.trans (hb10.mono hb9'.size)
        have q5 := q4.below hb10 q4.lt
        go_roundg (P - (t + 1))
        case measure => omega
        case rel => exact ⟨t + 1, by omega, rfl, by rw [HST.out]; go_num, hcv, hb10', q5⟩
      | false =>
        rw [if_neg (by decide)] at HST
        go_upto_region 7 with (go_at_call 41; refine HC8.out.mono ?_; rintro e w9 ⟨rfl, hb9⟩)
        have q4 := q3.below hb9 q3.lt
        have hb9' := hb8.trans (hb9.mono hb8.size)
        have HN9 := Lib.hid (HNX.out w9 hb9)
        clear y0 y1 y2 q3 HNX
        go_wp2_with (go_at_call 25; refine HN9.out.mono ?_; rintro e w10 ⟨he, hb10⟩; obtain ⟨v, rfl, hcv⟩ := HCV.out _ _ _ he)
        have hb10' := hb9'.trans (hb10.mono hb9'.size)
        have q5 := q4.below hb10 q4.lt
        go_roundg (P - (t + 1))
        case measure => omega
        case rel => exact ⟨t + 1, by omega, rfl, by rw [HST.out]; rfl, hcv, hb10', q5⟩
    · have hcv' := hcv.no (by rw [← HP.out]; exact hlt)
      subst hcv'
      have hPt : t = P := by omega
      have HPT := Lib.hid (show NC t = NC P by rw [hPt])
      clear hPt hcv
      go_wp2_with fail
      go_ret
      exact ⟨by rw [← HPT.out]; rfl, hb8⟩
end Go.Proofs.Ytcjaloddgilnpaa
