/- isolate: plain functions; they end, and the element on the diagonal becomes a divisor. -/
/- intmatrix.isolate: the walk. -/
import Derived.Test.YtcjaloddgilnpaaZCsw
namespace Go.Proofs.Ytcjaloddgilnpaa
set_option linter.unusedVariables false

/-- the shape of a matrix at work -/
structure Wk (m k C : Nat) (A : List (List Nat)) : Prop where
  lt : Ltm m A
  cl : Cl C A
  kn : k < A.length
  kC : k < C
  pos : ge A k k ≠ 0
theorem Wk.m0 {m k C : Nat} {A : List (List Nat)} (h : Wk m k C A) : 0 < m := Nat.lt_of_le_of_lt (Nat.zero_le _) (h.lt 0 0)
/-- what a step leaves where it is meant to -/
theorem sub_mod {m a b : Nat} (ha : a < m) (hb : b ≠ 0) : (a + (m - a / b * b % m)) % m = a % b := by
  have h1 : a / b * b ≤ a := Nat.div_mul_le_self _ _
  have h2 := Nat.div_add_mod a b
  rw [Nat.mul_comm] at h2
  rw [Nat.mod_eq_of_lt (show a / b * b < m by omega), show a + (m - a / b * b) = (a - a / b * b) + m by omega, Nat.add_mod_right, Nat.mod_eq_of_lt (by omega)]
  omega
theorem gn_mod_lt {m by_ k x : Nat} {q r : List Nat} (hm : 0 < m) (hr : ∀ j, gn r j < m) (j : Nat) : gn (cmb m by_ k x q r) j < m := by
  by_cases h : j < r.length
  · rw [gn_cmb h]
    split
    · exact Nat.mod_lt _ hm
    · exact hr j
  · rw [gn_out (by rw [cmb_length]; omega)]; exact hm
section
variable {m k C i : Nat} {A : List (List Nat)}
theorem Cl.swR {i k : Nat} (hc : Cl C A) (hi : i < A.length) (hk : k < A.length) : Cl C (swR A i k) := by
  intro x hx
  rw [swR_length] at hx
  rw [gr_swR hi hk]
  split
  · exact hc i hi
  · split
    · exact hc k hk
    · exact hc x hx
theorem Cl.rowPre (hc : Cl C A) (hi : i < A.length) (hk : k < A.length) : Cl C (rowPre k i A) := by
  unfold Go.Proofs.Ytcjaloddgilnpaa.rowPre; split
  · exact hc.swR hk hi
  · exact hc
theorem rowStep_length : (rowStep m k i A).length = A.length := by simp [rowStep, rowPre_length]
theorem gr_rowStep (hi : i < A.length) (c : Nat) : gr (rowStep m k i A) c = if c = i then cmb m (ge (rowPre k i A) i k / ge (rowPre k i A) k k) k (gr (rowPre k i A) i).length (gr (rowPre k i A) k) (gr (rowPre k i A) i) else gr (rowPre k i A) c := by
  unfold rowStep; rw [gr_set _ _ _ _ (by rw [rowPre_length]; exact hi)]
theorem ge_rowStep_ik (h : Wk m k C A) (hi : i < A.length) (hik : i ≠ k) : ge (rowStep m k i A) i k = ge (rowPre k i A) i k % ge (rowPre k i A) k k := by
  have hc := h.cl.rowPre hi h.kn (k := k) (i := i)
  have hl : (gr (rowPre k i A) i).length = C := hc i (by rw [rowPre_length]; exact hi)
  unfold ge
  rw [gr_rowStep hi, if_pos rfl, gn_cmb (by rw [hl]; exact h.kC), if_pos ⟨Nat.le_refl _, by rw [hl]; exact h.kC⟩]
  exact sub_mod (h.lt.rowPre hi h.kn i k) (rowPre_pos hi h.kn h.pos)
theorem gr_rowStep_k (hi : i < A.length) (hik : i ≠ k) : gr (rowStep m k i A) k = gr (rowPre k i A) k := by rw [gr_rowStep hi, if_neg hik.symm]
theorem Wk.rowStep (h : Wk m k C A) (hi : i < A.length) (hik : i ≠ k) : Wk m k C (rowStep m k i A) := by
  have hc := h.cl.rowPre hi h.kn (k := k) (i := i)
  have hs := h.lt.rowPre hi h.kn (k := k) (i := i)
  refine ⟨fun x y => ?_, fun x hx => ?_, by rw [rowStep_length]; exact h.kn, h.kC, ?_⟩
  · unfold ge
    rw [gr_rowStep hi]
    split
    · exact gn_mod_lt h.m0 (fun j => hs i j) y
    · exact hs x y
  · rw [rowStep_length] at hx
    rw [gr_rowStep hi]
    split
    · rw [cmb_length]; exact hc i (by rw [rowPre_length]; exact hi)
    · exact hc x (by rw [rowPre_length]; exact hx)
  · unfold ge; rw [gr_rowStep_k hi hik]; exact rowPre_pos hi h.kn h.pos
theorem ge_rowPre (h : Wk m k C A) (hi : i < A.length) (hik : i ≠ k) : (ge A i k % ge A k k ≠ 0 ∧ ge (rowPre k i A) i k = ge A k k ∧ ge (rowPre k i A) k k = ge A i k) ∨ (ge A i k % ge A k k = 0 ∧ rowPre k i A = A) := by
  unfold rowPre
  by_cases q : ge A i k % ge A k k ≠ 0
  · left
    rw [if_pos q]
    refine ⟨q, ?_, ?_⟩
    · show gn (gr (swR A k i) i) k = _
      rw [gr_swR h.kn hi, if_pos rfl]; rfl
    · show gn (gr (swR A k i) k) k = _
      rw [gr_swR h.kn hi, if_neg hik.symm, if_pos rfl]; rfl
  · right
    rw [if_neg q]
    exact ⟨by simpa using q, rfl⟩
theorem rowStep_less (h : Wk m k C A) (hi : i < A.length) (hik : i ≠ k) (h0 : ge A i k ≠ 0) : ge (rowStep m k i A) i k < ge A i k := by
  rw [ge_rowStep_ik h hi hik]
  rcases ge_rowPre h hi hik with ⟨_, e1, e2⟩ | ⟨e1, e2⟩
  · rw [e1, e2]; exact Nat.mod_lt _ (by omega)
  · rw [e2, e1]; omega
theorem rowStep_gcd (h : Wk m k C A) (hi : i < A.length) (hik : i ≠ k) : Nat.gcd (ge (rowStep m k i A) k k) (ge (rowStep m k i A) i k) = Nat.gcd (ge A k k) (ge A i k) := by
  rw [ge_rowStep_ik h hi hik]
  have e : ge (rowStep m k i A) k k = ge (rowPre k i A) k k := by unfold ge; rw [gr_rowStep_k hi hik]
  rw [e, Nat.gcd_comm, ← Nat.gcd_rec]
  rcases ge_rowPre h hi hik with ⟨_, e1, e2⟩ | ⟨_, e2⟩
  · rw [e1, e2, Nat.gcd_comm]
  · rw [e2]
theorem rowStep_keep (h : Wk m k C A) (hi : i < A.length) (hik : i ≠ k) (hd : ge A i k % ge A k k = 0) : gr (rowStep m k i A) k = gr A k := by
  rw [gr_rowStep_k hi hik]
  rcases ge_rowPre h hi hik with ⟨e, _, _⟩ | ⟨_, e2⟩
  · exact absurd hd e
  · rw [e2]
end
/-- row i is worked on till its element in column k is 0 -/
def rowWhile (m k i : Nat) : Nat → List (List Nat) → List (List Nat)
  | 0, A => A
  | f + 1, A => if ge A i k = 0 then A else rowWhile m k i f (rowStep m k i A)
theorem rowWhile_done {m k i f : Nat} {A : List (List Nat)} (h : ge A i k = 0) : rowWhile m k i f A = A := by
  cases f with
  | zero => rfl
  | succ f => rw [rowWhile, if_pos h]
theorem rowWhile_length (m k i : Nat) : ∀ (f : Nat) (A : List (List Nat)), (rowWhile m k i f A).length = A.length
  | 0, A => rfl
  | f + 1, A => by
    rw [rowWhile]; split
    · rfl
    · rw [rowWhile_length m k i f, rowStep_length]
theorem rowWhile_all {m k C i : Nat} (hik : i ≠ k) : ∀ (f : Nat) (A : List (List Nat)), Wk m k C A → i < A.length → ge A i k ≤ f →
    Wk m k C (rowWhile m k i f A) ∧ ge (rowWhile m k i f A) i k = 0 ∧ ge (rowWhile m k i f A) k k = Nat.gcd (ge A k k) (ge A i k) ∧ (ge A i k % ge A k k = 0 → gr (rowWhile m k i f A) k = gr A k)
  | 0, A, h, hi, hf => by
    have e : ge A i k = 0 := by omega
    refine ⟨h, e, ?_, fun _ => rfl⟩
    rw [e, Nat.gcd_zero_right]; rfl
  | f + 1, A, h, hi, hf => by
    by_cases e : ge A i k = 0
    · rw [rowWhile_done e, e, Nat.gcd_zero_right]
      exact ⟨h, rfl, rfl, fun _ => rfl⟩
    · rw [rowWhile, if_neg e]
      have hl := rowStep_less h hi hik e
      obtain ⟨a, b, c, d⟩ := rowWhile_all hik f (rowStep m k i A) (h.rowStep hi hik) (by rw [rowStep_length]; exact hi) (by omega)
      refine ⟨a, b, by rw [c, rowStep_gcd h hi hik], fun q => ?_⟩
      have hk := rowStep_keep h hi hik q
      rw [d ?_, hk]
      rw [ge_rowStep_ik h hi hik]
      rcases ge_rowPre h hi hik with ⟨e1, _, _⟩ | ⟨_, e2⟩
      · exact absurd q e1
      · rw [e2, q, Nat.zero_mod]
/-- the rows behind row k, one after the other -/
def rowsU (m k : Nat) (A : List (List Nat)) : Nat → List (List Nat)
  | 0 => A
  | x + 1 => rowWhile m k (k + 1 + x) (ge (rowsU m k A x) (k + 1 + x) k) (rowsU m k A x)
def rowsAll (m k : Nat) (A : List (List Nat)) : List (List Nat) := rowsU m k A (A.length - (k + 1))
theorem rowsU_length (m k : Nat) (A : List (List Nat)) : ∀ x, (rowsU m k A x).length = A.length
  | 0 => rfl
  | x + 1 => by rw [rowsU, rowWhile_length, rowsU_length m k A x]
theorem rowsU_all {m k C : Nat} {A : List (List Nat)} (h : Wk m k C A) : ∀ x, k + 1 + x ≤ A.length → Wk m k C (rowsU m k A x) ∧ ge (rowsU m k A x) k k ∣ ge A k k ∧ (ge (rowsU m k A x) k k = ge A k k → gr (rowsU m k A x) k = gr A k)
  | 0, _ => ⟨h, Nat.dvd_refl _, fun _ => rfl⟩
  | x + 1, hx => by
    obtain ⟨a, b, c⟩ := rowsU_all h x (by omega)
    obtain ⟨a', _, c', d'⟩ := rowWhile_all (i := k + 1 + x) (by omega) _ (rowsU m k A x) a (by rw [rowsU_length]; omega) (Nat.le_refl _)
    rw [rowsU]
    refine ⟨a', by rw [c']; exact Nat.dvd_trans (Nat.gcd_dvd_left _ _) b, fun e => ?_⟩
    have e1 : ge (rowsU m k A x) k k = ge A k k := by
      refine Nat.dvd_antisymm b ?_
      rw [← e, c']; exact Nat.gcd_dvd_left _ _
    rw [d' ?_, c e1]
    rw [c', e1] at e
    rw [e1]
    exact Nat.mod_eq_zero_of_dvd (by rw [← e]; exact Nat.gcd_dvd_right _ _)

section
variable {m k C j : Nat} {A : List (List Nat)}
theorem colF_length (m k j v : Nat) (r : List Nat) : (colF m k j v r).length = r.length := by simp [colF]
theorem gn_colF {m k j v : Nat} {r : List Nat} (hj : j < r.length) (c : Nat) : gn (colF m k j v r) c = if c = j then (gn r j + (m - v * gn r k % m)) % m else gn r c := by
  unfold colF; rw [gn_set _ _ _ _ hj]
theorem Cl.colPre (hc : Cl C A) : Cl C (colPre k j A) := by
  unfold Go.Proofs.Ytcjaloddgilnpaa.colPre; split
  · exact hc.updR (fun r hr => by rw [swp_length]; exact hr)
  · exact hc
theorem colStep_length : (colStep m k j A).length = A.length := by unfold colStep; rw [updR_length, colPre_length]
theorem gr_colStep {i : Nat} (hi : i < A.length) : gr (colStep m k j A) i = if k ≤ i then colF m k j (ge (colPre k j A) k j / ge (colPre k j A) k k) (gr (colPre k j A) i) else gr (colPre k j A) i := by
  unfold colStep
  rw [gr_updR (by rw [colPre_length]; exact hi)]
  by_cases q : k ≤ i
  · rw [if_pos q, if_pos ⟨q, by rw [colPre_length]; exact hi⟩]
  · rw [if_neg q, if_neg (by omega)]
theorem Wk.colPre (h : Wk m k C A) (hj : j < C) : Wk m k C (colPre k j A) :=
  ⟨h.lt.colPre h.cl h.m0 hj h.kC, h.cl.colPre, by rw [colPre_length]; exact h.kn, h.kC, colPre_pos h.cl h.kn hj h.kC h.pos⟩
theorem gn_colStep_k (h : Wk m k C A) (hj : j < C) (c : Nat) : ge (colStep m k j A) k c = if c = j then ge (colPre k j A) k j % ge (colPre k j A) k k else ge (colPre k j A) k c := by
  have hp := h.colPre hj
  have hl : (gr (Go.Proofs.Ytcjaloddgilnpaa.colPre k j A) k).length = C := hp.cl k hp.kn
  unfold ge
  rw [gr_colStep h.kn, if_pos (Nat.le_refl _), gn_colF (by rw [hl]; exact hj)]
  split
  · exact sub_mod (hp.lt k j) hp.pos
  · rfl
theorem Wk.colStep (h : Wk m k C A) (hj : j < C) (hjk : j ≠ k) : Wk m k C (colStep m k j A) := by
  have hp := h.colPre hj
  refine ⟨fun x y => ?_, fun x hx => ?_, by rw [colStep_length]; exact h.kn, h.kC, ?_⟩
  · by_cases hx : x < A.length
    · unfold ge
      rw [gr_colStep hx]
      split
      · rw [gn_colF (by rw [hp.cl x (by rw [colPre_length]; exact hx)]; exact hj)]
        split
        · exact Nat.mod_lt _ h.m0
        · exact hp.lt x y
      · exact hp.lt x y
    · unfold ge; rw [gr_out (by rw [colStep_length]; omega), gn_out (by simp)]; exact h.m0
  · rw [colStep_length] at hx
    have hq := hp.cl x (by rw [colPre_length]; exact hx)
    rw [gr_colStep hx]
    split
    · rw [colF_length]; exact hq
    · exact hq
  · rw [gn_colStep_k h hj, if_neg hjk.symm]; exact hp.pos
theorem ge_colPre (h : Wk m k C A) (hj : j < C) (hjk : j ≠ k) : (ge A k j % ge A k k ≠ 0 ∧ ge (colPre k j A) k j = ge A k k ∧ ge (colPre k j A) k k = ge A k j ∧ ∀ c, c ≠ j → c ≠ k → ge (colPre k j A) k c = ge A k c) ∨ (ge A k j % ge A k k = 0 ∧ colPre k j A = A) := by
  have hl := h.cl k h.kn
  unfold colPre
  by_cases q : ge A k j % ge A k k ≠ 0
  · left
    rw [if_pos q]
    have hg : ∀ c, ge (updR A k A.length (swp k j)) k c = if c = j then gn (gr A k) k else if c = k then gn (gr A k) j else gn (gr A k) c := by
      intro c
      unfold ge
      rw [gr_updR h.kn, if_pos ⟨Nat.le_refl _, h.kn⟩, gn_swp (by rw [hl]; exact h.kC) (by rw [hl]; exact hj)]
    refine ⟨q, ?_, ?_, fun c h1 h2 => ?_⟩
    · rw [hg, if_pos rfl]; rfl
    · rw [hg, if_neg hjk.symm, if_pos rfl]; rfl
    · rw [hg, if_neg h1, if_neg h2]; rfl
  · right
    rw [if_neg q]
    exact ⟨by simpa using q, rfl⟩
theorem colStep_less (h : Wk m k C A) (hj : j < C) (hjk : j ≠ k) (h0 : ge A k j ≠ 0) : ge (colStep m k j A) k j < ge A k j := by
  rw [gn_colStep_k h hj, if_pos rfl]
  rcases ge_colPre h hj hjk with ⟨_, e1, e2, _⟩ | ⟨e1, e2⟩
  · rw [e1, e2]; exact Nat.mod_lt _ (by omega)
  · rw [e2, e1]; omega
theorem colStep_gcd (h : Wk m k C A) (hj : j < C) (hjk : j ≠ k) : Nat.gcd (ge (colStep m k j A) k k) (ge (colStep m k j A) k j) = Nat.gcd (ge A k k) (ge A k j) := by
  rw [gn_colStep_k h hj j, if_pos rfl, gn_colStep_k h hj k, if_neg hjk.symm, Nat.gcd_comm, ← Nat.gcd_rec]
  rcases ge_colPre h hj hjk with ⟨_, e1, e2, _⟩ | ⟨_, e2⟩
  · rw [e1, e2, Nat.gcd_comm]
  · rw [e2]
theorem colStep_other (h : Wk m k C A) (hj : j < C) (hjk : j ≠ k) {c : Nat} (h1 : c ≠ j) (h2 : c ≠ k) : ge (colStep m k j A) k c = ge A k c := by
  rw [gn_colStep_k h hj, if_neg h1]
  rcases ge_colPre h hj hjk with ⟨_, _, _, e⟩ | ⟨_, e2⟩
  · exact e c h1 h2
  · rw [e2]
end
def colWhile (m k j : Nat) : Nat → List (List Nat) → List (List Nat)
  | 0, A => A
  | f + 1, A => if ge A k j = 0 then A else colWhile m k j f (colStep m k j A)
theorem colWhile_done {m k j f : Nat} {A : List (List Nat)} (h : ge A k j = 0) : colWhile m k j f A = A := by
  cases f with
  | zero => rfl
  | succ f => rw [colWhile, if_pos h]
theorem colWhile_length (m k j : Nat) : ∀ (f : Nat) (A : List (List Nat)), (colWhile m k j f A).length = A.length
  | 0, A => rfl
  | f + 1, A => by
    rw [colWhile]; split
    · rfl
    · rw [colWhile_length m k j f, colStep_length]
theorem colWhile_all {m k C j : Nat} (hj : j < C) (hjk : j ≠ k) : ∀ (f : Nat) (A : List (List Nat)), Wk m k C A → ge A k j ≤ f →
    Wk m k C (colWhile m k j f A) ∧ ge (colWhile m k j f A) k j = 0 ∧ ge (colWhile m k j f A) k k = Nat.gcd (ge A k k) (ge A k j) ∧ ∀ c, c ≠ j → c ≠ k → ge (colWhile m k j f A) k c = ge A k c
  | 0, A, h, hf => by
    have e : ge A k j = 0 := by omega
    refine ⟨h, e, ?_, fun _ _ _ => rfl⟩
    rw [e, Nat.gcd_zero_right]; rfl
  | f + 1, A, h, hf => by
    by_cases e : ge A k j = 0
    · rw [colWhile_done e, e, Nat.gcd_zero_right]
      exact ⟨h, rfl, rfl, fun _ _ _ => rfl⟩
    · rw [colWhile, if_neg e]
      have hl := colStep_less h hj hjk e
      obtain ⟨a, b, c, d⟩ := colWhile_all hj hjk f (colStep m k j A) (h.colStep hj hjk) (by omega)
      exact ⟨a, b, by rw [c, colStep_gcd h hj hjk], fun x h1 h2 => by rw [d x h1 h2, colStep_other h hj hjk h1 h2]⟩
def colsU (m k : Nat) (A : List (List Nat)) : Nat → List (List Nat)
  | 0 => A
  | y + 1 => colWhile m k (k + 1 + y) (ge (colsU m k A y) k (k + 1 + y)) (colsU m k A y)
def colsAll (m k C : Nat) (A : List (List Nat)) : List (List Nat) := colsU m k A (C - (k + 1))
theorem colsU_length (m k : Nat) (A : List (List Nat)) : ∀ y, (colsU m k A y).length = A.length
  | 0 => rfl
  | y + 1 => by rw [colsU, colWhile_length, colsU_length m k A y]
theorem colsU_all {m k C : Nat} {A : List (List Nat)} (h : Wk m k C A) : ∀ y, k + 1 + y ≤ C → Wk m k C (colsU m k A y) ∧ ge (colsU m k A y) k k ∣ ge A k k ∧ (∀ c, k < c → c < k + 1 + y → ge (colsU m k A y) k c = 0) ∧ ∀ c, k + 1 + y ≤ c → ge (colsU m k A y) k c = ge A k c
  | 0, _ => ⟨h, Nat.dvd_refl _, fun c h1 h2 => by omega, fun _ _ => rfl⟩
  | y + 1, hy => by
    obtain ⟨a, b, c, d⟩ := colsU_all h y (by omega)
    obtain ⟨a', b', c', d'⟩ := colWhile_all (j := k + 1 + y) (by omega) (by omega) _ (colsU m k A y) a (Nat.le_refl _)
    rw [colsU]
    refine ⟨a', by rw [c']; exact Nat.dvd_trans (Nat.gcd_dvd_left _ _) b, fun q h1 h2 => ?_, fun q h1 => ?_⟩
    · by_cases e : q = k + 1 + y
      · rw [e]; exact b'
      · rw [d' q e (by omega)]; exact c q h1 (by omega)
    · rw [d' q (by omega) (by omega)]; exact d q (by omega)
/-- row k still has something behind the diagonal, before column c -/
def chg (k c : Nat) (A : List (List Nat)) : Bool := (List.range c).any fun j => decide (k < j) && decide (ge A k j ≠ 0)
theorem chg_true {k c : Nat} {A : List (List Nat)} : chg k c A = true ↔ ∃ j, k < j ∧ j < c ∧ ge A k j ≠ 0 := by
  unfold chg
  rw [List.any_eq_true]
  constructor
  · rintro ⟨j, hj, h⟩
    simp only [Bool.and_eq_true, decide_eq_true_eq] at h
    exact ⟨j, h.1, List.mem_range.1 hj, h.2⟩
  · rintro ⟨j, h1, h2, h3⟩
    exact ⟨j, List.mem_range.2 h2, by simp [h1, h3]⟩
theorem chg_congr {k c : Nat} {A B : List (List Nat)} (h : ∀ j, k < j → j < c → ge A k j = ge B k j) : chg k c A = chg k c B := by
  rw [Bool.eq_iff_iff, chg_true, chg_true]
  constructor
  · rintro ⟨j, h1, h2, h3⟩; exact ⟨j, h1, h2, by rw [← h j h1 h2]; exact h3⟩
  · rintro ⟨j, h1, h2, h3⟩; exact ⟨j, h1, h2, by rw [h j h1 h2]; exact h3⟩
def isoF (m k C : Nat) : Nat → List (List Nat) → List (List Nat)
  | 0, A => A
  | f + 1, A => if chg k C (rowsAll m k A) = true then isoF m k C f (colsAll m k C (rowsAll m k A)) else colsAll m k C (rowsAll m k A)
/-- what goes down from round to round -/
def isoM (k C : Nat) (A : List (List Nat)) : Nat := ge A k k + if chg k C A = true then 1 else 0
theorem isoM_less {m k C : Nat} {A : List (List Nat)} (h : Wk m k C A) (hc : chg k C (rowsAll m k A) = true) : isoM k C (colsAll m k C (rowsAll m k A)) < isoM k C A := by
  have hkn := h.kn
  have hkC := h.kC
  obtain ⟨a, b, c⟩ := rowsU_all h (A.length - (k + 1)) (by omega)
  obtain ⟨a', b', c', d'⟩ := colsU_all a (C - (k + 1)) (by omega)
  have hz : chg k C (colsAll m k C (rowsAll m k A)) = false := by
    cases q : chg k C (colsAll m k C (rowsAll m k A)) with
    | false => rfl
    | true =>
      obtain ⟨j, h1, h2, h3⟩ := chg_true.1 q
      exact absurd (c' j h1 (by omega)) h3
  have hB : ge (rowsAll m k A) k k ≤ ge A k k := Nat.le_of_dvd (Nat.pos_of_ne_zero h.pos) b
  have hD : ge (colsAll m k C (rowsAll m k A)) k k ≤ ge (rowsAll m k A) k k := Nat.le_of_dvd (Nat.pos_of_ne_zero a.pos) b'
  unfold isoM
  rw [hz]
  simp only [Bool.false_eq_true, if_false, Nat.add_zero]
  by_cases q : chg k C A = true
  · rw [if_pos q]; omega
  · rw [if_neg q]
    have hne : ge (rowsAll m k A) k k ≠ ge A k k := by
      intro e
      apply q
      rw [← hc]
      exact chg_congr fun j _ _ => by
        have := c e
        unfold ge
        rw [show gr (rowsAll m k A) k = gr A k from this]
    omega
theorem Wk.rowsAll {m k C : Nat} {A : List (List Nat)} (h : Wk m k C A) : Wk m k C (rowsAll m k A) := (rowsU_all h _ (by have := h.kn; omega)).1
theorem Wk.colsAll {m k C : Nat} {A : List (List Nat)} (h : Wk m k C A) : Wk m k C (colsAll m k C A) := (colsU_all h _ (by have := h.kC; omega)).1
theorem rowsAll_length (m k : Nat) (A : List (List Nat)) : (rowsAll m k A).length = A.length := rowsU_length _ _ _ _
theorem colsAll_length (m k C : Nat) (A : List (List Nat)) : (colsAll m k C A).length = A.length := colsU_length _ _ _ _
end Go.Proofs.Ytcjaloddgilnpaa

namespace Go.Proofs.Ytcjaloddgilnpaa
open Go.RowKit
set_option linter.unusedVariables false

theorem rowsU_next {m k i : Nat} (A : List (List Nat)) (h : k + 1 ≤ i) : rowsU m k A (i + 1 - (k + 1)) = rowWhile m k i (ge (rowsU m k A (i - (k + 1))) i k) (rowsU m k A (i - (k + 1))) := by
  rw [show i + 1 - (k + 1) = (i - (k + 1)) + 1 by omega, rowsU, show k + 1 + (i - (k + 1)) = i by omega]
theorem colsU_next {m k j : Nat} (A : List (List Nat)) (h : k + 1 ≤ j) : colsU m k A (j + 1 - (k + 1)) = colWhile m k j (ge (colsU m k A (j - (k + 1))) k j) (colsU m k A (j - (k + 1))) := by
  rw [show j + 1 - (k + 1) = (j - (k + 1)) + 1 by omega, colsU, show k + 1 + (j - (k + 1)) = j by omega]
theorem rowWhile_step {m k i f : Nat} {A : List (List Nat)} (h : ge A i k ≠ 0) (hf : ge A i k ≤ f) : rowWhile m k i f A = rowWhile m k i (f - 1) (rowStep m k i A) := by
  obtain ⟨g, rfl⟩ : ∃ g, f = g + 1 := ⟨f - 1, by omega⟩
  rw [rowWhile, if_neg h, Nat.add_sub_cancel]
theorem colWhile_step {m k j f : Nat} {A : List (List Nat)} (h : ge A k j ≠ 0) (hf : ge A k j ≤ f) : colWhile m k j f A = colWhile m k j (f - 1) (colStep m k j A) := by
  obtain ⟨g, rfl⟩ : ∃ g, f = g + 1 := ⟨f - 1, by omega⟩
  rw [colWhile, if_neg h, Nat.add_sub_cancel]
theorem isoF_step {m k C f : Nat} {A : List (List Nat)} (hf : isoM k C A < f) : isoF m k C f A = if chg k C (rowsAll m k A) = true then isoF m k C (f - 1) (colsAll m k C (rowsAll m k A)) else colsAll m k C (rowsAll m k A) := by
  obtain ⟨g, rfl⟩ : ∃ g, f = g + 1 := ⟨f - 1, by omega⟩
  rw [isoF, Nat.add_sub_cancel]
theorem chg_next {k c : Nat} {A : List (List Nat)} (h : k < c) : chg k (c + 1) A = (chg k c A || decide (ge A k c ≠ 0)) := by
  unfold chg; rw [List.range_succ, List.any_append]; simp [h]
theorem chg_start (k : Nat) (A : List (List Nat)) : chg k (k + 1) A = false := by
  cases h : chg k (k + 1) A with
  | false => rfl
  | true => obtain ⟨j, h1, h2, _⟩ := chg_true.1 h; omega

/-- the state of isolate: the matrix, its memory, its boxes -/
structure Is (R : Nat) (bs : List Nat) (C k m ab kb mb : Nat) (n : Nat) (w0 : World) (cur : List (List Nat)) (bs' : List Nat) (w : World) : Prop where
  mu : MU w R bs' C cur
  sub : ∀ b ∈ bs', b ∈ bs
  wr : Wr (R :: bs) w0 w
  bx : Bx w ab kb mb R n k m
  len : cur.length = n
  wk : Wk m k C cur
theorem Is.drewN {R : Nat} {bs : List Nat} {C k m ab kb mb n : Nat} {w0 : World} {cur : List (List Nat)} {bs' : List Nat} {w : World} (h : Is R bs C k m ab kb mb n w0 cur bs' w) (q : Nat) : Is R bs C k m ab kb mb n w0 cur bs' (w.drewN q) :=
  ⟨h.mu.drewN q, h.sub, h.wr.drewN q, h.bx.drewN q, h.len, h.wk⟩
theorem Is.next {R : Nat} {bs : List Nat} {C k m ab kb mb n : Nat} {w0 : World} {cur cur' : List (List Nat)} {bs' bs'' : List Nat} {w w' : World} (h : Is R bs C k m ab kb mb n w0 cur bs' w) (n1 : ab ∉ R :: bs) (n2 : kb ∉ R :: bs) (n3 : mb ∉ R :: bs)
    (h1 : MU w' R bs'' C cur') (h2 : ∀ b ∈ bs'', b ∈ bs') (h3 : Wr (R :: bs') w w') (hl : cur'.length = n) (hw : Wk m k C cur') : Is R bs C k m ab kb mb n w0 cur' bs'' w' :=
  have o : Wr (R :: bs) w w' := h3.mono (fun x hx => by
    rcases List.mem_cons.1 hx with e | e
    · rw [e]; simp
    · exact List.mem_cons_of_mem _ (h.sub x e))
  ⟨h1, fun b hb => h.sub b (h2 b hb), h.wr.trans o, h.bx.wr o n1 n2 n3, hl, hw⟩
theorem notin_sub {x R : Nat} {bs bs' : List Nat} (h : x ∉ R :: bs) (hs : ∀ b ∈ bs', b ∈ bs) : x ∉ R :: bs' := by
  intro hx
  rcases List.mem_cons.1 hx with e | e
  · exact h (by rw [e]; simp)
  · exact h (List.mem_cons_of_mem _ (hs x e))

set_option maxHeartbeats 4000000 in
set_option maxRecDepth 100000 in
theorem isolate_any (R : Nat) (bs : List Nat) (C : Nat) (A : List (List Nat)) (k m : Nat) (w : World) (h : MU w R bs C A) (hA : A.length ≤ 1000) (hC : C ≤ 1000) (hw : Wk m k C A) (hm : m ≤ 4611686018427387904) :
    Calls Try.prog 86 #[.slice (some ⟨R, 0, none⟩) A.length A.length, .int .i64 (k : Nat), .int .u64 (m : Nat)] w fun e w' => e = .returned (.tuple #[]) ∧ ∃ bs', MU w' R bs' C (isoF m k C (isoM k C A + 1) A) ∧ (∀ b ∈ bs', b ∈ bs) ∧ Wr (R :: bs) w w' := by
  have hkn := hw.kn
  have hkC := hw.kC
  obtain ⟨n, hn⟩ : ∃ n, n = A.length := ⟨_, rfl⟩
  have lR := h.outer.lt
  have n1 : w.heap.size ∉ R :: bs := fun q => by
    rcases List.mem_cons.1 q with e | e
    · omega
    · have := h.lt _ e; omega
  have n2 : w.heap.size + 1 ∉ R :: bs := fun q => by
    rcases List.mem_cons.1 q with e | e
    · omega
    · have := h.lt _ e; omega
  have n3 : w.heap.size + 1 + 1 ∉ R :: bs := fun q => by
    rcases List.mem_cons.1 q with e | e
    · omega
    · have := h.lt _ e; omega
  have h0 : Is R bs C k m w.heap.size (w.heap.size + 1) (w.heap.size + 1 + 1) n w A bs (((w.alloc (.cells #[.slice (some ⟨R, 0, none⟩) n n] 79)).alloc (.cells #[.int .i64 (k : Int)] 3)).alloc (.cells #[.int .u64 (m : Int)] 72)) := by
    refine ⟨((h.alloc _).alloc _).alloc _, fun _ q => q, (((Wr.refl _ _).alloc _).alloc _).alloc _, ⟨?_, ?_, ?_⟩, hn.symm, hw⟩
    · exact ((Arr.new w 79 [.slice (some ⟨R, 0, none⟩) n n]).alloc _).alloc _
    · exact (Arr.newAt (w.alloc _) 3 [.int .i64 (k : Int)] _ (by simp)).alloc _
    · exact Arr.newAt ((w.alloc _).alloc _) 72 [.int .u64 (m : Int)] _ (by simp)
  obtain ⟨T, hT⟩ : ∃ T, T = isoF m k C (isoM k C A + 1) A := ⟨_, rfl⟩
  rw [← hT, ← hn]
  have HT := Lib.hid hT.symm
  rw [← hn] at hA hkn
  have HN1 := Lib.hid n1
  have HN2 := Lib.hid n2
  have HN3 := Lib.hid n3
  clear hT n1 n2 n3 h hn hw
  go_enter Try.func86, Try.ntmps86
  go_upto_region 1 with fail
  generalize (((w.alloc (.cells #[.slice (some ⟨R, 0, none⟩) n n] 79)).alloc (.cells #[.int .i64 (k : Int)] 3)).alloc (.cells #[.int .u64 (m : Int)] 72)) = w1 at h0 ⊢
  generalize w.heap.size + 1 + 1 = mb at *
  generalize w.heap.size + 1 = kb at *
  generalize w.heap.size = ab at *
  go_wp2_with fail
  go_loopg [8, 9, 10] (isoM k C A + 2) (fun gk s8 s9 s10 wr => ∃ (c : Bool) (cur : List (List Nat)) (bs' : List Nat) (f : Nat), s8 = .bool c ∧ Is R bs C k m ab kb mb n w cur bs' wr ∧ ((c = true ∧ isoM k C cur < f ∧ gk = isoM k C cur + 2 ∧ isoF m k C f cur = T) ∨ (c = false ∧ gk = 0 ∧ cur = T)))
  case atStart => exact ⟨true, A, bs, isoM k C A + 1, rfl, h0, .inl ⟨rfl, Nat.lt_succ_self _, rfl, HT.out⟩⟩
  case round =>
    clear h0 HT
    obtain ⟨c, cur, bs', f, rfl, hI, hcase⟩ := hrel
    rcases hcase with ⟨rfl, hf, rfl, hT⟩ | ⟨rfl, rfl, hT⟩
    · have HT := Lib.hid ((isoF_step (m := m) hf).symm.trans hT)
      have HML := Lib.hid (fun hc => isoM_less hI.wk hc)
      clear hT
      obtain ⟨wo, rfl⟩ : ∃ wo : World, wo = wr := ⟨_, rfl⟩
      have y1 := hI.bx.k.cell 0
      have y0 := hI.bx.a.cell 0
      have HIS := Lib.hid hI
      have HISL := Lib.hid hI.len
      clear hI
      go_wp2_with fail
      clear y0 y1
      go_loopg [9] (n - (k + 1)) (fun gk s9 wr => ∃ (i : Nat) (bs2 : List Nat), k + 1 ≤ i ∧ i ≤ n ∧ gk = n - i ∧ s9 = .int .i64 (i : Int) ∧ Is R bs C k m ab kb mb n w (rowsU m k cur (i - (k + 1))) bs2 wr)
      case atStart => exact ⟨k + 1, bs', Nat.le_refl _, by omega, rfl, by go_num, by rw [Nat.sub_self]; exact HIS.out⟩
      case round =>
        clear HIS
        obtain ⟨i, bs2, hki, hin, rfl, rfl, hI2⟩ := hrel
        obtain ⟨wo, rfl⟩ : ∃ wo : World, wo = wr := ⟨_, rfl⟩
        have y1 := hI2.bx.k.cell 0
        have y0 := hI2.bx.a.cell 0
        by_cases hlt : i < n
        · have z1 : (i : Int) < (n : Int) := by omega
          have HNX := Lib.hid (rowsU_next (m := m) cur hki)
          obtain ⟨T2, hT2⟩ : ∃ T2, T2 = rowsU m k cur (i + 1 - (k + 1)) := ⟨_, rfl⟩
          rw [← hT2] at HNX
          have HT2 := Lib.hid hT2
          have HIS := Lib.hid hI2
          clear hT2 hI2
          go_wp2_with fail
          clear y0 y1
          go_loopg [] (ge (rowsU m k cur (i - (k + 1))) i k) (fun gk wr => ∃ (cur3 : List (List Nat)) (bs3 : List Nat) (g : Nat), gk = ge cur3 i k ∧ ge cur3 i k ≤ g ∧ Hid (rowWhile m k i g cur3 = T2) ∧ Is R bs C k m ab kb mb n w cur3 bs3 wr)
          case atStart => exact ⟨_, bs2, _, rfl, Nat.le_refl _, Lib.hid HNX.out.symm, HIS.out⟩
          case round =>
            clear HIS HNX
            obtain ⟨cur3, bs3, g, rfl, hg, HW, hI3⟩ := hrel
            obtain ⟨wo, rfl⟩ : ∃ wo : World, wo = wr := ⟨_, rfl⟩
            have y1 := hI3.bx.k.cell 0
            have y0 := hI3.bx.a.cell 0
            obtain ⟨bi, hbi, hbim⟩ := hI3.mu.bl (i := i) (by rw [hI3.len]; exact hlt)
            have c1 := hI3.mu.cellR hbi
            have c2 := hI3.mu.cell hbi hkC
            have z2 : (k : Int) < (C : Int) := by omega
            have HIS := Lib.hid hI3
            by_cases hz : ge cur3 i k = 0
            · rw [hz] at c2
              have HD := Lib.hid ((rowWhile_done hz).symm.trans HW.out)
              clear hI3 hbi hz
              go_upto_region 9 with fail
              go_quiet (fail)
              go_wp2_with fail
              go_roundg (n - (i + 1))
              case measure => omega
              case rel => exact ⟨i + 1, bs3, by omega, by omega, rfl, by go_num, by rw [← HT2.out, ← HD.out]; exact HIS.out.drewN _⟩
            · have hv : 0 < ge cur3 i k := by omega
              have HW2 := Lib.hid ((rowWhile_step hz hg).symm.trans HW.out)
              have HL := Lib.hid (rowStep_less hI3.wk (show i < cur3.length by rw [hI3.len]; exact hlt) (by omega) hz)
              have z3 : (((ge cur3 i k : Nat) : Int) != 0) = true := by simp; omega
              obtain ⟨vi, hvi⟩ : ∃ v, v = ge cur3 i k := ⟨_, rfl⟩
              rw [← hvi] at c2 z3
              clear hI3 hbi hz hvi HW
              go_upto_region 9 with fail
              go_quiet (fail)
              have hI4 := HIS.out.drewN nq
              generalize wo.drewN nq = W at *
              have HC := Lib.hid (rowStep_any ab kb mb R bs3 C cur3 k i m W hI4.mu (by have := hI4.bx; rw [← hI4.len] at this; exact this) (notin_sub HN1.out hI4.sub) (notin_sub HN2.out hI4.sub) (notin_sub HN3.out hI4.sub) (by rw [hI4.len]; exact hA) hC (by rw [hI4.len]; exact hlt) hI4.wk.kn hkC (by omega) hI4.wk.pos hI4.wk.lt hm)
              have HI4 := Lib.hid hI4
              clear hI4 c1 c2 y0 y1 HIS
              go_wp2_with (go_at_call 91; refine HC.out.mono ?_; rintro e w' ⟨rfl, bs4, h1, h2, h3⟩)
              go_roundg (ge (rowStep m k i cur3) i k)
              case measure => have := HL.out; omega
              case rel => exact ⟨rowStep m k i cur3, bs4, g - 1, rfl, by have := HL.out; omega, HW2, HI4.out.next HN1.out HN2.out HN3.out h1 h2 h3 (by rw [rowStep_length]; exact HI4.out.len) (HI4.out.wk.rowStep (by rw [HI4.out.len]; exact hlt) (by omega))⟩
        · have z1 : ¬ ((i : Int) < (n : Int)) := by omega
          have hin2 : i = n := by omega
          obtain ⟨B, hB⟩ : ∃ B, B = rowsAll m k cur := ⟨_, rfl⟩
          have hB2 : rowsU m k cur (i - (k + 1)) = B := by rw [hB]; unfold rowsAll; rw [hin2, HISL.out]
          rw [hB2] at hI2
          rw [← hB] at HT HML
          clear hB hB2 hin2
          have HWB := Lib.hid hI2.wk
          have HIS := Lib.hid hI2
          clear hI2
          go_wp2_with fail
          clear y0 y1
          go_loopg [8, 10] (C - (k + 1)) (fun gk s8 s10 wr => ∃ (j : Nat) (bs5 : List Nat), k + 1 ≤ j ∧ j ≤ C ∧ gk = C - j ∧ s10 = .int .i64 (j : Int) ∧ s8 = .bool (chg k j B) ∧ Is R bs C k m ab kb mb n w (colsU m k B (j - (k + 1))) bs5 wr)
          case atStart => exact ⟨k + 1, bs2, Nat.le_refl _, by omega, rfl, by go_num, by rw [chg_start], by rw [Nat.sub_self]; exact HIS.out⟩
          case round =>
            clear HIS
            obtain ⟨j, bs5, hkj, hjC, rfl, rfl, rfl, hI5⟩ := hrel
            obtain ⟨wo, rfl⟩ : ∃ wo : World, wo = wr := ⟨_, rfl⟩
            have y1 := hI5.bx.k.cell 0
            have y0 := hI5.bx.a.cell 0
            obtain ⟨bk, hbk, hbkm⟩ := hI5.mu.bl (i := k) (by rw [hI5.len]; exact hkn)
            have c1 := hI5.mu.cellR hbk
            have z0 : (k : Int) < (n : Int) := by omega
            clear hbk
            by_cases hjt : j < C
            · have z2 : (j : Int) < (C : Int) := by omega
              have HNX := Lib.hid (colsU_next (m := m) B hkj)
              have HOT := Lib.hid ((colsU_all HWB.out (j - (k + 1)) (by omega)).2.2.2 j (by omega))
              have HCN := Lib.hid (chg_next (A := B) (show k < j by omega))
              obtain ⟨T3, hT3⟩ : ∃ T3, T3 = colsU m k B (j + 1 - (k + 1)) := ⟨_, rfl⟩
              rw [← hT3] at HNX
              have HT3 := Lib.hid hT3
              have HIS := Lib.hid hI5
              obtain ⟨c0, hc0⟩ : ∃ c0, c0 = chg k j B := ⟨_, rfl⟩
              rw [← hc0] at HCN ⊢
              clear hT3 hI5 hc0
              obtain ⟨st, hst⟩ : ∃ st, st = colsU m k B (j - (k + 1)) := ⟨_, rfl⟩
              rw [← hst] at HNX HOT HIS
              clear hst
              go_wp2_with fail
              clear y0 y1 c1
              go_loopg [8] (ge st k j) (fun gk s8 wr => ∃ (cur6 : List (List Nat)) (bs6 : List Nat) (g : Nat) (ch : Bool), s8 = .bool ch ∧ gk = ge cur6 k j ∧ ge cur6 k j ≤ g ∧ Hid (colWhile m k j g cur6 = T3) ∧ Is R bs C k m ab kb mb n w cur6 bs6 wr ∧ Hid ((ch = c0 ∧ cur6 = st) ∨ (ch = true ∧ ge B k j ≠ 0)))
              case atStart => exact ⟨st, bs5, _, c0, rfl, rfl, Nat.le_refl _, Lib.hid HNX.out.symm, HIS.out, Lib.hid (.inl ⟨rfl, rfl⟩)⟩
              case round =>
                clear HIS HNX
                obtain ⟨cur6, bs6, g, ch, rfl, rfl, hg, HW, hI6, HCH⟩ := hrel
                obtain ⟨wo, rfl⟩ : ∃ wo : World, wo = wr := ⟨_, rfl⟩
                have y1 := hI6.bx.k.cell 0
                have y0 := hI6.bx.a.cell 0
                obtain ⟨bq, hbq, hbqm⟩ := hI6.mu.bl (i := k) (by rw [hI6.len]; exact hkn)
                have c1 := hI6.mu.cellR hbq
                have c2 := hI6.mu.cell hbq hjt
                have HIS := Lib.hid hI6
                by_cases hz : ge cur6 k j = 0
                · rw [hz] at c2
                  have HD := Lib.hid ((colWhile_done hz).symm.trans HW.out)
                  have HCC := Lib.hid (show ch = chg k (j + 1) B by
                    rw [HCN.out]
                    rcases HCH.out with ⟨e1, e2⟩ | ⟨e1, e2⟩
                    · rw [e1, ← HOT.out, ← e2, hz]; simp
                    · rw [e1]; simp [e2])
                  clear hI6 hbq hz
                  go_wp2_with fail
                  go_roundg (C - (j + 1))
                  case measure => omega
                  case rel => exact ⟨j + 1, bs6, by omega, by omega, rfl, by go_num, by rw [HCC.out], by rw [← HT3.out, ← HD.out]; exact HIS.out⟩
                · have hv : 0 < ge cur6 k j := by omega
                  have HW2 := Lib.hid ((colWhile_step hz hg).symm.trans HW.out)
                  have HL := Lib.hid (colStep_less hI6.wk hjt (show j ≠ k by omega) hz)
                  have HCC := Lib.hid (show ge B k j ≠ 0 by
                    rcases HCH.out with ⟨e1, e2⟩ | ⟨e1, e2⟩
                    · rw [← HOT.out, ← e2]; exact hz
                    · exact e2)
                  have z3 : (((ge cur6 k j : Nat) : Int) != 0) = true := by simp; omega
                  obtain ⟨vi, hvi⟩ : ∃ v, v = ge cur6 k j := ⟨_, rfl⟩
                  rw [← hvi] at c2 z3
                  have HC := Lib.hid (colStep_any ab kb mb R bs6 C cur6 k j m wo hI6.mu (by have := hI6.bx; rw [← hI6.len] at this; exact this) (notin_sub HN1.out hI6.sub) (notin_sub HN2.out hI6.sub) (notin_sub HN3.out hI6.sub) (by rw [hI6.len]; exact hA) hC hjt hI6.wk.kn hkC (by omega) hI6.wk.pos hI6.wk.lt hm)
                  clear hI6 hbq hz hvi HW
                  go_wp2_with (go_at_call 92; refine HC.out.mono ?_; rintro e w' ⟨rfl, h1, h3⟩)
                  go_roundg (ge (colStep m k j cur6) k j)
                  case measure => have := HL.out; omega
                  case rel => exact ⟨colStep m k j cur6, bs6, g - 1, true, rfl, rfl, by have := HL.out; omega, HW2, HIS.out.next HN1.out HN2.out HN3.out h1 (fun _ q => q) h3 (by rw [colStep_length]; exact HIS.out.len) (HIS.out.wk.colStep hjt (by omega)), Lib.hid (.inr ⟨rfl, HCC.out⟩)⟩
            · have z2 : ¬ ((j : Int) < (C : Int)) := by omega
              have hjn : j = C := by omega
              have HD := Lib.hid (show colsU m k B (j - (k + 1)) = colsAll m k C B by rw [hjn]; rfl)
              have HJ := Lib.hid hjn
              have HIS := Lib.hid hI5
              clear hI5 hjn
              cases hcc : chg k C B with
              | true =>
                have HC1 := Lib.hid hcc
                clear hcc
                have hch : chg k j B = true := by rw [HJ.out]; exact HC1.out
                go_wp2_with fail
                go_roundg (isoM k C (colsAll m k C B) + 2)
                case measure => have := HML.out HC1.out; omega
                case rel => exact ⟨true, colsAll m k C B, bs5, f - 1, rfl, by rw [← HD.out]; exact HIS.out, .inl ⟨rfl, by have := HML.out HC1.out; omega, rfl, by have := HT.out; rw [if_pos HC1.out] at this; exact this⟩⟩
              | false =>
                have HC1 := Lib.hid hcc
                clear hcc
                have hch : chg k j B = false := by rw [HJ.out]; exact HC1.out
                go_wp2_with fail
                go_roundg 0
                case measure => omega
                case rel => exact ⟨false, colsAll m k C B, bs5, f, rfl, by rw [← HD.out]; exact HIS.out, .inr ⟨rfl, rfl, by have := HT.out; rw [if_neg (by rw [HC1.out]; simp)] at this; exact this⟩⟩
    · have HT := Lib.hid hT
      clear hT
      go_wp2_with fail
      go_end0
      refine ⟨rfl, bs', ?_, hI.sub, hI.wr⟩
      rw [← HT.out]; exact hI.mu
end Go.Proofs.Ytcjaloddgilnpaa
