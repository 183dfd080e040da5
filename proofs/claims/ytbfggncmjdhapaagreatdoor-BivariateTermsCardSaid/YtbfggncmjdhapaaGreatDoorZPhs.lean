/- Products of Laurent polynomials: plain. -/
/- A region that draws its order, whose operations read or call quietly, but for a store at its end: each operation is walked once, by a table of values. -/
/- A region that draws its order, whose operations leave what was there as it is (they may make memory and call), but for a store at its end: each operation is walked once. -/
import Derived.Test.YtbfggncmjdhapaaGreatDoorZFod
import Derived.Test.YtbfggncmjdhapaaGreatDoorZFacts
import Derived.Deep.Draws
import Derived.Test.YtbfggncmjdhapaaGreatDoorZBmb
namespace Go.Proofs.YtbfggncmjdhapaaGreatDoor
set_option linter.unusedVariables false

/-- the coefficients of the product of a function and a list of terms -/
def cvF (F : Int → Int) : List (Int × Int) → Int → Int
  | [], _ => 0
  | t :: q, e => t.2 * F (e - t.1) + cvF F q e
/-- the coefficients of the product of two lists of terms -/
def cv (p q : List (Int × Int)) (e : Int) : Int := cvF (cf p) q e
/-- the products of the terms, in order -/
def prs : List (Int × Int) → List (Int × Int) → List (Int × Int)
  | [], _ => []
  | s :: p, q => (q.map fun t => (s.1 + t.1, s.2 * t.2)) ++ prs p q
theorem cvF_add (F G : Int → Int) (q : List (Int × Int)) (e : Int) : cvF (fun x => F x + G x) q e = cvF F q e + cvF G q e := by
  induction q with
  | nil => rfl
  | cons t q ih => simp only [cvF]; rw [ih, Int.mul_add]; omega
theorem cvF_zero (q : List (Int × Int)) (e : Int) : cvF (fun _ => 0) q e = 0 := by
  induction q with
  | nil => rfl
  | cons t q ih => simp only [cvF]; rw [ih]; simp
theorem cvF_congr {F G : Int → Int} (h : ∀ x, F x = G x) (q : List (Int × Int)) (e : Int) : cvF F q e = cvF G q e := by rw [show F = G from funext h]
theorem cvF_shift (F : Int → Int) (d : Int) (q : List (Int × Int)) (e : Int) : cvF (fun x => F (x - d)) q e = cvF F q (e - d) := by
  induction q with
  | nil => rfl
  | cons t q ih => simp only [cvF]; rw [ih, show e - t.1 - d = e - d - t.1 by omega]
theorem cvF_single (s : Int × Int) (q : List (Int × Int)) (e : Int) : cvF (fun x => if s.1 = x then s.2 else 0) q e = s.2 * cf q (e - s.1) := by
  induction q with
  | nil => simp [cvF, cf]
  | cons t q ih =>
    simp only [cvF]
    rw [ih, cf_cons, Int.mul_add]
    by_cases h : s.1 = e - t.1
    · rw [if_pos h, if_pos (by omega), Int.mul_comm]
    · rw [if_neg h, if_neg (by omega), Int.mul_zero, Int.mul_zero]
theorem cv_nil (q : List (Int × Int)) (e : Int) : cv [] q e = 0 := cvF_zero q e
theorem cv_cons (s : Int × Int) (p q : List (Int × Int)) (e : Int) : cv (s :: p) q e = s.2 * cf q (e - s.1) + cv p q e := by
  unfold cv
  rw [show cf (s :: p) = fun x => (if s.1 = x then s.2 else 0) + cf p x from rfl, cvF_add, cvF_single]
theorem cv_right_nil (p : List (Int × Int)) (e : Int) : cv p [] e = 0 := rfl
theorem cv_comm (p q : List (Int × Int)) (e : Int) : cv p q e = cv q p e := by
  induction p with
  | nil => rw [cv_nil]; rfl
  | cons s p ih => rw [cv_cons, ih]; rfl
theorem cv_congr {p p' q q' : List (Int × Int)} (h : ∀ x, cf p x = cf p' x) (k : ∀ x, cf q x = cf q' x) (e : Int) : cv p q e = cv p' q' e := by
  unfold cv
  rw [cvF_congr h]
  show cv p' q e = cv p' q' e
  rw [cv_comm, cv_comm p']
  exact cvF_congr k p' e
theorem cf_mulmap (s : Int × Int) (q : List (Int × Int)) (e : Int) : cf (q.map fun t => (s.1 + t.1, s.2 * t.2)) e = s.2 * cf q (e - s.1) := by
  induction q with
  | nil => simp [cf]
  | cons t q ih =>
    rw [List.map_cons, cf_cons, cf_cons, ih, Int.mul_add]
    by_cases h : t.1 = e - s.1
    · rw [if_pos h, if_pos (by show s.1 + t.1 = e; omega)]
    · rw [if_neg h, if_neg (by show ¬ s.1 + t.1 = e; omega), Int.mul_zero]
theorem cf_prs (p q : List (Int × Int)) (e : Int) : cf (prs p q) e = cv p q e := by
  induction p with
  | nil => rw [cv_nil]; rfl
  | cons s p ih => rw [prs, cf_append, cf_mulmap, ih, cv_cons]
theorem prs_append (p p' q : List (Int × Int)) : prs (p ++ p') q = prs p q ++ prs p' q := by
  induction p with
  | nil => rfl
  | cons s p ih => rw [List.cons_append, prs, prs, ih, List.append_assoc]
theorem prs_one (s : Int × Int) (q : List (Int × Int)) : prs [s] q = q.map fun t => (s.1 + t.1, s.2 * t.2) := by rw [prs, prs, List.append_nil]
theorem prs_mem {p q : List (Int × Int)} {u : Int × Int} (h : u ∈ prs p q) : ∃ s ∈ p, ∃ t ∈ q, u = (s.1 + t.1, s.2 * t.2) := by
  induction p with
  | nil => cases h
  | cons s p ih =>
    rw [prs] at h
    rcases List.mem_append.1 h with h | h
    · obtain ⟨t, ht, rfl⟩ := List.mem_map.1 h
      exact ⟨s, List.mem_cons_self .., t, ht, rfl⟩
    · obtain ⟨s', hs, t, ht, e⟩ := ih h
      exact ⟨s', List.mem_cons_of_mem _ hs, t, ht, e⟩
theorem prs_len (p q : List (Int × Int)) : (prs p q).length = p.length * q.length := by
  induction p with
  | nil => simp [prs]
  | cons s p ih => rw [prs, List.length_append, List.length_map, ih, List.length_cons, Nat.succ_mul, Nat.add_comm]
/-- a coefficient of a product is not great -/
theorem cf_natAbs_le {l : List (Int × Int)} {B : Nat} (hb : ∀ t ∈ l, t.2.natAbs ≤ B) : ∀ e, (cf l e).natAbs ≤ B * l.length := by
  intro e
  induction l with
  | nil => simp [cf]
  | cons t l ih =>
    have h1 := hb t (List.mem_cons_self ..)
    have h2 := ih (fun s hs => hb s (List.mem_cons_of_mem _ hs))
    rw [cf_cons, List.length_cons, Nat.mul_succ]
    split <;> omega
theorem cvF_bd {F : Int → Int} {q : List (Int × Int)} {B C : Nat} (hF : ∀ x, (F x).natAbs ≤ B) (hq : ∀ t ∈ q, t.2.natAbs ≤ C) : ∀ e, (cvF F q e).natAbs ≤ C * B * q.length := by
  intro e
  induction q with
  | nil => simp [cvF]
  | cons t q ih =>
    have h1 := hq t (List.mem_cons_self ..)
    have h2 := ih (fun s hs => hq s (List.mem_cons_of_mem _ hs))
    have h3 : (t.2 * F (e - t.1)).natAbs ≤ C * B := by rw [Int.natAbs_mul]; exact Nat.mul_le_mul h1 (hF _)
    simp only [cvF]
    rw [List.length_cons, Nat.mul_succ]
    omega
theorem Lim.na {l : List (Int × Int)} (h : Lim l) : ∀ t ∈ l, t.2.natAbs ≤ 1125899906842624 := fun t ht => by have := h.co t ht; omega
/-- partial sums of products stay within 127 bits -/
theorem Lim.cvbd {p q : List (Int × Int)} (hp : Lim p) (kp : Can p) (hq : Lim q) (kq : Can q) (e : Int) : (cv p q e).natAbs ≤ 5316911983139663491615228241121378304 := by
  have h1 : ∀ x, (Go.Proofs.YtbfggncmjdhapaaGreatDoor.cf p x).natAbs ≤ 1125899906842624 := fun x => by have := hp.cf kp x; omega
  have h2 := cvF_bd h1 hq.na e
  have h3 := hq.len kq
  have h4 : 1125899906842624 * 1125899906842624 * q.length ≤ 1125899906842624 * 1125899906842624 * 2097153 := Nat.mul_le_mul_left _ h3
  unfold cv
  omega
/-- products of two terms add up to coefficients of prefixes: all partial sums are bounded -/
theorem cf_part_bd {l : List (Int × Int)} {B : Nat} (hb : ∀ t ∈ l, t.2.natAbs ≤ B) (k : Nat) (e : Int) : (cf (l.take k) e).natAbs ≤ B * l.length := by
  have h1 := cf_natAbs_le (l := l.take k) (fun t ht => hb t (List.mem_of_mem_take ht)) e
  have h2 : (l.take k).length ≤ l.length := by simp; omega
  exact Nat.le_trans h1 (Nat.mul_le_mul_left _ h2)
/-- the extreme exponents of a product -/
theorem cv_out {p q : List (Int × Int)} {a b c d e : Int} (hp : ∀ s ∈ p, a ≤ s.1 ∧ s.1 ≤ b) (hq : ∀ t ∈ q, c ≤ t.1 ∧ t.1 ≤ d) (h : e < a + c ∨ b + d < e) : cv p q e = 0 := by
  rw [← cf_prs]
  refine cf_out fun u hu => ?_
  obtain ⟨s, hs, t, ht, rfl⟩ := prs_mem hu
  have := hp s hs
  have := hq t ht
  show s.1 + t.1 ≠ e
  omega
/-- the list of the coefficients other than 0 from an exponent on -/
def dense (F : Int → Int) (low : Int) : Nat → List (Int × Int)
  | 0 => []
  | k + 1 => dense F low k ++ (if F (low + (k : Int)) = 0 then [] else [(low + (k : Int), F (low + (k : Int)))])
theorem dense_mem {F : Int → Int} {low : Int} : ∀ {k : Nat} {t : Int × Int}, t ∈ dense F low k → low ≤ t.1 ∧ t.1 < low + k ∧ t.2 = F t.1 ∧ t.2 ≠ 0
  | 0, t, h => by cases h
  | k + 1, t, h => by
    rw [dense] at h
    rcases List.mem_append.1 h with h | h
    · have := dense_mem h
      exact ⟨this.1, by omega, this.2.2⟩
    · split at h
      · cases h
      · next h0 =>
        rw [List.mem_singleton.1 h]
        exact ⟨by show low ≤ low + (k : Int); omega, by show low + (k : Int) < _; omega, rfl, h0⟩
theorem dense_can (F : Int → Int) (low : Int) : ∀ k, Can (dense F low k)
  | 0 => Can.nil
  | k + 1 => by
    rw [dense]
    split
    · rw [List.append_nil]; exact dense_can F low k
    · next h0 => exact (dense_can F low k).snoc (fun s hs => by have := dense_mem hs; show s.1 < low + (k : Int); omega) h0
theorem dense_len (F : Int → Int) (low : Int) : ∀ k, (dense F low k).length ≤ k
  | 0 => Nat.le_refl _
  | k + 1 => by
    have := dense_len F low k
    rw [dense, List.length_append]
    split <;> simp <;> omega
theorem dense_cf (F : Int → Int) (low : Int) : ∀ (k : Nat) (e : Int), cf (dense F low k) e = if low ≤ e ∧ e < low + k then F e else 0
  | 0, e => by rw [if_neg (by omega)]; rfl
  | k + 1, e => by
    rw [dense, cf_append, dense_cf F low k]
    by_cases he : low + (k : Int) = e
    · rw [if_neg (show ¬ (low ≤ e ∧ e < low + (k : Int)) by omega), if_pos (show low ≤ e ∧ e < low + ((k + 1 : Nat) : Int) by omega), Int.zero_add]
      by_cases h0 : F (low + (k : Int)) = 0
      · rw [if_pos h0, ← he, h0]; rfl
      · rw [if_neg h0, cf_one, if_pos he, he]
    · have h1 : cf (if F (low + (k : Int)) = 0 then [] else [(low + (k : Int), F (low + (k : Int)))]) e = 0 := by
        split
        · rfl
        · rw [cf_one, if_neg he]
      rw [h1, Int.add_zero]
      by_cases h2 : low ≤ e ∧ e < low + k
      · rw [if_pos h2, if_pos (by omega)]
      · rw [if_neg h2, if_neg (by omega)]
/-- the product of polynomials -/
def MulP : Pol → Pol → Pol → Prop
  | some p, some q, r => (∃ l, r = some l ∧ Can l ∧ Lim l ∧ ∀ e, cf l e = cv p q e) ∨ (r = none ∧ ((∃ e, ¬ (-1125899906842624 ≤ cv p q e ∧ cv p q e ≤ 1125899906842624)) ∨ ∃ s ∈ p, ∃ t ∈ q, s.1 + t.1 < -1048576 ∨ 1048576 < s.1 + t.1))
  | _, _, r => r = none
theorem MulP.some {p q : List (Int × Int)} {r : Pol} (h : MulP (some p) (some q) r) (h1 : ∀ e, -1125899906842624 ≤ cv p q e ∧ cv p q e ≤ 1125899906842624) (h2 : ∀ s ∈ p, ∀ t ∈ q, -1048576 ≤ s.1 + t.1 ∧ s.1 + t.1 ≤ 1048576) : ∃ l, r = Option.some l ∧ Can l ∧ Lim l ∧ ∀ e, cf l e = cv p q e := by
  rcases h with h | ⟨_, ⟨e, he⟩ | ⟨s, hs, t, ht, hh⟩⟩
  · exact h
  · exact absurd (h1 e) he
  · have := h2 s hs t ht; omega
theorem CombP.some {f : Int → Int → Int} {p q : List (Int × Int)} {r : Pol} (h : CombP f (some p) (some q) r) (h1 : ∀ e, -1125899906842624 ≤ f (cf p e) (cf q e) ∧ f (cf p e) (cf q e) ≤ 1125899906842624) : ∃ l, r = Option.some l ∧ Can l ∧ Lim l ∧ ∀ e, cf l e = f (cf p e) (cf q e) := by
  rcases h with h | ⟨_, e, he⟩
  · exact h
  · exact absurd (h1 e) he
/-- a coefficient other than 0 of the product comes from a term of each -/
theorem cv_ne {p q : List (Int × Int)} {e : Int} (h : cv p q e ≠ 0) : ∃ s ∈ p, ∃ t ∈ q, s.1 + t.1 = e := by
  rw [← cf_prs] at h
  obtain ⟨u, hu, he⟩ := cf_ne h
  obtain ⟨s, hs, t, ht, rfl⟩ := prs_mem hu
  exact ⟨s, hs, t, ht, he⟩
/-- the end of the dense product -/
theorem mul_end {p q : List (Int × Int)} {low : Int} {n : Nat} (hl : -1048576 ≤ low) (hh : low + n ≤ 1048577) (hx : ∀ s ∈ p, ∀ t ∈ q, low ≤ s.1 + t.1 ∧ s.1 + t.1 < low + n) (hb : ∀ i : Nat, i < n → -1125899906842624 ≤ cv p q (low + i) ∧ cv p q (low + i) ≤ 1125899906842624) : MulP (some p) (some q) (some (dense (cv p q) low n)) := by
  refine .inl ⟨_, rfl, dense_can _ _ _, ⟨fun t ht => ?_, fun t ht => ?_⟩, fun e => ?_⟩
  · have h1 := dense_mem ht
    have h2 := hb (t.1 - low).toNat (by omega)
    rw [show low + ((t.1 - low).toNat : Int) = t.1 by omega] at h2
    rw [h1.2.2.1]; exact h2
  · have h1 := dense_mem ht
    omega
  · rw [dense_cf]
    by_cases h : low ≤ e ∧ e < low + n
    · rw [if_pos h]
    · rw [if_neg h]
      refine (Classical.byContradiction fun hn => ?_)
      obtain ⟨s, hs, t, ht, he⟩ := cv_ne (fun k => hn k.symm)
      have := hx s hs t ht
      omega
theorem mul_bad {p q : List (Int × Int)} {e : Int} (h : ¬ (-1125899906842624 ≤ cv p q e ∧ cv p q e ≤ 1125899906842624)) : MulP (some p) (some q) none := .inr ⟨rfl, .inl ⟨e, h⟩⟩
end Go.Proofs.YtbfggncmjdhapaaGreatDoor

namespace Go.Proofs.YtbfggncmjdhapaaGreatDoor
open Go.RowKit
set_option linter.unusedVariables false

/-- every operation before the last is needed by a later one -/
def needB (ops : Array Oper) (n : Nat) : Bool := (List.range n).all fun i => (List.range (n + 1)).any fun j => decide (i < j) && (depsAt ops j).contains i
theorem need_all {ops : Array Oper} {n : Nat} (h : needB ops n = true) {D : Nat → Bool} (hcl : ∀ j, D j = true → ∀ k ∈ depsAt ops j, D k = true) (hn : D n = true) : ∀ q i, i ≤ n → n - i ≤ q → D i = true := by
  intro q
  induction q with
  | zero => intro i h1 h2; obtain rfl : i = n := by omega
            exact hn
  | succ q ih =>
    intro i h1 h2
    by_cases e : i = n
    · rw [e]; exact hn
    · have h3 := List.all_eq_true.1 h i (by simp; omega)
      obtain ⟨j, hj, h4⟩ := List.any_eq_true.1 h3
      simp only [Bool.and_eq_true, decide_eq_true_eq, List.contains_iff_mem] at h4
      simp only [List.mem_range] at hj
      exact hcl j (ih j (by omega) (by omega)) i h4.2

section
variable {P : Program} {Q : Exit → Act → World → Prop}
/-- behind one operation of the table -/
def TabPost (w : World) (ev : Nat → Value) (S : World → World) (n i : Nat) (b : Act) (d : Option Tmp) (a' : Act) (w' : World) : Prop := a' = b.put d (ev i) ∧ ∃ m, w' = if i = n then S (w.drewN m) else w.drewN m
/-- what the frame holds before operation o -/
def Tabs (l : List Oper) (ev : Nat → Value) (a : Act) (o : Oper) (b : Act) : Prop :=
  ∀ t : Nat, (match (dstOf l.toArray).idxOf? (some t) with | some j => (deps o).contains j | none => true) = true → b.tmps[t]?.getD undef = look (dstOf l.toArray) ev a t
def TabI (w : World) (ev : Nat → Value) (S : World → World) (n : Nat) (D : Nat → Bool) (x : Nat → Value) (W : World) : Prop :=
  (∀ i, D i = true → x i = ev i) ∧ ∃ m, W = if D n = true then S (w.drewN m) else w.drewN m
theorem wp_region_table {id : Nat} {l : List Oper} {a : Act} {w : World} (n : Nat) (hm : P.follows .mixedOrders = true) (hd : apartD (dstOf l.toArray) = true) (hb : backD l.toArray = true) (hg : l.all (fun o => o.guard.isNone) = true) (hn : inD a.tmps.size (dstOf l.toArray) = true)
    (hlen : l.length = n + 1) (hneed : needB l.toArray n = true) (ev : Nat → Value) (S : World → World)
    (hstep : AllOps (fun i o => ∀ m (b : Act), Tabs l ev a o b → o.wp P b (w.drewN m) (TabPost w ev S n i b o.dst) NoQ) 0 l)
    (hend : ∀ m, Q .normal (putAll (dstOf l.toArray) 0 ev a) (S (w.drewN m))) : (Code.region id l.toArray true).wp P Q a w := by
  refine wp_region_factsU hm hd hb hg hn (TabI w ev S n) (fun x => ⟨fun i h => Bool.noConfusion h, 1, rfl⟩) ?_ ?_
  · have key : ∀ k o, l[k]? = some o → ∀ D x W (b : Act), TabI w ev S n D x W → D k = false → (∀ j ∈ deps o, D j = true) → (∀ j, D j = true → ∀ q ∈ depsAt l.toArray j, D q = true) → (∀ t : Nat, b.tmps[t]?.getD undef = look (dstOf l.toArray) x a t) → o.wp P b W (StepPost (TabI w ev S n) D x k b o.dst) NoQ := by
      intro k o ho D x W b hI hD hdep hcl hbt
      have hk : k ≤ n := by have := (List.getElem?_eq_some_iff.1 ho).1; omega
      have hDn : D n = false := by
        cases h : D n with
        | false => rfl
        | true => have := need_all hneed hcl h _ k hk (Nat.le_refl _); rw [this] at hD; cases hD
      obtain ⟨hx, m, hW⟩ := hI
      rw [hDn] at hW
      simp only [Bool.false_eq_true, if_false] at hW
      subst hW
      have hs := hstep.get _ _ k o ho m b (fun t ht => by
        rw [hbt t]
        unfold look
        cases hq : (dstOf l.toArray).idxOf? (some t) with
        | none => rfl
        | some j =>
          rw [hq] at ht
          simp only [List.contains_iff_mem] at ht
          exact hx j (hdep j ht))
      rw [Nat.zero_add] at hs
      refine Oper.wp_mono ?_ hs
      rintro a' w' ⟨rfl, m', hw'⟩
      refine ⟨ev k, rfl, fun i hi => ?_, m', ?_⟩
      · by_cases e : i = k
        · subst e; simp
        · rw [upd_ne _ _ e] at hi ⊢; exact hx i hi
      · rw [hw']
        by_cases e : k = n
        · subst e; simp
        · rw [if_neg e, upd_ne _ _ (fun h => e h.symm), hDn]; simp
    have aux : ∀ (r : List Oper) (s : Nat), (∀ k, r[k]? = l[s + k]?) → AllOps (fun i o => ∀ D x W (b : Act), TabI w ev S n D x W → D i = false → (∀ j ∈ deps o, D j = true) → (∀ j, D j = true → ∀ q ∈ depsAt l.toArray j, D q = true) → (∀ t : Nat, b.tmps[t]?.getD undef = look (dstOf l.toArray) x a t) → o.wp P b W (StepPost (TabI w ev S n) D x i b o.dst) NoQ) s r := by
      intro r
      induction r with
      | nil => intro s _; trivial
      | cons o r ih =>
        intro s hr
        refine ⟨key s o (by have := hr 0; simpa using this.symm), ih (s + 1) (fun k => ?_)⟩
        have := hr (k + 1)
        rw [List.getElem?_cons_succ] at this
        rw [this]; congr 1; omega
    exact aux l 0 (fun k => by rw [Nat.zero_add])
  · intro D x W hI hall
    obtain ⟨hx, m, hW⟩ := hI
    have hDn := hall n (by omega)
    rw [hDn] at hW
    simp only [if_true] at hW
    subst hW
    have : putAll (dstOf l.toArray) 0 x a = putAll (dstOf l.toArray) 0 ev a := putAll_congr _ _ _ _ _ (fun j _ h2 => hx j (hall j (by simpa [dstOf] using h2)))
    rw [this]
    exact hend m
variable {w : World} {ev : Nat → Value} {S : World → World} {n i m : Nat} {b : Act} {o : Oper}
theorem tab_run (hi : i ≠ n) (v : Value) (hv : ev i = v) (h : (execOp b.eval o).run P (w.drewN m) = .ok (.value v) (w.drewN m)) : o.wp P b (w.drewN m) (TabPost w ev S n i b o.dst) NoQ := by
  unfold Oper.wp; rw [h]; exact ⟨by rw [hv], m, by rw [if_neg hi]⟩
theorem tab_store (v : Value) (hv : ev n = v) (W : World) (hW : W = S (w.drewN m)) (h : (execOp b.eval o).run P (w.drewN m) = .ok .skip W) (hu : v = undef) : o.wp P b (w.drewN m) (TabPost w ev S n n b o.dst) NoQ := by
  unfold Oper.wp; rw [h]; exact ⟨by rw [hv, hu], m, by rw [if_pos rfl]; exact hW⟩
theorem tab_call (hi : i ≠ n) (v : Value) (hv : ev i = v) {f : FuncId} {args : Array Value} (h : (execOp b.eval o).run P (w.drewN m) = .ok (.enter f args) (w.drewN m)) (hc : Calls P f args (w.drewN m) fun e w' => ∃ q, e = .returned v ∧ w' = (w.drewN m).drewN q) : o.wp P b (w.drewN m) (TabPost w ev S n i b o.dst) NoQ := by
  unfold Oper.wp; rw [h]
  simp only [Oper.upon]
  refine hc.mono ?_
  rintro e w' ⟨q, rfl, rfl⟩
  exact ⟨by rw [hv], m + q, by rw [if_neg hi]; simp [World.drewN, Nat.add_assoc]⟩
end
end Go.Proofs.YtbfggncmjdhapaaGreatDoor

namespace Go.Proofs.YtbfggncmjdhapaaGreatDoor
open Go.RowKit
set_option linter.unusedVariables false

section
variable {P : Program} {Q : Exit → Act → World → Prop}
/-- behind one operation: what it makes (fr) lies in new memory -/
def PhfPost (w : World) (Φ : Nat → Value → World → Prop) (fr : Nat → Bool) (i : Nat) (b : Act) (d : Option Tmp) (a' : Act) (w' : World) : Prop := ∃ v, a' = b.put d v ∧ Below w.heap.size w w' ∧ Φ i v w' ∧ (fr i = true → ∀ k, v.ownBlock = some k → w.heap.size ≤ k)
/-- what is made by two operations lies apart -/
def ApF (fr : Nat → Bool) (D : Nat → Bool) (x : Nat → Value) : Prop := ∀ i j, i ≠ j → D i = true → D j = true → fr i = true → fr j = true → ∀ k, (x i).ownBlock = some k → (x j).ownBlock ≠ some k
def PhfI (w0 : World) (Φ : Nat → Value → World → Prop) (fr : Nat → Bool) (x0 : Nat → Value) (D : Nat → Bool) (x : Nat → Value) (w : World) : Prop := PhiI w0 Φ x0 D x w ∧ ApF fr D x
def PhsI (w0 : World) (n : Nat) (Φ : Nat → Value → World → Prop) (fr : Nat → Bool) (R : (Nat → Value) → World → Prop) (x0 : Nat → Value) (D : Nat → Bool) (x : Nat → Value) (w : World) : Prop := if D n = true then R x w else PhfI w0 Φ fr x0 D x w
theorem wp_region_phis {id : Nat} {l : List Oper} {a : Act} {w0 : World} (n : Nat) (hm : P.follows .mixedOrders = true) (hd : apartD (dstOf l.toArray) = true) (hb : backD l.toArray = true) (hg : l.all (fun o => o.guard.isNone) = true) (hn : inD a.tmps.size (dstOf l.toArray) = true)
    (hlen : l.length = n + 1) (hneed : needB l.toArray n = true)
    (Φ : Nat → Value → World → Prop) (hΦ : ∀ i v w w', Φ i v w → Below w.heap.size w w' → Φ i v w') (fr : Nat → Bool) (hfr : ∀ i v w, fr i = true → Φ i v w → ∀ k, v.ownBlock = some k → k < w.heap.size) (R : (Nat → Value) → World → Prop)
    (hstep : AllOps (fun i o => ∀ (x : Nat → Value) w (b : Act), Below w0.heap.size w0 w → (∀ j ∈ deps o, Φ j (x j) w) → (∀ j1 ∈ deps o, ∀ j2 ∈ deps o, j1 ≠ j2 → fr j1 = true → fr j2 = true → ∀ k, (x j1).ownBlock = some k → (x j2).ownBlock ≠ some k) → (∀ j, i ∈ depsAt l.toArray j → x j = slotV a ((dstOf l.toArray).getD (j - 0) none)) → (∀ t : Nat, b.tmps[t]?.getD undef = look (dstOf l.toArray) x a t) →
      (i < n → o.wp P b w (PhfPost w Φ fr i b o.dst) NoQ) ∧ (i = n → (∀ j, j < n → Φ j (x j) w) → o.wp P b w (fun a' w' => ∃ v, a' = b.put o.dst v ∧ R (upd x n v) w') NoQ)) 0 l)
    (hend : ∀ (x : Nat → Value) w, R x w → Q .normal (putAll (dstOf l.toArray) 0 x a) w) : (Code.region id l.toArray true).wp P Q a w0 := by
  refine wp_region_facts2U hm hd hb hg hn (PhsI w0 n Φ fr R (fun j => slotV a ((dstOf l.toArray).getD (j - 0) none))) ?_ ?_ ?_
  · unfold PhsI
    rw [if_neg (by simp)]
    exact ⟨⟨(Below.refl _ _).drew, fun i h => Bool.noConfusion h, fun _ _ => rfl⟩, fun i j _ h => Bool.noConfusion h⟩
  · have key : ∀ k o, l[k]? = some o → ∀ D x W (b : Act), PhsI w0 n Φ fr R (fun j => slotV a ((dstOf l.toArray).getD (j - 0) none)) D x W → D k = false → (∀ j ∈ deps o, D j = true) → (∀ j, D j = true → ∀ q ∈ depsAt l.toArray j, D q = true) → (∀ t : Nat, b.tmps[t]?.getD undef = look (dstOf l.toArray) x a t) → o.wp P b W (StepPost (PhsI w0 n Φ fr R (fun j => slotV a ((dstOf l.toArray).getD (j - 0) none))) D x k b o.dst) NoQ := by
      intro k o ho D x W b hI hD hdep hcl hbt
      have hk : k ≤ n := by have := (List.getElem?_eq_some_iff.1 ho).1; omega
      have hDn : D n = false := by
        cases h : D n with
        | false => rfl
        | true => have := need_all hneed hcl h _ k hk (Nat.le_refl _); rw [this] at hD; cases hD
      unfold PhsI at hI
      rw [hDn, if_neg (by simp)] at hI
      obtain ⟨hI, hAp⟩ := hI
      have hs := hstep.get _ _ k o ho x W b hI.1 (fun j hj => hI.2.1 j (hdep j hj)) (fun j1 h1 j2 h2 hne f1 f2 => hAp j1 j2 hne (hdep j1 h1) (hdep j2 h2) f1 f2) (fun j hj => hI.2.2 j (by
        cases h : D j with
        | false => rfl
        | true =>
          rw [Nat.zero_add] at hj
          have := hcl j h k hj
          rw [hD] at this; cases this)) hbt
      rw [Nat.zero_add] at hs
      by_cases hkn : k = n
      · subst hkn
        have hDall : ∀ j, j < k → D j = true := by
          intro j hj
          have hcl' : ∀ j, upd D k true j = true → ∀ q ∈ depsAt l.toArray j, upd D k true q = true := by
            intro j hj q hq
            by_cases eq : q = k
            · subst eq; rw [upd_same]
            rw [upd_ne _ _ eq]
            by_cases ej : j = k
            · subst ej
              have : depsAt l.toArray j = deps o := by
                have h1 : l.toArray[j]? = some o := by simpa using ho
                simp [depsAt, h1]
              rw [this] at hq
              exact hdep q hq
            · rw [upd_ne _ _ ej] at hj
              exact hcl j hj q hq
          have := need_all hneed hcl' (upd_same _ _ _) _ j (by omega) (Nat.le_refl _)
          rwa [upd_ne _ _ (show j ≠ k by omega)] at this
        refine Oper.wp_mono ?_ (hs.2 rfl (fun j hj => hI.2.1 j (hDall j hj)))
        rintro a' w' ⟨v, rfl, hR⟩
        refine ⟨v, rfl, ?_⟩
        unfold PhsI
        rw [if_pos (upd_same _ _ _)]
        exact hR
      · refine Oper.wp_mono ?_ (hs.1 (by omega))
        rintro a' w' ⟨v, rfl, hb', hv, hfv⟩
        refine ⟨v, rfl, ?_⟩
        unfold PhsI
        rw [upd_ne _ _ (show n ≠ k from fun e => hkn e.symm), hDn, if_neg (by simp)]
        refine ⟨⟨hI.1.trans (hb'.mono hI.1.size), fun i hi => ?_, fun i hi => ?_⟩, fun i j hij hi hj fi fj => ?_⟩
        · by_cases e : i = k
          · subst e; rw [upd_same]; exact hv
          · rw [upd_ne _ _ e] at hi ⊢
            exact hΦ i (x i) W w' (hI.2.1 i hi) hb'
        · by_cases e : i = k
          · subst e; rw [upd_same] at hi; cases hi
          · rw [upd_ne _ _ e] at hi ⊢
            exact hI.2.2 i hi
        · intro q hq
          by_cases ei : i = k
          · subst ei
            have ej : j ≠ i := fun e => hij e.symm
            rw [upd_same] at hq
            rw [upd_ne _ _ ej] at hj ⊢
            intro h2
            have h3 := hfr j (x j) W fj (hI.2.1 j hj) q h2
            have h4 := hfv fi q hq
            omega
          · rw [upd_ne _ _ ei] at hi hq
            by_cases ej : j = k
            · subst ej
              rw [upd_same]
              intro h2
              have h3 := hfr i (x i) W fi (hI.2.1 i hi) q hq
              have h4 := hfv fj q h2
              omega
            · rw [upd_ne _ _ ej] at hj ⊢
              exact hAp i j hij hi hj fi fj q hq
    have aux : ∀ (r : List Oper) (s : Nat), (∀ k, r[k]? = l[s + k]?) → AllOps (fun i o => ∀ D x W (b : Act), PhsI w0 n Φ fr R (fun j => slotV a ((dstOf l.toArray).getD (j - 0) none)) D x W → D i = false → (∀ j ∈ deps o, D j = true) → (∀ j, D j = true → ∀ q ∈ depsAt l.toArray j, D q = true) → (∀ t : Nat, b.tmps[t]?.getD undef = look (dstOf l.toArray) x a t) → o.wp P b W (StepPost (PhsI w0 n Φ fr R (fun j => slotV a ((dstOf l.toArray).getD (j - 0) none))) D x i b o.dst) NoQ) s r := by
      intro r
      induction r with
      | nil => intro s _; trivial
      | cons o r ih =>
        intro s hr
        refine ⟨key s o (by have := hr 0; simpa using this.symm), ih (s + 1) (fun k => ?_)⟩
        have := hr (k + 1)
        rw [List.getElem?_cons_succ] at this
        rw [this]; congr 1; omega
    exact aux l 0 (fun k => by rw [Nat.zero_add])
  · intro D x W hI hall
    have hDn := hall n (by omega)
    unfold PhsI at hI
    rw [if_pos hDn] at hI
    exact hend x W hI
variable {w : World} {Φ : Nat → Value → World → Prop} {fr : Nat → Bool} {i : Nat} {b : Act} {o : Oper}
theorem phs_store {R : (Nat → Value) → World → Prop} {x : Nat → Value} {n : Nat} (W : World) (h : (execOp b.eval o).run P w = .ok .skip W) (ho : o.dst = none) (hR : ∀ v, R (upd x n v) W) : o.wp P b w (fun a' w' => ∃ v, a' = b.put o.dst v ∧ R (upd x n v) w') NoQ := by
  unfold Oper.wp; rw [h]
  refine ⟨undef, ?_, hR undef⟩
  rw [ho]
theorem phf_run (v : Value) (hf : fr i = false) (h : (execOp b.eval o).run P w = .ok (.value v) w) (hv : Φ i v w) : o.wp P b w (PhfPost w Φ fr i b o.dst) NoQ := by
  unfold Oper.wp; rw [h]; exact ⟨v, rfl, Below.refl _ _, hv, fun e => by rw [hf] at e; cases e⟩
theorem phf_make (v : Value) (w' : World) (h : (execOp b.eval o).run P w = .ok (.value v) w') (hb : Below w.heap.size w w') (hv : Φ i v w') (hf : fr i = true → ∀ k, v.ownBlock = some k → w.heap.size ≤ k) : o.wp P b w (PhfPost w Φ fr i b o.dst) NoQ := by
  unfold Oper.wp; rw [h]; exact ⟨v, rfl, hb, hv, hf⟩
theorem phf_call {f : FuncId} {args : Array Value} (h : (execOp b.eval o).run P w = .ok (.enter f args) w) (hc : Calls P f args w fun e w' => ∃ v, e = .returned v ∧ Below w.heap.size w w' ∧ Φ i v w' ∧ (fr i = true → ∀ k, v.ownBlock = some k → w.heap.size ≤ k)) : o.wp P b w (PhfPost w Φ fr i b o.dst) NoQ := by
  unfold Oper.wp; rw [h]
  simp only [Oper.upon]
  refine hc.mono ?_
  rintro e w' ⟨v, rfl, hb, hv⟩
  exact ⟨v, rfl, hb, hv⟩
end
end Go.Proofs.YtbfggncmjdhapaaGreatDoor
