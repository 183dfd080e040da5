/- All moves that can be applied: plain facts. -/
import Derived.Test.YtgclngoeglopcaaMoves
namespace Go.Proofs.Ytgclngoeglopcaa
open Go.RowKit

theorem Mv.ext' {a b : Mv} (h1 : a.k = b.k) (h2 : a.rows = b.rows) (h3 : a.a = b.a) (h4 : a.v = b.v) : a = b := by cases a; cases b; simp_all
/-- the moves of a kind, of columns or rows, at a place, with the first variants -/
def cV (ok : Mv → Bool) (k : Int) (r : Bool) (a : Nat) (V : Nat) : List Mv := (List.range V).filterMap fun u : Nat => if ok ⟨k, r, a, u⟩ = true then some ⟨k, r, a, u⟩ else none
def cA (ok : Mv → Bool) (k : Int) (r : Bool) (V : Nat) (A : Nat) : List Mv := (List.range A).flatMap fun a : Nat => cV ok k r a V
def cR (ok : Mv → Bool) (k : Int) (V A : Nat) (R : Nat) : List Mv := (List.range R).flatMap fun i : Nat => cA ok k (decide (i = 1)) V A
def cK (ok : Mv → Bool) (V A : Int → Nat) (K : Nat) : List Mv := (List.range K).flatMap fun j : Nat => cR ok ((j : Int) + 1) (V ((j : Int) + 1)) (A ((j : Int) + 1)) 2
theorem cV_succ (ok : Mv → Bool) (k : Int) (r : Bool) (a V : Nat) : cV ok k r a (V + 1) = cV ok k r a V ++ (if ok ⟨k, r, a, V⟩ = true then [⟨k, r, a, V⟩] else []) := by
  unfold cV
  rw [List.range_succ, List.filterMap_append]
  congr 1
  by_cases h : ok ⟨k, r, a, V⟩ = true <;> simp [h]
theorem flat_succ {α : Type} (f : Nat → List α) (n : Nat) : (List.range (n + 1)).flatMap f = (List.range n).flatMap f ++ f n := by
  rw [List.range_succ, List.flatMap_append]; simp
theorem cA_succ (ok : Mv → Bool) (k : Int) (r : Bool) (V A : Nat) : cA ok k r V (A + 1) = cA ok k r V A ++ cV ok k r A V := flat_succ _ _
theorem cR_succ (ok : Mv → Bool) (k : Int) (V A R : Nat) : cR ok k V A (R + 1) = cR ok k V A R ++ cA ok k (decide (R = 1)) V A := flat_succ _ _
theorem cK_succ (ok : Mv → Bool) (V A : Int → Nat) (K : Nat) : cK ok V A (K + 1) = cK ok V A K ++ cR ok ((K : Int) + 1) (V ((K : Int) + 1)) (A ((K : Int) + 1)) 2 := flat_succ _ _

theorem flat_prefix {α : Type} {f : Nat → List α} {i n : Nat} {q : List α} (hi : i < n) (hq : q <+: f i) : ((List.range i).flatMap f ++ q) <+: (List.range n).flatMap f := by
  obtain ⟨t, ht⟩ := hq
  have h1 : ∀ m, (List.range (i + 1)).flatMap f <+: (List.range (i + 1 + m)).flatMap f := by
    intro m
    induction m with
    | zero => exact List.prefix_refl _
    | succ m ih => rw [← Nat.add_assoc, flat_succ f (i + 1 + m)]; exact ih.trans (List.prefix_append _ _)
  have h2 := h1 (n - (i + 1))
  rw [show i + 1 + (n - (i + 1)) = n from by omega, flat_succ f i, ← ht, ← List.append_assoc] at h2
  exact (List.prefix_append _ t).trans h2
theorem filterMap_prefix (ok : Mv → Bool) (k : Int) (r : Bool) (a : Nat) {u V : Nat} (h : u ≤ V) : cV ok k r a u <+: cV ok k r a V := by
  have : ∀ m, cV ok k r a u <+: cV ok k r a (u + m) := by
    intro m
    induction m with
    | zero => exact List.prefix_refl _
    | succ m ih => rw [← Nat.add_assoc, cV_succ]; exact ih.trans (List.prefix_append _ _)
  have := this (V - u)
  rwa [show u + (V - u) = V from by omega] at this
/-- what has been listed so far begins the whole list -/
theorem pre_prefix (ok : Mv → Bool) (V A : Int → Nat) {K j i a u : Nat} (hj : j < K) (hi : i < 2) (ha : a < A ((j : Int) + 1)) (hu : u ≤ V ((j : Int) + 1)) :
    (cK ok V A j ++ (cR ok ((j : Int) + 1) (V ((j : Int) + 1)) (A ((j : Int) + 1)) i ++ (cA ok ((j : Int) + 1) (decide (i = 1)) (V ((j : Int) + 1)) a ++ cV ok ((j : Int) + 1) (decide (i = 1)) a u))) <+: cK ok V A K := by
  refine flat_prefix hj ?_
  refine flat_prefix (f := fun i => cA ok ((j : Int) + 1) (decide (i = 1)) (V ((j : Int) + 1)) (A ((j : Int) + 1))) hi ?_
  exact flat_prefix (f := fun a => cV ok ((j : Int) + 1) (decide (i = 1)) a (V ((j : Int) + 1))) ha (filterMap_prefix _ _ _ _ hu)
theorem pre_get {L P : List Mv} {m : Mv} (h : (P ++ [m]) <+: L) : ∃ hl : P.length < L.length, L[P.length] = m := by
  obtain ⟨t, rfl⟩ := h
  refine ⟨by simp, by simp⟩

/-- places beyond the limits add nothing -/
theorem cV_more (ok : Mv → Bool) (k : Int) (r : Bool) (a : Nat) {V W : Nat} (h : V ≤ W) (hno : ∀ u, V ≤ u → ok ⟨k, r, a, u⟩ = false) : cV ok k r a W = cV ok k r a V := by
  have : ∀ m, cV ok k r a (V + m) = cV ok k r a V := by
    intro m
    induction m with
    | zero => rfl
    | succ m ih => rw [← Nat.add_assoc, cV_succ, ih, if_neg (by rw [hno _ (by omega)]; simp), List.append_nil]
  have := this (W - V)
  rwa [show V + (W - V) = W from by omega] at this
theorem cV_none (ok : Mv → Bool) (k : Int) (r : Bool) (a V : Nat) (hno : ∀ u : Nat, ok ⟨k, r, a, u⟩ = false) : cV ok k r a V = [] := by
  rw [cV_more ok k r a (Nat.zero_le V) (fun u _ => hno u)]; rfl
theorem cA_more (ok : Mv → Bool) (k : Int) (r : Bool) {V W A B : Nat} (hV : V ≤ W) (hA : A ≤ B) (hno : ∀ a u : Nat, A ≤ a ∨ V ≤ u → ok ⟨k, r, a, u⟩ = false) : cA ok k r W B = cA ok k r V A := by
  have h1 : ∀ m, cA ok k r W m = cA ok k r V m := by
    intro m
    induction m with
    | zero => rfl
    | succ m ih => rw [cA_succ, cA_succ, ih, cV_more ok k r m hV (fun u hu => hno m u (.inr hu))]
  have h2 : ∀ m, cA ok k r V (A + m) = cA ok k r V A := by
    intro m
    induction m with
    | zero => rfl
    | succ m ih => rw [← Nat.add_assoc, cA_succ, ih, cV_none ok k r _ _ (fun u => hno _ u (.inl (by omega))), List.append_nil]
  rw [h1 B]
  have := h2 (B - A)
  rwa [show A + (B - A) = B from by omega] at this
theorem cK_more (ok : Mv → Bool) (V W A B : Int → Nat) (K : Nat) (h : ∀ j : Nat, j < K → V ((j : Int) + 1) ≤ W ((j : Int) + 1) ∧ A ((j : Int) + 1) ≤ B ((j : Int) + 1) ∧ ∀ r, ∀ a u : Nat, A ((j : Int) + 1) ≤ a ∨ V ((j : Int) + 1) ≤ u → ok ⟨(j : Int) + 1, r, a, u⟩ = false) : cK ok W B K = cK ok V A K := by
  induction K with
  | zero => rfl
  | succ K ih =>
    obtain ⟨h1, h2, h3⟩ := h K (by omega)
    rw [cK_succ, cK_succ, ih (fun j hj => h j (by omega))]
    congr 1
    unfold cR
    congr 1
    funext i
    exact cA_more ok _ _ h1 h2 (h3 _)

/-- the order of the statement -/
def ordB (x y : Mv) : Bool := if x.k ≠ y.k then decide (x.k < y.k) else if x.rows ≠ y.rows then y.rows else if x.a ≠ y.a then decide (x.a < y.a) else decide (x.v < y.v)
theorem mem_cV {ok : Mv → Bool} {k : Int} {r : Bool} {a V : Nat} {m : Mv} (h : m ∈ cV ok k r a V) : m.k = k ∧ m.rows = r ∧ m.a = a := by
  unfold cV at h
  obtain ⟨u, _, hu⟩ := List.mem_filterMap.1 h
  split at hu
  · injection hu with hu; subst hu; exact ⟨rfl, rfl, rfl⟩
  · cases hu
theorem mem_cA {ok : Mv → Bool} {k : Int} {r : Bool} {V A : Nat} {m : Mv} (h : m ∈ cA ok k r V A) : m.k = k ∧ m.rows = r := by
  unfold cA at h
  obtain ⟨a, _, ha⟩ := List.mem_flatMap.1 h
  have := mem_cV ha
  exact ⟨this.1, this.2.1⟩
theorem mem_cR {ok : Mv → Bool} {k : Int} {V A R : Nat} {m : Mv} (h : m ∈ cR ok k V A R) : m.k = k := by
  unfold cR at h
  obtain ⟨a, _, ha⟩ := List.mem_flatMap.1 h
  exact (mem_cA ha).1
theorem mem_cK {ok : Mv → Bool} {V A : Int → Nat} {K : Nat} {m : Mv} (h : m ∈ cK ok V A K) : 1 ≤ m.k ∧ m.k ≤ K := by
  unfold cK at h
  obtain ⟨j, hj, hm⟩ := List.mem_flatMap.1 h
  have h1 := mem_cR hm
  have h2 := List.mem_range.1 hj
  omega
theorem pw_flat {α : Type} {R : α → α → Prop} {f : Nat → List α} (n : Nat) (h1 : ∀ i, i < n → (f i).Pairwise R) (h2 : ∀ i j, i < j → j < n → ∀ x ∈ f i, ∀ y ∈ f j, R x y) : ((List.range n).flatMap f).Pairwise R := by
  induction n with
  | zero => simp
  | succ n ih =>
    rw [flat_succ, List.pairwise_append]
    refine ⟨ih (fun i hi => h1 i (by omega)) (fun i j h h' => h2 i j h (by omega)), h1 n (by omega), fun x hx y hy => ?_⟩
    obtain ⟨i, hi, hx⟩ := List.mem_flatMap.1 hx
    exact h2 i n (List.mem_range.1 hi) (by omega) x hx y hy
theorem cV_pw (ok : Mv → Bool) (k : Int) (r : Bool) (a V : Nat) : (cV ok k r a V).Pairwise (fun x y => ordB x y = true) := by
  have key : ∀ V, (cV ok k r a V).Pairwise (fun x y => ordB x y = true) ∧ ∀ m ∈ cV ok k r a V, m.v < V := by
    intro V
    induction V with
    | zero => exact ⟨by simp [cV], by simp [cV]⟩
    | succ V ih =>
      rw [cV_succ]
      constructor
      · rw [List.pairwise_append]
        refine ⟨ih.1, by split <;> simp, fun x hx y hy => ?_⟩
        have h1 := mem_cV hx
        have h2 := ih.2 x hx
        split at hy
        · rw [List.mem_singleton] at hy
          subst hy
          simp [ordB, h1.1, h1.2.1, h1.2.2, h2]
        · cases hy
      · intro m hm
        rcases List.mem_append.1 hm with hm | hm
        · have := ih.2 m hm; omega
        · split at hm
          · rw [List.mem_singleton] at hm; subst hm; simp only; omega
          · cases hm
  exact (key V).1
theorem cK_pw (ok : Mv → Bool) (V A : Int → Nat) (K : Nat) : (cK ok V A K).Pairwise (fun x y => ordB x y = true) := by
  refine pw_flat K (fun j _ => pw_flat 2 (fun i hi => pw_flat _ (fun a _ => cV_pw ok _ _ a _) (fun a b hab _ x hx y hy => ?_)) (fun i i' hii hi2 x hx y hy => ?_)) (fun j j' hjj _ x hx y hy => ?_)
  · have h1 := mem_cV hx
    have h2 := mem_cV hy
    simp [ordB, h1.1, h1.2.1, h1.2.2, h2.1, h2.2.1, h2.2.2, show ((a : Int) = b) = False from by simp; omega]
    omega
  · have h1 := mem_cA hx
    have h2 := mem_cA hy
    obtain rfl : i = 0 := by omega
    obtain rfl : i' = 1 := by omega
    simp [ordB, h1.1, h1.2, h2.1, h2.2]
  · have h1 := mem_cR hx
    have h2 := mem_cR hy
    simp [ordB, h1, h2, show ((j : Int) = j') = False from by simp; omega]
    omega
theorem flat_len_le {α : Type} (f : Nat → List α) (n b : Nat) (h : ∀ i, i < n → (f i).length ≤ b) : ((List.range n).flatMap f).length ≤ n * b := by
  induction n with
  | zero => simp
  | succ n ih =>
    rw [flat_succ, List.length_append, Nat.succ_mul]
    have := ih (fun i hi => h i (by omega))
    have := h n (by omega)
    omega
theorem cK_len (ok : Mv → Bool) (V A : Int → Nat) (K : Nat) (h : ∀ j : Nat, j < K → V ((j : Int) + 1) ≤ 80 ∧ A ((j : Int) + 1) ≤ 41) : (cK ok V A K).length ≤ K * (2 * (41 * 80)) := by
  refine flat_len_le _ K _ (fun j hj => flat_len_le _ 2 _ (fun i _ => ?_))
  obtain ⟨h1, h2⟩ := h j hj
  refine Nat.le_trans (flat_len_le _ _ 80 (fun a _ => ?_)) (Nat.mul_le_mul_right 80 h2)
  refine Nat.le_trans (List.length_filterMap_le _ _) ?_
  rw [List.length_range]
  exact h1
end Go.Proofs.Ytgclngoeglopcaa
