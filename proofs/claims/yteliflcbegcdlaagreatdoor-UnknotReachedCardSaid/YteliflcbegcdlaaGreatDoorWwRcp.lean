/- Components of a grid, as the reference counts them: plain. -/
import Derived.Test.YteliflcbegcdlaaGreatDoorWwGrf
import Derived.Test.YteliflcbegcdlaaGreatDoorWwUnp
namespace Go.Proofs.YteliflcbegcdlaaGreatDoor
set_option linter.unusedVariables false
/-- an element of a list of numbers -/
def gq (l : List Nat) (k : Nat) : Nat := l[k]?.getD 0
theorem gq_set {l : List Nat} {i : Nat} (x : Nat) (h : i < l.length) (c : Nat) : gq (l.set i x) c = if c = i then x else gq l c := by
  unfold gq
  rw [List.getElem?_set]
  by_cases e : i = c
  · subst e; rw [if_pos rfl, if_pos rfl, if_pos h]; rfl
  · rw [if_neg e, if_neg (fun k => e k.symm)]
def opC (f : Nat → Nat) (l : List Nat) (i : Nat) : List Nat := (l.set i (min (gq l i) (gq l (f i)))).set (f i) (min (gq l i) (gq l (f i)))
def passC (f : Nat → Nat) (l : List Nat) : Nat → List Nat
  | 0 => l
  | k + 1 => opC f (passC f l k) k
def labC (f : Nat → Nat) (n : Nat) : Nat → List Nat
  | 0 => List.range n
  | t + 1 => passC f (labC f n t) n
theorem opC_length (f : Nat → Nat) (l : List Nat) (i : Nat) : (opC f l i).length = l.length := by unfold opC; simp
theorem passC_length (f : Nat → Nat) (l : List Nat) : ∀ k, (passC f l k).length = l.length
  | 0 => rfl
  | k + 1 => by rw [passC, opC_length, passC_length f l k]
theorem labC_length (f : Nat → Nat) (n : Nat) : ∀ t, (labC f n t).length = n
  | 0 => by simp [labC]
  | t + 1 => by rw [labC, passC_length, labC_length f n t]
def EdC (f : Nat → Nat) (n a b : Nat) : Prop := a < n ∧ b < n ∧ (b = f a ∨ a = f b)
section
variable {f : Nat → Nat} {n : Nat} (hf : PermF n f)
include hf
theorem gq_opC {l : List Nat} (hl : l.length = n) {i : Nat} (hi : i < n) (c : Nat) : gq (opC f l i) c = if c = f i ∨ c = i then min (gq l i) (gq l (f i)) else gq l c := by
  have h1 := Rl.lt hf hi (Rl.step f i)
  unfold opC
  rw [gq_set _ (by simp; omega), gq_set _ (by omega)]
  by_cases e1 : c = f i
  · rw [if_pos e1, if_pos (.inl e1)]
  · rw [if_neg e1]
    by_cases e2 : c = i
    · rw [if_pos e2, if_pos (.inr e2)]
    · rw [if_neg e2, if_neg (by simp [e1, e2])]
theorem opC_le {l : List Nat} (hl : l.length = n) {i : Nat} (hi : i < n) (c : Nat) : gq (opC f l i) c ≤ gq l c := by
  rw [gq_opC hf hl hi]
  split
  · next h => rcases h with rfl | rfl
              · exact Nat.min_le_right _ _
              · exact Nat.min_le_left _ _
  · exact Nat.le_refl _
theorem passC_le {l : List Nat} (hl : l.length = n) (c : Nat) : ∀ (k j : Nat), j ≤ k → k ≤ n → gq (passC f l k) c ≤ gq (passC f l j) c := by
  intro k
  induction k with
  | zero => intro j h1 _; have : j = 0 := by omega
            subst this; exact Nat.le_refl _
  | succ k ih =>
    intro j h1 h2
    rcases Nat.lt_or_ge j (k + 1) with h | h
    · refine Nat.le_trans ?_ (ih j (by omega) (by omega))
      exact opC_le hf (l := passC f l k) ((passC_length f l k).trans hl) (by omega) c
    · have : j = k + 1 := by omega
      subst this; exact Nat.le_refl _
theorem passC_edge {l : List Nat} (hl : l.length = n) {a b : Nat} (h : EdC f n a b) : gq (passC f l n) b ≤ gq l a := by
  obtain ⟨ha, hb, h⟩ := h
  have key : ∀ i x y, i < n → (x = i ∨ x = f i) → (y = i ∨ y = f i) → gq (passC f l n) y ≤ gq l x := fun i x y hi hx hy => by
    have e1 := passC_le hf hl y n (i + 1) (by omega) (Nat.le_refl _)
    have e2 := passC_le hf hl x i 0 (by omega) (by omega)
    have e3 := gq_opC hf (l := passC f l i) ((passC_length f l i).trans hl) hi y
    rw [if_pos (by omega)] at e3
    rw [passC, e3] at e1
    have e4 : gq (passC f l 0) x = gq l x := rfl
    rw [e4] at e2
    rcases hx with rfl | rfl <;> omega
  rcases h with rfl | rfl
  · exact key a _ _ ha (.inl rfl) (.inr rfl)
  · exact key b _ _ hb (.inr rfl) (.inl rfl)
theorem opC_conn {l : List Nat} (hl : l.length = n) (hc : ∀ c, c < n → Conn (EdC f n) (gq l c) c) {i : Nat} (hi : i < n) (c : Nat) (hcn : c < n) : Conn (EdC f n) (gq (opC f l i) c) c := by
  have h1 := Rl.lt hf hi (Rl.step f i)
  rw [gq_opC hf hl hi]
  split
  · next h =>
    have c1 := hc i hi
    have c2 := hc (f i) h1
    have e1 : EdC f n i (f i) := ⟨hi, h1, .inl rfl⟩
    have e2 : EdC f n (f i) i := ⟨h1, hi, .inr rfl⟩
    rcases Nat.le_total (gq l i) (gq l (f i)) with q | q
    · rw [Nat.min_eq_left q]
      rcases h with rfl | rfl
      · exact c1.step e1
      · exact c1
    · rw [Nat.min_eq_right q]
      rcases h with rfl | rfl
      · exact c2
      · exact c2.step e2
  · exact hc c hcn
theorem labC_conn : ∀ t c, c < n → Conn (EdC f n) (gq (labC f n t) c) c
  | 0, c, hc => by
    have : gq (labC f n 0) c = c := by unfold gq labC; simp [hc]
    rw [this]; exact .refl _
  | t + 1, c, hc => by
    have key : ∀ k, k ≤ n → ∀ c, c < n → Conn (EdC f n) (gq (passC f (labC f n t) k) c) c := by
      intro k
      induction k with
      | zero => intro _ c hc; exact labC_conn t c hc
      | succ k ih => intro hk c hc; exact opC_conn hf ((passC_length f _ k).trans (labC_length f n t)) (ih (by omega)) (by omega) c hc
    exact key n (Nat.le_refl _) c hc
theorem labC_least {m c : Nat} (hm : m < n) (hc : Conn (EdC f n) m c) : gq (labC f n n) c ≤ m := by
  refine passes (E := EdC f n) (fun a b h => ⟨h.1, h.2.1⟩) (fun t c => gq (labC f n t) c) (fun c hc => ?_) (fun t c => ?_) (fun t a b h => ?_) hm hc
  · have : gq (labC f n 0) c = c := by unfold gq labC; simp [hc]
    exact Nat.le_of_eq this
  · exact passC_le hf (labC_length f n t) c n 0 (Nat.zero_le _) (Nat.le_refl _)
  · exact passC_edge hf (labC_length f n t) h
theorem conn_rl {a b : Nat} (ha : a < n) (h : Conn (EdC f n) a b) : Rl f a b := by
  induction h with
  | refl => exact Rl.refl f _
  | step _ e ih =>
    obtain ⟨h1, h2, e⟩ := e
    rcases e with rfl | rfl
    · exact ih.trans (Rl.step f _)
    · exact ih.trans (PermF.symm hf h2 (Rl.step f _))
theorem rl_conn {a b : Nat} (ha : a < n) (h : Rl f a b) : Conn (EdC f n) a b := by
  obtain ⟨k, rfl⟩ := h
  have key : ∀ k a, a < n → Conn (EdC f n) a (itr f k a) := by
    intro k
    induction k with
    | zero => intro a _; exact .refl _
    | succ k ih =>
      intro a ha
      have h1 := Rl.lt hf ha (Rl.step f a)
      have e : itr f (k + 1) a = itr f k (f a) := by
        have := itr_add f k 1 a
        exact this
      rw [e]
      exact (Conn.one ⟨ha, h1, .inl rfl⟩).trans (ih (f a) h1)
  exact key k a ha
theorem labC_head {i : Nat} (hi : i < n) : gq (labC f n n) i = i ↔ i ∈ heads f n := by
  rw [mem_heads hf]
  have hcl := labC_conn hf n i hi
  constructor
  · intro h
    refine ⟨hi, fun j hj hr => ?_⟩
    have := labC_least hf (m := j) (by omega) (rl_conn hf (by omega) hr)
    omega
  · rintro ⟨_, h⟩
    have h1 := labC_least hf hi (.refl i)
    rcases Nat.lt_or_ge (gq (labC f n n) i) i with q | q
    · exact absurd (conn_rl hf (by omega) hcl) (h _ q)
    · omega
/-- how many of the first k bear their own label -/
def hdC (f : Nat → Nat) (n k : Nat) : Nat := ((List.range k).filter fun i => decide (gq (labC f n n) i = i)).length
omit hf in
theorem hdC_step (k : Nat) : hdC f n (k + 1) = hdC f n k + if gq (labC f n n) k = k then 1 else 0 := by
  unfold hdC
  rw [List.range_succ, List.filter_append, List.length_append]
  congr 1
  by_cases h : gq (labC f n n) k = k <;> simp [h]
omit hf in
theorem hdC_le : ∀ k, hdC f n k ≤ k
  | 0 => by simp [hdC]
  | k + 1 => by
    rw [hdC_step]
    have := hdC_le k
    split <;> omega
theorem hdC_all : hdC f n n = cls f n := by
  unfold hdC cls heads
  congr 1
  refine List.filter_congr fun i hi => ?_
  have hi := List.mem_range.1 hi
  have h := labC_head hf hi
  unfold heads at h
  rw [List.mem_filter] at h
  simp only [List.mem_range, hi, true_and] at h
  by_cases e : gq (labC f n n) i = i
  · rw [decide_eq_true e]; exact (h.1 e).symm
  · rw [decide_eq_false e]
    cases hx : (List.range i).all fun j => !rB f n j i with
    | false => rfl
    | true => exact absurd (h.2 hx) e
end
end Go.Proofs.YteliflcbegcdlaaGreatDoor
