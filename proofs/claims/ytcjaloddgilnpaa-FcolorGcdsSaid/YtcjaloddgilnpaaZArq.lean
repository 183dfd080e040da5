/- Classes of a relation, and how passes of least labels find them. -/
/- The labels of the graph components, as the reference finds them: plain. -/
/- The arcs, as the reference finds them: plain. -/
/- The numbers of the arcs: plain. -/
namespace Go.Proofs.Ytcjaloddgilnpaa
set_option linter.unusedVariables false

/-- the closure of a relation -/
inductive Conn (E : Nat → Nat → Prop) : Nat → Nat → Prop
  | refl (a : Nat) : Conn E a a
  | step {a b c : Nat} : Conn E a b → E b c → Conn E a c
namespace Conn
variable {E : Nat → Nat → Prop} {a b c : Nat}
theorem one (h : E a b) : Conn E a b := .step (.refl a) h
theorem trans (h : Conn E a b) (k : Conn E b c) : Conn E a c := by
  induction k with
  | refl => exact h
  | step _ e ih => exact .step ih e
theorem symm (hE : ∀ a b, E a b → E b a) (h : Conn E a b) : Conn E b a := by
  induction h with
  | refl => exact .refl _
  | step _ e ih => exact (one (hE _ _ e)).trans ih
/-- a set that is closed under the relation -/
theorem closed {P : Nat → Prop} (hP : ∀ a b, E a b → P a → P b) (h : Conn E a b) (ha : P a) : P b := by
  induction h with
  | refl => exact ha
  | step _ e ih => exact hP _ _ e ih
end Conn

theorem countP_lt {p q : Nat → Bool} : ∀ (l : List Nat), (∀ x ∈ l, p x = true → q x = true) → (∃ x ∈ l, q x = true ∧ p x = false) → l.countP p < l.countP q
  | [], _, h => by obtain ⟨x, hx, _⟩ := h; cases hx
  | a :: l, hm, h => by
    have hle : l.countP p ≤ l.countP q := List.countP_mono_left (fun x hx => hm x (List.mem_cons_of_mem _ hx))
    rw [List.countP_cons, List.countP_cons]
    by_cases hx : ∃ x ∈ l, q x = true ∧ p x = false
    · have := countP_lt l (fun x hx => hm x (List.mem_cons_of_mem _ hx)) hx
      have ha := hm a (by simp)
      cases hp : p a <;> cases hq : q a <;> simp_all <;> omega
    · obtain ⟨x, hx1, hx2, hx3⟩ := h
      rcases List.mem_cons.1 hx1 with rfl | hx1
      · simp [hx2, hx3]; omega
      · exact absurd ⟨x, hx1, hx2, hx3⟩ hx

/-- after n passes each label is at most every element of its class -/
theorem passes {n : Nat} {E : Nat → Nat → Prop} (hE : ∀ a b, E a b → a < n ∧ b < n) (T : Nat → Nat → Nat) (h0 : ∀ c, c < n → T 0 c ≤ c)
    (hd : ∀ t c, T (t + 1) c ≤ T t c) (he : ∀ t a b, E a b → T (t + 1) b ≤ T t a) {m c : Nat} (hm : m < n) (hc : Conn E m c) : T n c ≤ m := by
  have down : ∀ t, T t m ≤ m := by
    intro t
    induction t with
    | zero => exact h0 m hm
    | succ t ih => exact Nat.le_trans (hd t m) ih
  have key : ∀ t, (∀ c, Conn E m c → T t c ≤ m) ∨ t + 1 ≤ (List.range n).countP (fun c => decide (T t c ≤ m)) := by
    intro t
    induction t with
    | zero =>
      refine Or.inr ?_
      rw [Nat.zero_add]
      exact List.countP_pos_iff.2 ⟨m, List.mem_range.2 hm, by simpa using h0 m hm⟩
    | succ t ih =>
      rcases ih with ih | ih
      · exact Or.inl fun c h => Nat.le_trans (hd t c) (ih c h)
      · by_cases hx : ∃ c ∈ List.range n, decide (T (t + 1) c ≤ m) = true ∧ decide (T t c ≤ m) = false
        · refine Or.inr (Nat.lt_of_le_of_lt ih ?_)
          refine countP_lt _ (fun x _ h => ?_) hx
          have := hd t x
          simp only [decide_eq_true_eq] at h ⊢
          omega
        · refine Or.inl fun c h => ?_
          have hcl : T t c ≤ m := by
            refine h.closed (P := fun c => T t c ≤ m) (fun a b e ha => ?_) (down t)
            have h1 := he t a b e
            rcases Nat.lt_or_ge m (T t b) with h2 | h2
            · exact absurd ⟨b, List.mem_range.2 (hE a b e).2, by simp; omega, by simp; omega⟩ hx
            · exact h2
          exact Nat.le_trans (hd t c) hcl
  rcases key n with h | h
  · exact h c hc
  · have := List.countP_le_length (p := fun c => decide (T n c ≤ m)) (l := List.range n)
    rw [List.length_range] at this
    omega
end Go.Proofs.Ytcjaloddgilnpaa

namespace Go.Proofs.Ytcjaloddgilnpaa
set_option linter.unusedVariables false

/-- the mate of a half-edge -/
def mt (M : List Int) (h : Nat) : Nat := (M[h]?.getD 0).toNat
/-- an element of a list of numbers -/
def gn (l : List Nat) (k : Nat) : Nat := l[k]?.getD 0
theorem gn_set (l : List Nat) (a x c : Nat) (ha : a < l.length) : gn (l.set a x) c = if c = a then x else gn l c := by
  unfold gn
  rw [List.getElem?_set]
  by_cases h : a = c
  · subst h; simp [ha]
  · simp [h, Ne.symm h, fun e : c = a => h e.symm]
/-- one step of a pass: the two ends of an edge take the lesser label -/
def opL (M : List Int) (l : List Nat) (h : Nat) : List Nat :=
  (l.set (h / 4) (min (gn l (h / 4)) (gn l (mt M h / 4)))).set (mt M h / 4) (min (gn l (h / 4)) (gn l (mt M h / 4)))
def passK (M : List Int) (l : List Nat) : Nat → List Nat
  | 0 => l
  | k + 1 => opL M (passK M l k) k
def labK (M : List Int) (n : Nat) : Nat → List Nat
  | 0 => List.range n
  | t + 1 => passK M (labK M n t) M.length
theorem opL_length (M : List Int) (l : List Nat) (h : Nat) : (opL M l h).length = l.length := by simp [opL]
theorem passK_length (M : List Int) (l : List Nat) : ∀ k, (passK M l k).length = l.length
  | 0 => rfl
  | k + 1 => by rw [passK, opL_length, passK_length M l k]
theorem labK_length (M : List Int) (n : Nat) : ∀ t, (labK M n t).length = n
  | 0 => by simp [labK]
  | t + 1 => by rw [labK, passK_length, labK_length M n t]
/-- the mates of a graph with n crossings lie in range -/
def Rg (M : List Int) (n : Nat) : Prop := M.length = 4 * n ∧ ∀ h, h < 4 * n → mt M h < 4 * n
/-- an edge of the graph -/
def Ed (M : List Int) (a b : Nat) : Prop := ∃ h, h < M.length ∧ ((a = h / 4 ∧ b = mt M h / 4) ∨ (b = h / 4 ∧ a = mt M h / 4))
theorem Ed.symm {M : List Int} {a b : Nat} (h : Ed M a b) : Ed M b a := by
  obtain ⟨h, h1, h2 | h2⟩ := h
  · exact ⟨h, h1, Or.inr ⟨h2.1, h2.2⟩⟩
  · exact ⟨h, h1, Or.inl ⟨h2.1, h2.2⟩⟩
section
variable {M : List Int} {n : Nat} (hR : Rg M n)
include hR
theorem Ed.lt {a b : Nat} (h : Ed M a b) : a < n ∧ b < n := by
  obtain ⟨h, h1, h2⟩ := h
  have h3 := hR.1
  have h4 := hR.2 h (by omega)
  omega
theorem gn_opL {l : List Nat} (hl : l.length = n) {h : Nat} (hh : h < M.length) (c : Nat) :
    gn (opL M l h) c = if c = h / 4 ∨ c = mt M h / 4 then min (gn l (h / 4)) (gn l (mt M h / 4)) else gn l c := by
  have h3 := hR.1
  have h4 := hR.2 h (by omega)
  unfold opL
  rw [gn_set _ _ _ _ (by rw [List.length_set]; omega), gn_set _ _ _ _ (by omega)]
  by_cases e1 : c = mt M h / 4
  · simp [e1]
  · by_cases e2 : c = h / 4
    · simp [e1, e2]
    · simp [e1, e2]
theorem opL_le {l : List Nat} (hl : l.length = n) {h : Nat} (hh : h < M.length) (c : Nat) : gn (opL M l h) c ≤ gn l c := by
  rw [gn_opL hR hl hh]
  split
  · rename_i e
    rcases e with e | e <;> subst e <;> omega
  · exact Nat.le_refl _
theorem passK_le {l : List Nat} (hl : l.length = n) (c : Nat) : ∀ (k j : Nat), j ≤ k → k ≤ M.length → gn (passK M l k) c ≤ gn (passK M l j) c := by
  intro k
  induction k with
  | zero => intro j h1 _; have : j = 0 := by omega
            subst this; exact Nat.le_refl _
  | succ k ih =>
    intro j h1 h2
    rcases Nat.lt_or_ge j (k + 1) with h | h
    · refine Nat.le_trans ?_ (ih j (by omega) (by omega))
      exact opL_le hR (by rw [passK_length]; exact hl) (by omega) c
    · have : j = k + 1 := by omega
      subst this; exact Nat.le_refl _
theorem passK_edge {l : List Nat} (hl : l.length = n) {a b : Nat} (h : Ed M a b) : gn (passK M l M.length) b ≤ gn l a := by
  obtain ⟨h, h1, h2⟩ := h
  have e1 := passK_le hR hl b M.length (h + 1) (by omega) (Nat.le_refl _)
  have e2 := passK_le hR hl a h 0 (by omega) (by omega)
  have e3 := gn_opL hR (l := passK M l h) (by rw [passK_length]; exact hl) h1 b
  have e4 : gn (passK M l 0) a = gn l a := rfl
  rw [passK, e3] at e1
  rw [e4] at e2
  rw [if_pos (by rcases h2 with h2 | h2 <;> omega)] at e1
  rcases h2 with ⟨rfl, rfl⟩ | ⟨rfl, rfl⟩ <;> omega
theorem opL_conn {l : List Nat} (hl : l.length = n) (hc : ∀ c, c < n → Conn (Ed M) c (gn l c)) {h : Nat} (hh : h < M.length) (c : Nat) (hcn : c < n) : Conn (Ed M) c (gn (opL M l h) c) := by
  have h3 := hR.1
  have h4 := hR.2 h (by omega)
  have ed : Ed M (h / 4) (mt M h / 4) := ⟨h, hh, Or.inl ⟨rfl, rfl⟩⟩
  rw [gn_opL hR hl hh]
  split
  · rename_i e
    have c1 := hc (h / 4) (by omega)
    have c2 := hc (mt M h / 4) (by omega)
    have d1 : Conn (Ed M) c (h / 4) := by
      rcases e with e | e <;> subst e
      · exact .refl _
      · exact .one ed.symm
    have d2 : Conn (Ed M) c (mt M h / 4) := by
      rcases e with e | e <;> subst e
      · exact .one ed
      · exact .refl _
    rcases Nat.le_total (gn l (h / 4)) (gn l (mt M h / 4)) with q | q
    · rw [Nat.min_eq_left q]; exact d1.trans c1
    · rw [Nat.min_eq_right q]; exact d2.trans c2
  · exact hc c hcn
theorem passK_conn {l : List Nat} (hl : l.length = n) (hc : ∀ c, c < n → Conn (Ed M) c (gn l c)) : ∀ k, k ≤ M.length → ∀ c, c < n → Conn (Ed M) c (gn (passK M l k) c) := by
  intro k
  induction k with
  | zero => intro _; exact hc
  | succ k ih =>
    intro h c hcn
    exact opL_conn hR (by rw [passK_length]; exact hl) (ih (by omega)) (by omega) c hcn
theorem labK_conn : ∀ t c, c < n → Conn (Ed M) c (gn (labK M n t) c) := by
  intro t
  induction t with
  | zero => intro c hc; rw [labK, gn, List.getElem?_range hc]; exact .refl _
  | succ t ih => exact passK_conn hR (labK_length M n t) ih _ (Nat.le_refl _)
/-- the label is the least of the component -/
theorem labK_least {c m : Nat} (hm : m < n) (h : Conn (Ed M) m c) : gn (labK M n n) c ≤ m := by
  refine passes (E := Ed M) (n := n) (fun a b e => e.lt hR) (fun t c => gn (labK M n t) c) ?_ ?_ ?_ hm h
  · intro c hc; show gn (labK M n 0) c ≤ c
    rw [labK, gn, List.getElem?_range hc]; exact Nat.le_refl _
  · intro t c; exact passK_le hR (labK_length M n t) c M.length 0 (by omega) (Nat.le_refl _)
  · intro t a b e; exact passK_edge hR (labK_length M n t) e
end
end Go.Proofs.Ytcjaloddgilnpaa

namespace Go.Proofs.Ytcjaloddgilnpaa
set_option linter.unusedVariables false

/-- two slots further -/
def opp (h : Nat) : Nat := h / 4 * 4 + (h % 4 + 2) % 4
/-- the least label that a half-edge sees -/
def lowA (M : List Int) (l : List Nat) (h : Nat) : Nat :=
  if h % 2 = 1 then min (min (gn l h) (gn l (mt M h))) (gn l (opp h)) else min (gn l h) (gn l (mt M h))
def opA (M : List Int) (l : List Nat) (h : Nat) : List Nat := l.set h (lowA M l h)
def passA (M : List Int) (l : List Nat) : Nat → List Nat
  | 0 => l
  | k + 1 => opA M (passA M l k) k
def labA (M : List Int) (n : Nat) : Nat → List Nat
  | 0 => List.range n
  | t + 1 => passA M (labA M n t) n
theorem passA_length (M : List Int) (l : List Nat) : ∀ k, (passA M l k).length = l.length
  | 0 => rfl
  | k + 1 => by rw [passA, opA, List.length_set, passA_length M l k]
theorem labA_length (M : List Int) (n : Nat) : ∀ t, (labA M n t).length = n
  | 0 => by simp [labA]
  | t + 1 => by rw [labA, passA_length, labA_length M n t]
/-- the mates of n half-edges lie in range, and n is divided by 4 -/
def Rh (M : List Int) (n : Nat) : Prop := n % 4 = 0 ∧ ∀ h, h < n → mt M h < n
/-- the half-edge b sees a -/
def Sees (M : List Int) (n a b : Nat) : Prop := b < n ∧ (a = mt M b ∨ (b % 2 = 1 ∧ a = opp b))
section
variable {M : List Int} {n : Nat} (hR : Rh M n)
include hR
theorem opp_lt {h : Nat} (hh : h < n) : opp h < n := by have := hR.1; unfold opp; omega
theorem Sees.lt {a b : Nat} (h : Sees M n a b) : a < n ∧ b < n := by
  obtain ⟨h1, h2⟩ := h
  rcases h2 with rfl | ⟨_, rfl⟩
  · exact ⟨hR.2 b h1, h1⟩
  · exact ⟨opp_lt hR h1, h1⟩
omit hR in
theorem gn_opA {l : List Nat} (hl : l.length = n) {h : Nat} (hh : h < n) (c : Nat) : gn (opA M l h) c = if c = h then lowA M l h else gn l c := gn_set _ _ _ _ (by omega)
omit hR in
theorem opA_le {l : List Nat} (hl : l.length = n) {h : Nat} (hh : h < n) (c : Nat) : gn (opA M l h) c ≤ gn l c := by
  rw [gn_opA hl hh]
  split
  · subst c; unfold lowA; split <;> omega
  · exact Nat.le_refl _
omit hR in
theorem passA_le {l : List Nat} (hl : l.length = n) (c : Nat) : ∀ (k j : Nat), j ≤ k → k ≤ n → gn (passA M l k) c ≤ gn (passA M l j) c := by
  intro k
  induction k with
  | zero => intro j h1 _; have : j = 0 := by omega
            subst this; exact Nat.le_refl _
  | succ k ih =>
    intro j h1 h2
    rcases Nat.lt_or_ge j (k + 1) with h | h
    · refine Nat.le_trans ?_ (ih j (by omega) (by omega))
      exact opA_le (n := n) (M := M) (l := passA M l k) ((passA_length M l k).trans hl) (by omega) c
    · have : j = k + 1 := by omega
      subst this; exact Nat.le_refl _
omit hR in
theorem passA_edge {l : List Nat} (hl : l.length = n) {a b : Nat} (h : Sees M n a b) : gn (passA M l n) b ≤ gn l a := by
  obtain ⟨h1, h2⟩ := h
  have e1 := passA_le (M := M) hl b n (b + 1) (by omega) (Nat.le_refl _)
  have e2 := passA_le (M := M) hl a b 0 (by omega) (by omega)
  have e3 := gn_opA (M := M) (l := passA M l b) (by rw [passA_length]; exact hl) h1 b
  have e4 : gn (passA M l 0) a = gn l a := rfl
  rw [passA, e3, if_pos rfl] at e1
  rw [e4] at e2
  refine Nat.le_trans e1 (Nat.le_trans ?_ e2)
  unfold lowA
  rcases h2 with rfl | ⟨h3, rfl⟩
  · split <;> omega
  · rw [if_pos h3]; omega
theorem opA_conn {l : List Nat} (hl : l.length = n) (hc : ∀ c, c < n → Conn (Sees M n) (gn l c) c) {h : Nat} (hh : h < n) (c : Nat) (hcn : c < n) : Conn (Sees M n) (gn (opA M l h) c) c := by
  rw [gn_opA hl hh]
  split
  · subst c
    have c1 := hc h hh
    have c2 := (hc (mt M h) (hR.2 h hh)).step ⟨hh, Or.inl rfl⟩
    have mn : ∀ x y, Conn (Sees M n) x h → Conn (Sees M n) y h → Conn (Sees M n) (min x y) h := by
      intro x y hx hy
      rcases Nat.le_total x y with q | q
      · rw [Nat.min_eq_left q]; exact hx
      · rw [Nat.min_eq_right q]; exact hy
    unfold lowA
    split
    · rename_i ho
      exact mn _ _ (mn _ _ c1 c2) ((hc (opp h) (opp_lt hR hh)).step ⟨hh, Or.inr ⟨ho, rfl⟩⟩)
    · exact mn _ _ c1 c2
  · exact hc c hcn
theorem passA_conn {l : List Nat} (hl : l.length = n) (hc : ∀ c, c < n → Conn (Sees M n) (gn l c) c) : ∀ k, k ≤ n → ∀ c, c < n → Conn (Sees M n) (gn (passA M l k) c) c := by
  intro k
  induction k with
  | zero => intro _; exact hc
  | succ k ih =>
    intro h c hcn
    exact opA_conn hR (by rw [passA_length]; exact hl) (ih (by omega)) (by omega) c hcn
theorem labA_conn : ∀ t c, c < n → Conn (Sees M n) (gn (labA M n t) c) c := by
  intro t
  induction t with
  | zero => intro c hc; rw [labA, gn, List.getElem?_range hc]; exact .refl _
  | succ t ih => exact passA_conn hR (labA_length M n t) ih _ (Nat.le_refl _)
/-- the label is the least of the arc -/
theorem labA_least {c m : Nat} (hm : m < n) (h : Conn (Sees M n) m c) : gn (labA M n n) c ≤ m := by
  refine passes (E := Sees M n) (n := n) (fun a b e => e.lt hR) (fun t c => gn (labA M n t) c) ?_ ?_ ?_ hm h
  · intro c hc; show gn (labA M n 0) c ≤ c
    rw [labA, gn, List.getElem?_range hc]; exact Nat.le_refl _
  · intro t c; exact passA_le (M := M) (labA_length M n t) c n 0 (by omega) (Nat.le_refl _)
  · intro t a b e; exact passA_edge (labA_length M n t) e
end
end Go.Proofs.Ytcjaloddgilnpaa

namespace Go.Proofs.Ytcjaloddgilnpaa
set_option linter.unusedVariables false

/-- how many of the first m are their own label -/
def rk (l : List Nat) : Nat → Nat
  | 0 => 0
  | m + 1 => if gn l m = m then rk l m + 1 else rk l m
theorem rk_le (l : List Nat) : ∀ m, rk l m ≤ m
  | 0 => Nat.le_refl _
  | m + 1 => by have := rk_le l m; rw [rk]; split <;> omega
/-- the numbers of the first k half-edges, then zeros -/
def numA (l : List Nat) (n k : Nat) : List Nat := (List.range n).map fun i => if i < k then rk l (gn l i) else 0
theorem numA_length (l : List Nat) (n k : Nat) : (numA l n k).length = n := by simp [numA]
theorem gn_numA {l : List Nat} {n k i : Nat} (hi : i < n) : gn (numA l n k) i = if i < k then rk l (gn l i) else 0 := by
  unfold gn numA; rw [List.getElem?_map, List.getElem?_range hi]; rfl
theorem numA_step {l : List Nat} {n k : Nat} (h : k < n) : (numA l n k).set k (rk l (gn l k)) = numA l n (k + 1) := by
  apply List.ext_getElem?
  intro i
  unfold numA
  rw [List.getElem?_set]
  by_cases e : k = i
  · subst e; simp [h]
  · by_cases hi : i < n
    · simp [e, hi]
      by_cases h1 : i < k
      · rw [if_pos h1, if_pos (by omega)]
      · rw [if_neg h1, if_neg (by omega)]
    · simp [e, hi]
/-- where the label is another one, its number is there already -/
theorem numA_old {l : List Nat} {n k : Nat} (h : k < n) (h1 : gn l k < k) (h2 : gn l (gn l k) = gn l k) : gn (numA l n k) (gn l k) = rk l (gn l k) := by
  rw [gn_numA (by omega), if_pos h1, h2]
end Go.Proofs.Ytcjaloddgilnpaa
