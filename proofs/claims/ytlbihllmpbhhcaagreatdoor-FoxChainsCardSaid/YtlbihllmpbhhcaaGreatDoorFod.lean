/- Fox derivatives of words: plain. -/
import Derived.Test.YtlbihllmpbhhcaaGreatDoorLau
namespace Go.Proofs.YtlbihllmpbhhcaaGreatDoor
set_option linter.unusedVariables false

/-- degree of the generator of a letter -/
def cg (comp : List Int) (k : Int) : Int := comp[k.toNat]?.getD 0
def stepD (comp : List Int) (d x : Int) : Int := if 0 < x then d + cg comp (x - 1) else d - cg comp (-x - 1)
def degW (comp : List Int) : List Int → Int → Int
  | [], d => d
  | x :: w, d => degW comp w (stepD comp d x)
/-- the term of a letter, and its generator -/
def trm (comp : List Int) (d x : Int) : Int × Int := if 0 < x then (d, 1) else (d - cg comp (-x - 1), -1)
def gnr (x : Int) : Int := if 0 < x then x - 1 else -x - 1
/-- the terms of the derivative with respect to a generator, in order -/
def drv (comp : List Int) (g : Int) : List Int → Int → List (Int × Int)
  | [], _ => []
  | x :: w, d => (if gnr x = g then [trm comp d x] else []) ++ drv comp g w (stepD comp d x)
theorem drv_append (comp : List Int) (g : Int) (u v : List Int) (d : Int) : drv comp g (u ++ v) d = drv comp g u d ++ drv comp g v (degW comp u d) := by
  induction u generalizing d with
  | nil => rfl
  | cons x u ih => rw [List.cons_append, drv, drv, ih, List.append_assoc]; rfl
theorem degW_append (comp : List Int) (u v : List Int) (d : Int) : degW comp (u ++ v) d = degW comp v (degW comp u d) := by
  induction u generalizing d with
  | nil => rfl
  | cons x u ih => rw [List.cons_append, degW, degW, ih]
theorem stepD_add (comp : List Int) (d k x : Int) : stepD comp (d + k) x = stepD comp d x + k := by unfold stepD; split <;> omega
theorem degW_add (comp : List Int) (u : List Int) (d k : Int) : degW comp u (d + k) = degW comp u d + k := by
  induction u generalizing d with
  | nil => rfl
  | cons x u ih => rw [degW, degW, stepD_add, ih]
theorem degW_zero (comp : List Int) (u : List Int) (d : Int) : degW comp u d = degW comp u 0 + d := by
  have := degW_add comp u 0 d
  rwa [Int.zero_add] at this
theorem trm_add (comp : List Int) (d k x : Int) : trm comp (d + k) x = ((trm comp d x).1 + k, (trm comp d x).2) := by
  unfold trm
  split
  · rfl
  · show (d + k - _, -1) = (d - _ + k, -1)
    congr 1; omega
theorem cf_map_add (l : List (Int × Int)) (k e : Int) : cf (l.map fun t => (t.1 + k, t.2)) e = cf l (e - k) := by
  induction l with
  | nil => rfl
  | cons t l ih =>
    rw [List.map_cons, cf_cons, cf_cons, ih]
    by_cases h : t.1 + k = e
    · rw [if_pos h, if_pos (by omega)]
    · rw [if_neg h, if_neg (by omega)]
theorem drv_shift (comp : List Int) (g : Int) (w : List Int) (d k : Int) : drv comp g w (d + k) = (drv comp g w d).map fun t => (t.1 + k, t.2) := by
  induction w generalizing d with
  | nil => rfl
  | cons x w ih =>
    rw [drv, drv, stepD_add, ih, List.map_append, trm_add]
    congr 1
    split <;> rfl
/-- the derivative as a function -/
def dF (comp : List Int) (g : Int) (w : List Int) (e : Int) : Int := cf (drv comp g w 0) e
theorem cf_drv (comp : List Int) (g : Int) (w : List Int) (d e : Int) : cf (drv comp g w d) e = dF comp g w (e - d) := by
  have h := drv_shift comp g w 0 d
  rw [Int.zero_add] at h
  rw [h, cf_map_add]; rfl
def dg (comp : List Int) (w : List Int) : Int := degW comp w 0
theorem dF_append (comp : List Int) (g : Int) (u v : List Int) (e : Int) : dF comp g (u ++ v) e = dF comp g u e + dF comp g v (e - dg comp u) := by
  have h := cf_drv comp g v (degW comp u 0) e
  unfold dF dg at *
  rw [drv_append, cf_append, h]
theorem dg_append (comp : List Int) (u v : List Int) : dg comp (u ++ v) = dg comp u + dg comp v := by
  unfold dg; rw [degW_append, degW_zero]; omega
theorem dF_nil (comp : List Int) (g e : Int) : dF comp g [] e = 0 := rfl
theorem dg_nil (comp : List Int) : dg comp [] = 0 := rfl
theorem dF_one (comp : List Int) (g x e : Int) : dF comp g [x] e = if gnr x = g then (if 0 < x then (if e = 0 then 1 else 0) else (if e = - cg comp (-x - 1) then -1 else 0)) else 0 := by
  unfold dF
  rw [drv, drv, List.append_nil]
  split
  · rw [cf_one]
    unfold trm
    split
    · show (if (0 : Int) = e then (1 : Int) else 0) = _
      by_cases h : e = 0
      · rw [if_pos h, if_pos h.symm]
      · rw [if_neg h, if_neg (fun k => h k.symm)]
    · show (if (0 - cg comp (-x - 1) : Int) = e then (-1 : Int) else 0) = _
      by_cases h : e = - cg comp (-x - 1)
      · rw [if_pos h, if_pos (by omega)]
      · rw [if_neg h, if_neg (by omega)]
  · rfl
theorem dg_one (comp : List Int) (x : Int) : dg comp [x] = if 0 < x then cg comp (x - 1) else - cg comp (-x - 1) := by
  show stepD comp 0 x = _
  unfold stepD
  split <;> omega
/-- x behind its inverse -/
theorem dg_inv (comp : List Int) {x : Int} (hx : x ≠ 0) : dg comp [-x] = - dg comp [x] := by
  rw [dg_one, dg_one]
  by_cases h : 0 < x
  · rw [if_neg (by omega), if_pos h, Int.neg_neg]
  · rw [if_pos (by omega), if_neg h, Int.neg_neg]
theorem dF_pair (comp : List Int) (g : Int) {x : Int} (hx : x ≠ 0) (e : Int) : dF comp g [x, -x] e = 0 := by
  rw [show [x, -x] = [x] ++ [-x] from rfl, dF_append, dF_one, dF_one, dg_one]
  have hg : gnr (-x) = gnr x := by unfold gnr; split <;> split <;> omega
  rw [hg]
  by_cases hgg : gnr x = g
  · rw [if_pos hgg, if_pos hgg]
    by_cases h : 0 < x
    · have hn : ¬ 0 < -x := by omega
      simp only [h, hn, if_true, if_false, Int.neg_neg]
      split <;> split <;> omega
    · have hn : 0 < -x := by omega
      simp only [h, hn, if_true, if_false]
      split <;> split <;> omega
  · rw [if_neg hgg, if_neg hgg]; rfl
/-- pushing a letter onto a reduced word -/
def psh (s : List Int) (x : Int) : List Int := if s.getLast? = some (-x) then s.dropLast else s ++ [x]
theorem getLast_form {s : List Int} {y : Int} (h : s.getLast? = some y) : s = s.dropLast ++ [y] := by
  obtain ⟨r, rfl⟩ := List.getLast?_eq_some_iff.1 h
  simp
theorem dF_psh (comp : List Int) (g : Int) (s : List Int) {x : Int} (hx : x ≠ 0) (e : Int) : dF comp g (psh s x) e = dF comp g (s ++ [x]) e := by
  unfold psh
  split
  · next h =>
    have h1 := getLast_form h
    have h2 : s ++ [x] = s.dropLast ++ [-x, x] := by
      conv => lhs; rw [h1]
      rw [List.append_assoc]; rfl
    have h3 := dF_pair comp g (x := -x) (by omega)
    rw [Int.neg_neg] at h3
    rw [h2, dF_append, h3]; omega
  · rfl
theorem dg_psh (comp : List Int) (s : List Int) {x : Int} (hx : x ≠ 0) : dg comp (psh s x) = dg comp (s ++ [x]) := by
  unfold psh
  split
  · next h =>
    have h1 := getLast_form h
    have h2 : s ++ [x] = s.dropLast ++ ([-x] ++ [x]) := by
      conv => lhs; rw [h1]
      rw [List.append_assoc]
    rw [h2, dg_append, dg_append, dg_inv comp hx]; omega
  · rfl
/-- pushing letters -/
def pshL (s l : List Int) : List Int := l.foldl psh s
theorem pshL_cons (s : List Int) (x : Int) (l : List Int) : pshL s (x :: l) = pshL (psh s x) l := rfl
theorem pshL_snoc (s l : List Int) (x : Int) : pshL s (l ++ [x]) = psh (pshL s l) x := by unfold pshL; rw [List.foldl_append]; rfl
theorem dgF_pshL (comp : List Int) (g : Int) : ∀ (l s : List Int), (∀ x ∈ l, x ≠ 0) → dg comp (pshL s l) = dg comp (s ++ l) ∧ ∀ e, dF comp g (pshL s l) e = dF comp g (s ++ l) e
  | [], s, _ => by rw [List.append_nil]; exact ⟨rfl, fun _ => rfl⟩
  | x :: l, s, h => by
    have hx := h x (List.mem_cons_self ..)
    obtain ⟨h1, h2⟩ := dgF_pshL comp g l (psh s x) (fun y hy => h y (List.mem_cons_of_mem _ hy))
    have e1 : s ++ x :: l = (s ++ [x]) ++ l := by rw [List.append_assoc]; rfl
    rw [pshL_cons]
    refine ⟨?_, fun e => ?_⟩
    · rw [h1, dg_append, dg_psh comp s hx, e1, dg_append comp (s ++ [x]) l]
    · rw [h2, dF_append, dF_psh comp g s hx, dg_psh comp s hx, e1, dF_append comp g (s ++ [x]) l]
/-- the inverse word -/
def invW (w : List Int) : List Int := (w.map fun x => -x).reverse
theorem invW_cons (x : Int) (w : List Int) : invW (x :: w) = invW w ++ [-x] := by unfold invW; rw [List.map_cons, List.reverse_cons]
theorem invW_ne {w : List Int} (h : ∀ x ∈ w, x ≠ 0) : ∀ x ∈ invW w, x ≠ 0 := fun x hx => by
  unfold invW at hx
  rw [List.mem_reverse, List.mem_map] at hx
  obtain ⟨y, hy, rfl⟩ := hx
  have := h y hy; omega
theorem w_invW (comp : List Int) (g : Int) : ∀ (w : List Int), (∀ x ∈ w, x ≠ 0) → dg comp (w ++ invW w) = 0 ∧ ∀ e, dF comp g (w ++ invW w) e = 0
  | [], _ => ⟨rfl, fun _ => rfl⟩
  | x :: w, h => by
    have hx := h x (List.mem_cons_self ..)
    obtain ⟨h1, h2⟩ := w_invW comp g w (fun y hy => h y (List.mem_cons_of_mem _ hy))
    have e1 : (x :: w) ++ invW (x :: w) = [x] ++ ((w ++ invW w) ++ [-x]) := by rw [invW_cons]; simp
    have e2 : [x] ++ [-x] = [x, -x] := rfl
    rw [e1]
    refine ⟨?_, fun e => ?_⟩
    · rw [dg_append, dg_append, h1, dg_inv comp hx]; omega
    · have h3 := dF_pair comp g hx e
      rw [← e2, dF_append] at h3
      rw [dF_append, dF_append, h2, h1]
      rw [Int.sub_zero]; omega
theorem dF_invW (comp : List Int) (g : Int) {w : List Int} (h : ∀ x ∈ w, x ≠ 0) (e : Int) : dF comp g (invW w) e = - dF comp g w (e + dg comp w) := by
  have h1 := (w_invW comp g w h).2 (e + dg comp w)
  rw [dF_append] at h1
  rw [show e + dg comp w - dg comp w = e by omega] at h1
  omega
theorem dg_invW (comp : List Int) {w : List Int} (h : ∀ x ∈ w, x ≠ 0) : dg comp (invW w) = - dg comp w := by
  have h1 := (w_invW comp 0 w h).1
  rw [dg_append] at h1; omega
/-- bounds -/
theorem drv_len (comp : List Int) (g : Int) (w : List Int) (d : Int) : (drv comp g w d).length ≤ w.length := by
  induction w generalizing d with
  | nil => exact Nat.le_refl _
  | cons x w ih =>
    rw [drv, List.length_append, List.length_cons]
    have := ih (stepD comp d x)
    split <;> simp <;> omega
theorem cg_bd {comp : List Int} {N : Int} (hN : 0 ≤ N) (h : ∀ c ∈ comp, -N ≤ c ∧ c ≤ N) (k : Int) : -N ≤ cg comp k ∧ cg comp k ≤ N := by
  unfold cg
  cases hc : comp[k.toNat]? with
  | none => show -N ≤ 0 ∧ 0 ≤ N; omega
  | some c => exact h c (List.mem_of_getElem? hc)
theorem drv_bd {comp : List Int} {N : Int} (hN : 0 ≤ N) (h : ∀ c ∈ comp, -N ≤ c ∧ c ≤ N) (g : Int) (w : List Int) : ∀ (d : Int) (t : Int × Int), t ∈ drv comp g w d → (t.2 = 1 ∨ t.2 = -1) ∧ d - N * w.length ≤ t.1 ∧ t.1 ≤ d + N * w.length := by
  induction w with
  | nil => intro d t ht; cases ht
  | cons x w ih =>
    intro d t ht
    have e1 : N * ((x :: w).length : Int) = N * w.length + N := by rw [List.length_cons, Int.natCast_add, Int.mul_add]; simp
    have hm : 0 ≤ N * (w.length : Int) := Int.mul_nonneg hN (by omega)
    rw [drv] at ht
    rw [e1]
    rcases List.mem_append.1 ht with ht | ht
    · split at ht
      · rw [List.mem_singleton.1 ht]
        have h2 := cg_bd hN h (-x - 1)
        unfold trm
        split
        · exact ⟨.inl rfl, by show d - _ ≤ d; omega, by show d ≤ _; omega⟩
        · exact ⟨.inr rfl, by show d - _ ≤ d - cg comp _; omega, by show d - cg comp _ ≤ _; omega⟩
      · cases ht
    · have h1 := ih _ t ht
      have h2 := cg_bd hN h (x - 1)
      have h3 := cg_bd hN h (-x - 1)
      have h4 : d - N ≤ stepD comp d x ∧ stepD comp d x ≤ d + N := by unfold stepD; split <;> omega
      omega
end Go.Proofs.YtlbihllmpbhhcaaGreatDoor
