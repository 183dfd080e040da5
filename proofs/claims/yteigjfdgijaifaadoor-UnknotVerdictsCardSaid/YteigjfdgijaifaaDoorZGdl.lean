/- The determinant of a grid diagram, and that the moves keep it up to its sign and powers of 4 (plain). -/
/- All moves keep the determinant of a grid up to its sign and powers of 2; the grids of size at most 6 of one component whose determinant is that of the unknot lead to smaller ones (plain). -/
/- The grids of size at most 6 of one component whose determinant is that of the unknot: a column or a row can be removed (plain; a finite search). -/
/- The grids of size at most 6 of one component whose determinant is that of the unknot lead to the grid of size 2 (plain). -/
import Derived.Test.YteigjfdgijaifaaDoorZDtr
import Derived.Test.YteigjfdgijaifaaDoorZNbp
namespace Go.Proofs.YteigjfdgijaifaaDoor
open Go.RowKit
set_option linter.unusedVariables false

/-! ### determinants -/
def prE (e : Nat → Int) : List Nat → Int
  | [] => 1
  | j :: J => e j * prE e J
theorem prE_sq {e : Nat → Int} (h : ∀ j, e j * e j = 1) : ∀ J, prE e J * prE e J = 1
  | [] => rfl
  | j :: J => by
    have := prE_sq h J
    have := h j
    simp only [prE]
    grind
theorem dt_cols (e : Nat → Int) : ∀ (J : List Nat) (f : Nat → Nat → Int), dt J (fun l j => f l j * e j) = prE e J * dt J f
  | [], f => rfl
  | j :: J, f => by
    rw [dt, dt, prE, ← sumI_mul]
    refine sumI_congr fun k hk => ?_
    have := dt_cols e J (fun l => f (skp k l))
    show sgn k * (f k j * e j) * dt J (fun l i => f (skp k l) i * e i) = e j * prE e J * (sgn k * f k j * dt J (fun l => f (skp k l)))
    rw [this]
    grind
/-- row k comes first -/
def upF (f : Nat → Nat → Int) (k : Nat) : Nat → Nat → Int := fun l => if l = 0 then f k else if l ≤ k then f (l - 1) else f l
theorem dt_upF {J : List Nat} : ∀ (k : Nat) (f : Nat → Nat → Int), k < J.length → dt J (upF f k) = sgn k * dt J f
  | 0, f, h => by
    have : upF f 0 = f := by
      funext l
      unfold upF
      by_cases e : l = 0
      · rw [if_pos e, e]
      · rw [if_neg e, if_neg (by omega)]
    rw [this]; simp [sgn]
  | k + 1, f, h => by
    have e : upF f (k + 1) = upF (fup (fup f k (f (k + 1))) (k + 1) (f k)) k := by
      funext l
      unfold upF fup
      by_cases e0 : l = 0
      · subst e0; simp
      · rw [if_neg e0, if_neg e0]
        by_cases e1 : l = k + 1
        · subst e1; rw [if_pos (Nat.le_refl _), if_neg (by omega), if_pos rfl]; rfl
        · by_cases e2 : l ≤ k
          · rw [if_pos (by omega), if_pos e2, if_neg (by omega), if_neg (by omega)]
          · rw [if_neg (by omega), if_neg e2, if_neg e1, if_neg (by omega)]
    rw [e, dt_upF k _ (by omega), dt_swap_adj h, sgn_succ]
    grind
theorem sgn_sq (k : Nat) : sgn k * sgn k = 1 := by unfold sgn; split <;> rfl
theorem erase_range (n j0 : Nat) (h : j0 < n) : (List.range' 0 n).eraseIdx j0 = (List.range' 0 (n - 1)).map (skp j0) := by
  apply List.ext_getElem
  · rw [List.length_eraseIdx, List.length_map, List.length_range', List.length_range', if_pos h]
  · intro i h1 h2
    rw [List.getElem_eraseIdx, List.getElem_map, List.getElem_range']
    unfold skp
    simp only [List.getElem_range']
    split <;> split <;> omega
/-! ### the matrix of a grid -/
def pw1 (m : Int) : Int := if m % 2 = 0 then 1 else -1
theorem pw1_add (a b : Int) : pw1 (a + b) = pw1 a * pw1 b := by
  unfold pw1
  by_cases h1 : a % 2 = 0 <;> by_cases h2 : b % 2 = 0 <;> simp only [h1, h2, if_true, if_false]
  · rw [if_pos (by omega)]; rfl
  · rw [if_neg (by omega)]; rfl
  · rw [if_neg (by omega)]; rfl
  · rw [if_pos (by omega)]; rfl
theorem pw1_sq (a : Int) : pw1 a * pw1 a = 1 := by unfold pw1; split <;> rfl
def ib (x : Int) (j : Nat) : Int := if x < j then 1 else 0
/-- the marks in the first l columns and j rows -/
def qm (X : List Int) (l j : Nat) : Int := sumI l fun k => ib (gt X k) j
def wS (X O : List Int) (l j : Nat) : Int := pw1 (qm X l j + qm O l j)
def DG (g : Gd) : Int := dt (List.range' 0 g.1.length) (wS g.1 g.2)
theorem gt_tr_iff {X : List Int} (h : Pm X) {k r : Nat} (hk : k < X.length) (hr : r < X.length) : gt X k = r ↔ gt (tr X) r = k := by
  constructor
  · intro e
    have := gt_tr h hk
    rw [e, Int.toNat_natCast] at this
    exact this
  · intro e
    have := gt_tr (tr_pm h) (k := r) (by rw [tr_length]; exact hr)
    rw [e, Int.toNat_natCast, tr_tr h] at this
    exact this
theorem ib_sum {x : Int} (h : 0 ≤ x) : ∀ j : Nat, ib x j = sumI j fun r => if x = (r : Int) then 1 else 0
  | 0 => by unfold ib; rw [if_neg (by omega)]; rfl
  | j + 1 => by
    rw [sumI, ← ib_sum h j]
    unfold ib
    by_cases e : x = (j : Int)
    · rw [if_pos (by omega), if_neg (by omega), if_pos e]; rfl
    · rw [if_neg e]
      by_cases e2 : x < (j : Int)
      · rw [if_pos (by omega), if_pos e2]; rfl
      · rw [if_neg (by omega), if_neg e2]; rfl
theorem qm_tr {X : List Int} (h : Pm X) {l j : Nat} (hl : l ≤ X.length) (hj : j ≤ X.length) : qm (tr X) j l = qm X l j := by
  unfold qm
  have e1 : sumI j (fun k => ib (gt (tr X) k) l) = sumI j fun r => sumI l fun k => if gt (tr X) r = (k : Int) then 1 else 0 :=
    sumI_congr fun r hr => ib_sum ((tr_pm h).gt_rng (by rw [tr_length]; omega)).1 l
  have e2 : sumI l (fun k => ib (gt X k) j) = sumI l fun k => sumI j fun r => if gt X k = (r : Int) then 1 else 0 :=
    sumI_congr fun k hk => ib_sum (h.gt_rng (by omega)).1 j
  rw [e1, e2, sumI_swap]
  refine sumI_congr fun k hk => sumI_congr fun r hr => ?_
  have := gt_tr_iff h (k := k) (r := r) (by omega) (by omega)
  by_cases e : gt X k = (r : Int)
  · rw [if_pos e, if_pos (this.1 e)]
  · rw [if_neg e, if_neg (fun h => e (this.2 h))]
theorem sumI_ones (c : Nat) : sumI c (fun _ => 1) = c := by
  induction c with
  | zero => rfl
  | succ c ih => rw [sumI, ih]; omega
theorem qm_full {X : List Int} (h : Pm X) {j : Nat} (hj : j ≤ X.length) : qm X X.length j = j := by
  rw [← qm_tr h (Nat.le_refl _) hj]
  unfold qm
  rw [← sumI_ones j]
  refine sumI_congr fun k hk => ?_
  have := (tr_pm h).gt_rng (i := k) (by rw [tr_length]; omega)
  rw [tr_length] at this
  unfold ib
  rw [if_pos (by omega)]
theorem wS_zero (X O : List Int) (j : Nat) : wS X O 0 j = 1 := rfl
theorem wS_full {g : Gd} (h : VdG g) {j : Nat} (hj : j ≤ g.1.length) : wS g.1 g.2 g.1.length j = 1 := by
  have hl := h.len
  unfold wS
  rw [qm_full h.pX hj]
  have := qm_full h.pO (j := j) (by omega)
  rw [← hl] at this
  rw [this]
  unfold pw1
  rw [if_pos (by omega)]
/-- the sign of a column -/
def eS (x o : Int) (j : Nat) : Int := pw1 (ib x j + ib o j)
theorem eS_sq (x o : Int) (j : Nat) : eS x o j * eS x o j = 1 := pw1_sq _
theorem wS_succ (X O : List Int) (l j : Nat) : wS X O (l + 1) j = wS X O l j * eS (gt X l) (gt O l) j := by
  unfold wS eS qm
  rw [sumI, sumI, ← pw1_add]
  congr 1; omega
theorem DG_tr {g : Gd} (h : VdG g) : DG (tr g.1, tr g.2) = DG g := by
  have hl := h.len
  unfold DG
  simp only [tr_length]
  rw [dt_trans]
  refine dt_congr fun l hlt j hj => ?_
  rw [List.length_range'] at hlt
  have hj2 := (List.mem_range'_1.1 hj).2
  unfold wS
  rw [qm_tr h.pX (by omega) (by omega), qm_tr h.pO (by omega) (by omega)]
theorem DG_vw {g : Gd} (h : VdG g) (r : Bool) : DG (vw r g.1, vw r g.2) = DG g := by
  cases r
  · rfl
  · exact DG_tr h
/-! ### translations -/
theorem qm_rot {X : List Int} {l j : Nat} (hl : l + 1 ≤ X.length) : qm X (l + 1) j = qm (rotL X) l j + ib (gt X 0) j := by
  unfold qm
  rw [sumI_frontT]
  have : sumI l (fun k => ib (gt (rotL X) k) j) = sumI l (fun k => ib (gt X (k + 1)) j) := by
    refine sumI_congr fun k hk => ?_
    rw [gt_rot X (by omega), Nat.mod_eq_of_lt (by omega)]
  rw [this]; omega
theorem DG_rot {g : Gd} (h : VdG g) : DG (rotL g.1, rotL g.2) * DG (rotL g.1, rotL g.2) = DG g * DG g := by
  have hl := h.len
  have h2 := h.two
  have key : ∀ l j, l + 1 ≤ g.1.length → wS g.1 g.2 (l + 1) j = wS (rotL g.1) (rotL g.2) l j * eS (gt g.1 0) (gt g.2 0) j := fun l j hlt => by
    unfold wS eS
    rw [← pw1_add, qm_rot hlt, qm_rot (by omega)]
    congr 1; omega
  have hup : dt (List.range' 0 g.1.length) (upF (wS (rotL g.1) (rotL g.2)) (g.1.length - 1)) = dt (List.range' 0 g.1.length) (fun l j => wS g.1 g.2 l j * eS (gt g.1 0) (gt g.2 0) j) := by
    refine dt_congr fun l hlt j hj => ?_
    rw [List.length_range'] at hlt
    have hj2 := (List.mem_range'_1.1 hj).2
    have hsq := eS_sq (gt g.1 0) (gt g.2 0) j
    unfold upF
    by_cases e0 : l = 0
    · subst e0
      rw [if_pos rfl, wS_zero]
      have := key (g.1.length - 1) j (by omega)
      rw [Nat.sub_add_cancel (by omega), wS_full h (by omega)] at this
      grind
    · rw [if_neg e0, if_pos (by omega)]
      have := key (l - 1) j (by omega)
      rw [Nat.sub_add_cancel (by omega)] at this
      grind
  rw [dt_upF _ _ (by rw [List.length_range']; omega), dt_cols] at hup
  have h1 := sgn_sq (g.1.length - 1)
  have h3 := prE_sq (eS_sq (gt g.1 0) (gt g.2 0)) (List.range' 0 g.1.length)
  have e1 : DG (rotL g.1, rotL g.2) = dt (List.range' 0 g.1.length) (wS (rotL g.1) (rotL g.2)) := by unfold DG; simp only [rotL_length]
  have e2 : DG g = dt (List.range' 0 g.1.length) (wS g.1 g.2) := rfl
  rw [e1, e2]
  generalize dt (List.range' 0 g.1.length) (wS (rotL g.1) (rotL g.2)) = a at *
  generalize dt (List.range' 0 g.1.length) (wS g.1 g.2) = b at *
  generalize prE (eS (gt g.1 0) (gt g.2 0)) (List.range' 0 g.1.length) = c at *
  generalize sgn (g.1.length - 1) = d at *
  have : (d * a) * (d * a) = (c * b) * (c * b) := by rw [hup]
  grind
/-! ### commutations -/
theorem qm_swap {X : List Int} {a l j : Nat} (ha : a + 1 < X.length) (hl : l ≤ X.length) (hne : l ≠ a + 1) : qm (swapL X a) l j = qm X l j := by
  unfold qm
  by_cases h : l ≤ a
  · refine sumI_congr fun k hk => ?_
    rw [gt_swap2 ha (by omega), if_neg (by omega), if_neg (by omega)]
  · have := sumI_two (C := l) (j := a) (k := a + 1) (f := fun k => ib (gt (swapL X a) k) j) (g := fun k => ib (gt X k) j) (by omega) (by omega) (by omega) (fun k hk h1 h2 => by rw [gt_swap2 ha (by omega), if_neg h1, if_neg h2])
    rw [this, gt_swap2 ha (by omega), gt_swap2 ha (by omega), if_pos rfl, if_neg (by omega), if_pos rfl]
    omega
theorem qm_swap_at {X : List Int} {a j : Nat} (ha : a + 1 < X.length) : qm (swapL X a) (a + 1) j = qm X a j + ib (gt X (a + 1)) j := by
  have := qm_swap (j := j) ha (show a ≤ X.length by omega) (by omega)
  unfold qm at *
  rw [sumI, this, gt_swap2 ha (by omega), if_pos rfl]
theorem eS_comm {x o x2 o2 : Int} (h : commB x o x2 o2 = true) : ∃ α β γ : Int, α * α = 1 ∧ ∀ j : Nat, eS x2 o2 j = α * eS x o j + β + γ * (eS x o j * eS x2 o2 j) := by
  unfold commB commIv at h
  split at h
  · cases h
  next hne =>
  have hh := of_decide_eq_true h
  clear h
  have ev : ∀ (x o : Int) (j : Nat), eS x o j = if minG x o < j ∧ (j : Int) ≤ maxG x o then -1 else 1 := fun x o j => by
    unfold eS ib minG maxG pw1
    by_cases h1 : x < (j : Int) <;> by_cases h2 : o < (j : Int) <;> simp only [h1, h2, if_true, if_false] <;> (repeat' split) <;> omega
  have hmm : ∀ x o : Int, minG x o ≤ maxG x o := fun x o => by unfold minG maxG; split <;> split <;> omega
  have m1 := hmm x o
  have m2 := hmm x2 o2
  simp only [ev]
  generalize minG x o = a at *
  generalize maxG x o = b at *
  generalize minG x2 o2 = c at *
  generalize maxG x2 o2 = d at *
  rcases hh with h | h | h | h
  · refine ⟨-1, 1, 1, rfl, fun j => ?_⟩
    by_cases q1 : a < (j : Int) ∧ (j : Int) ≤ b
    · rw [if_pos q1, if_neg (by omega)]; rfl
    · rw [if_neg q1]; split <;> rfl
  · refine ⟨-1, 1, 1, rfl, fun j => ?_⟩
    by_cases q1 : a < (j : Int) ∧ (j : Int) ≤ b
    · rw [if_pos q1, if_neg (by omega)]; rfl
    · rw [if_neg q1]; split <;> rfl
  · refine ⟨1, 1, -1, rfl, fun j => ?_⟩
    by_cases q1 : c < (j : Int) ∧ (j : Int) ≤ d
    · rw [if_pos q1, if_pos (by omega)]; rfl
    · rw [if_neg q1]; split <;> rfl
  · refine ⟨1, -1, 1, rfl, fun j => ?_⟩
    by_cases q1 : a < (j : Int) ∧ (j : Int) ≤ b
    · rw [if_pos q1, if_pos (by omega)]; rfl
    · rw [if_neg q1]; split <;> rfl
theorem DG_swap {g : Gd} {a : Nat} (h : VdG g) (ha : a + 1 < g.1.length) (hc : commB (gt g.1 a) (gt g.2 a) (gt g.1 (a + 1)) (gt g.2 (a + 1)) = true) : DG (swapL g.1 a, swapL g.2 a) * DG (swapL g.1 a, swapL g.2 a) = DG g * DG g := by
  have hl := h.len
  have h2 := h.two
  obtain ⟨α, β, γ, hα, he⟩ := eS_comm hc
  obtain ⟨f, hf⟩ : ∃ f, f = wS g.1 g.2 := ⟨_, rfl⟩
  obtain ⟨b, hb⟩ : ∃ b, b = if a + 2 < g.1.length then a + 2 else 0 := ⟨_, rfl⟩
  have hbl : b < g.1.length := by rw [hb]; split <;> omega
  have hbn : b ≠ a + 1 := by rw [hb]; split <;> omega
  have e1 : DG (swapL g.1 a, swapL g.2 a) = dt (List.range' 0 g.1.length) (fup f (a + 1) fun j => (α * f (a + 1) j + β * f a j) + γ * f b j) := by
    unfold DG
    simp only [swapL_length]
    refine dt_congr fun l hlt j hj => ?_
    rw [List.length_range'] at hlt
    have hj2 := (List.mem_range'_1.1 hj).2
    unfold fup
    by_cases e : l = a + 1
    · subst e
      rw [if_pos rfl]
      have q1 : wS (swapL g.1 a) (swapL g.2 a) (a + 1) j = f a j * eS (gt g.1 (a + 1)) (gt g.2 (a + 1)) j := by
        rw [hf]
        unfold wS eS
        rw [qm_swap_at ha, qm_swap_at (by omega), ← pw1_add]
        congr 1; omega
      have q2 : f (a + 1) j = f a j * eS (gt g.1 a) (gt g.2 a) j := by rw [hf]; exact wS_succ _ _ _ _
      have q3 : f b j = f (a + 1) j * eS (gt g.1 (a + 1)) (gt g.2 (a + 1)) j := by
        rw [hf, ← wS_succ, hb]
        split
        · rfl
        · rw [wS_zero, show a + 1 + 1 = g.1.length by omega, wS_full h (by omega)]
      have q4 := he j
      rw [q1, q3, q2]
      generalize eS (gt g.1 a) (gt g.2 a) j = u at *
      generalize eS (gt g.1 (a + 1)) (gt g.2 (a + 1)) j = v at *
      generalize f a j = t at *
      rw [show α * (t * u) + β * t + γ * (t * u * v) = t * (α * u + β + γ * (u * v)) by grind, ← q4]
    · rw [if_neg e, hf]
      unfold wS
      rw [qm_swap ha (by omega) e, qm_swap (by omega) (by omega) e]
  have hk : a + 1 < (List.range' 0 g.1.length).length := by rw [List.length_range']; exact ha
  have z1 : dt (List.range' 0 g.1.length) (fup f (a + 1) (f b)) = 0 := dt_alike (a := a + 1) (b := b) hk (by rw [List.length_range']; exact hbl) (Ne.symm hbn) (fun j => by unfold fup; rw [if_pos rfl, if_neg hbn])
  have z2 : dt (List.range' 0 g.1.length) (fup f (a + 1) (f a)) = 0 := dt_alike (a := a + 1) (b := a) hk (by rw [List.length_range']; omega) (by omega) (fun j => by unfold fup; rw [if_pos rfl, if_neg (by omega)])
  have e2 : DG (swapL g.1 a, swapL g.2 a) = α * DG g := by
    rw [e1, dt_lin (fun j => α * f (a + 1) j + β * f a j) (f b) γ hk, z1, dt_lin (fun j => α * f (a + 1) j) (f a) β hk, z2, dt_mul (f (a + 1)) α hk, fup_self, hf]
    show α * DG g + β * 0 + γ * 0 = α * DG g
    omega
  rw [e2]
  grind
/-! ### a column and a row are removed -/
theorem ib_lowr (low : Nat) (x : Int) (j : Nat) : ib (lowr low x) j = ib x (skp (low + 1) j) := by
  unfold ib lowr skp
  (repeat' split) <;> omega
theorem sumI_skip (h : Nat → Int) (a : Nat) : ∀ l, a ≤ l → sumI (l + 1) h = sumI l (fun k => h (if k < a then k else k + 1)) + h a
  | 0, hl => by
    obtain rfl : a = 0 := by omega
    rfl
  | l + 1, hl => by
    by_cases e : a = l + 1
    · subst e
      rw [sumI]
      congr 1
      refine sumI_congr fun k hk => ?_
      rw [if_pos hk]
    · rw [sumI, sumI_skip h a l (by omega)]
      conv => rhs; rw [sumI]
      rw [if_neg (by omega)]
      omega
theorem qm_del_low {X : List Int} {a low l j : Nat} (ha : a < X.length) (hl : l ≤ a) : qm (delL X a low) l j = qm X l (skp (low + 1) j) := by
  unfold qm
  refine sumI_congr fun k hk => ?_
  rw [gt_del2 ha (by omega), if_pos (by omega), ib_lowr]
theorem qm_del_high {X : List Int} {a low l j : Nat} (ha : a < X.length) (hl : a ≤ l) (hlt : l + 1 ≤ X.length) : qm X (l + 1) (skp (low + 1) j) = qm (delL X a low) l j + ib (gt X a) (skp (low + 1) j) := by
  unfold qm
  rw [sumI_skip _ a l hl]
  congr 1
  refine sumI_congr fun k hk => ?_
  rw [gt_del2 ha (by omega), ib_lowr]
theorem eS_adj {x o : Int} {low j : Nat} (hA : Adj x o) (hlow : (low : Int) = minG x o) : eS x o j = if j = low + 1 then -1 else 1 := by
  unfold Adj minG at *
  unfold eS ib pw1
  split at hlow <;> by_cases h1 : x < (j : Int) <;> by_cases h2 : o < (j : Int) <;> simp only [h1, h2, if_true, if_false] <;> (repeat' split) <;> omega
theorem DG_del {g : Gd} {a low : Nat} (h : VdG g) (h3 : 3 ≤ g.1.length) (ha : a < g.1.length) (hA : Adj (gt g.1 a) (gt g.2 a)) (hlow : (low : Int) = minG (gt g.1 a) (gt g.2 a)) : DG g * DG g = 4 * (DG (delL g.1 a low, delL g.2 a low) * DG (delL g.1 a low, delL g.2 a low)) := by
  have hl := h.len
  have b1 := h.pX.gt_rng ha
  have b2 := h.pO.gt_rng (show a < g.2.length by omega)
  rw [← hl] at b2
  have hlt : low + 1 < g.1.length := by unfold minG Adj at *; split at hlow <;> omega
  obtain ⟨f, hf⟩ : ∃ f, f = wS g.1 g.2 := ⟨_, rfl⟩
  obtain ⟨ρ, hρ⟩ : ∃ ρ, ρ = if a + 1 < g.1.length then a + 1 else a := ⟨_, rfl⟩
  obtain ⟨τ, hτ⟩ : ∃ τ, τ = if a + 1 < g.1.length then a else 0 := ⟨_, rfl⟩
  have hρl : ρ < g.1.length := by rw [hρ]; split <;> omega
  have hτl : τ < g.1.length := by rw [hτ]; split <;> omega
  have hne : τ ≠ ρ := by rw [hτ, hρ]; split <;> omega
  have he := fun j => eS_adj (j := j) hA hlow
  have hrow : ∀ j, j ≤ g.1.length → f ρ j = f τ j * (if j = low + 1 then -1 else 1) := fun j hj => by
    rw [hf, hρ, hτ]
    split
    · rw [wS_succ, he]
    · have e1 := wS_succ g.1 g.2 a j
      rw [show a + 1 = g.1.length by omega, wS_full h hj, he] at e1
      rw [wS_zero]
      split at e1 <;> omega
  have hJ : (List.range' 0 g.1.length).length = g.1.length := List.length_range'
  have d1 := dt_addmul (J := List.range' 0 g.1.length) (f := f) (a := τ) (b := ρ) (by omega) (by omega) hne (-1)
  have d2 := dt_upF (J := List.range' 0 g.1.length) ρ (fup f ρ fun j => f ρ j + -1 * f τ j) (by omega)
  have hn : List.range' 0 g.1.length ≠ [] := fun e => by rw [e] at hJ; simp at hJ; omega
  have d3 := dt_row (List.range' 0 g.1.length) (upF (fup f ρ fun j => f ρ j + -1 * f τ j) ρ) hn
  rw [hJ] at d3
  have hget : ∀ p, p < g.1.length → (List.range' 0 g.1.length)[p]?.getD 0 = p := fun p hp => by
    rw [List.getElem?_range' (by omega)]; simp
  have hup0 : ∀ j, upF (fup f ρ fun j => f ρ j + -1 * f τ j) ρ 0 j = f ρ j + -1 * f τ j := fun j => by
    unfold upF fup
    rw [if_pos rfl, if_pos rfl]
  have d4 := sumI_single (C := g.1.length) (j := low + 1) (f := fun p => sgn p * upF (fup f ρ fun j => f ρ j + -1 * f τ j) ρ 0 ((List.range' 0 g.1.length)[p]?.getD 0) * dt ((List.range' 0 g.1.length).eraseIdx p) (fun l => upF (fup f ρ fun j => f ρ j + -1 * f τ j) ρ (l + 1))) hlt (fun p hp hne => by
    rw [hget p hp, hup0, hrow p (by omega), if_neg hne]
    rw [show f τ p * 1 + -1 * f τ p = 0 by omega]
    simp)
  rw [d4] at d3
  rw [hget _ hlt, hup0, hrow _ (by omega), if_pos rfl, erase_range _ _ hlt, dt_map] at d3
  have d5 : dt (List.range' 0 (g.1.length - 1)) (fun l j => upF (fup f ρ fun j => f ρ j + -1 * f τ j) ρ (l + 1) (skp (low + 1) j)) = DG (delL g.1 a low, delL g.2 a low) := by
    unfold DG
    simp only [delL_length _ _ _ ha]
    refine dt_congr fun l hlt2 j hj => ?_
    rw [List.length_range'] at hlt2
    have hj2 := (List.mem_range'_1.1 hj).2
    have hskp : upF (fup f ρ fun j => f ρ j + -1 * f τ j) ρ (l + 1) = f (skp ρ l) := by
      unfold upF fup skp
      rw [if_neg (by omega)]
      by_cases e : l + 1 ≤ ρ
      · rw [if_pos e, if_neg (by omega), if_pos (by omega)]; rfl
      · rw [if_neg e, if_neg (by omega), if_neg (by omega)]
    rw [hskp, hf]
    by_cases e : l < ρ
    · have : l ≤ a := by rw [hρ] at e; split at e <;> omega
      rw [show skp ρ l = l by unfold skp; rw [if_pos e]]
      unfold wS
      rw [qm_del_low ha this, qm_del_low (by omega) this]
    · have hr : ρ = a + 1 := by rw [hρ] at e ⊢; split at e <;> split <;> omega
      rw [show skp ρ l = l + 1 by unfold skp; rw [if_neg e]]
      have q := he (skp (low + 1) j)
      rw [if_neg (by unfold skp; split <;> omega)] at q
      unfold eS at q
      unfold wS
      rw [qm_del_high ha (by omega) (by omega), qm_del_high (show a < g.2.length by omega) (by omega) (by omega), show ∀ p q r s : Int, p + q + (r + s) = p + r + (q + s) by intros; omega, pw1_add, q]
      omega
  rw [d5] at d3
  have hs1 := sgn_sq ρ
  have hs2 := sgn_sq (low + 1)
  have hfs : f τ (low + 1) * f τ (low + 1) = 1 := by rw [hf]; exact pw1_sq _
  have hD : DG g = dt (List.range' 0 g.1.length) f := by rw [hf]; rfl
  rw [d1, ← hD] at d2
  rw [d2] at d3
  generalize DG (delL g.1 a low, delL g.2 a low) = y at *
  generalize DG g = x at *
  generalize sgn ρ = s at *
  generalize sgn (low + 1) = t at *
  generalize f τ (low + 1) = u at *
  have h5 : (s * x) * (s * x) = (t * (u * -1 + -1 * u) * y) * (t * (u * -1 + -1 * u) * y) := by rw [d3]
  grind
end Go.Proofs.YteigjfdgijaifaaDoor

namespace Go.Proofs.YteigjfdgijaifaaDoor
open Go.RowKit
set_option linter.unusedVariables false

/-- determinants that are alike -/
def Same2 (g g' : Gd) : Prop := DG g * DG g * 4 ^ g'.1.length = DG g' * DG g' * 4 ^ g.1.length
theorem Same2.symm {g g' : Gd} (h : Same2 g g') : Same2 g' g := Eq.symm h
theorem Same2.trans {a b c : Gd} (h : Same2 a b) (k : Same2 b c) : Same2 a c := by
  unfold Same2 at *
  have hp : (4 : Int) ^ b.1.length ≠ 0 := Int.pow_ne_zero (by decide)
  generalize DG a * DG a = x at *
  generalize DG b * DG b = y at *
  generalize DG c * DG c = z at *
  generalize (4 : Int) ^ a.1.length = p at *
  generalize (4 : Int) ^ b.1.length = q at *
  generalize (4 : Int) ^ c.1.length = r at *
  have : (x * r) * q = (z * p) * q := by
    rw [show x * r * q = (x * q) * r by grind, h, show y * p * r = (y * r) * p by grind, k]
    grind
  exact Int.eq_of_mul_eq_mul_right hp this
theorem Same2.of_eq {g g' : Gd} (hl : g'.1.length = g.1.length) (h : DG g' * DG g' = DG g * DG g) : Same2 g g' := by
  unfold Same2
  rw [hl, h]
theorem Same2.vw {g : Gd} (h : VdG g) (r : Bool) : Same2 g (vw r g.1, vw r g.2) := Same2.of_eq (vw_length _ _) (by rw [DG_vw h])
theorem apply_same3 {X O Y P : List Int} {k a v : Int} {r : Bool} (hk : k ≠ 4) (h : applyM X O k r a v = (0, Y, P)) : Same2 (X, O) (Y, P) := by
  obtain ⟨hv, hr, Y', P', hc, rfl, rfl⟩ := applyM_inv h
  have hw : VdG (vw r X, vw r O) := vw_vd hv
  have hw2 : VdG (Y', P') := by
    have := colsL_vd (a := a.toNat) (v := v.toNat) hw hr.1 (by simp only [vw_length]; have := hr.2.1; omega) (by simp only [vw_length]; have := hr.2.2; omega) (by rw [hc])
    rw [hc] at this
    exact this
  refine (Same2.vw (g := (X, O)) hv r).trans (Same2.trans ?_ (Same2.vw hw2 r))
  obtain ⟨⟨k1, k4⟩, ⟨a0, a1⟩, _⟩ := hr
  have hlv : (vw r X).length = X.length := vw_length _ _
  unfold colsL at hc
  by_cases e1 : k = 1
  · rw [if_pos e1] at hc
    injection hc with _ hc
    injection hc with eY eP
    subst eY; subst eP
    exact Same2.of_eq (rotL_length _) (DG_rot hw)
  rw [if_neg e1] at hc
  by_cases e2 : k = 2
  · rw [if_pos e2] at hc
    split at hc
    · next hcm =>
      injection hc with _ hc
      injection hc with eY eP
      subst eY; subst eP
      refine Same2.of_eq (swapL_length _ _) (DG_swap hw ?_ hcm)
      subst e2
      simp only [limAt] at a1
      simp at a1
      simp only [hlv]
      omega
    · injection hc with hc _; cases hc
  rw [if_neg e2] at hc
  by_cases e3 : k = 3
  · rw [if_pos e3] at hc
    split at hc
    · next hcm =>
      injection hc with _ hc
      injection hc with eY eP
      subst eY; subst eP
      have ha : a.toNat < (vw r X).length := by subst e3; simp only [limAt] at a1; simp at a1; omega
      obtain ⟨h3, hA, _⟩ := (desOk_iff hw.len).1 hcm
      have b1 := Pm.gt_rng (l := vw r X) hw.pX ha
      have b2 := Pm.gt_rng (l := vw r O) hw.pO (i := a.toNat) (by have := hw.len; simp only at this; omega)
      obtain ⟨low, hlow⟩ : ∃ low : Nat, (low : Int) = minG (gt (vw r X) a.toNat) (gt (vw r O) a.toNat) := ⟨(minG (gt (vw r X) a.toNat) (gt (vw r O) a.toNat)).toNat, by unfold minG; split <;> omega⟩
      have := DG_del hw h3 ha hA hlow
      simp only [getD_gt]
      rw [← hlow]
      unfold Same2
      simp only [delL_length _ _ _ ha] at this ⊢
      rw [this, show (vw r X).length = (vw r X).length - 1 + 1 by omega, Int.pow_succ, Nat.add_sub_cancel]
      grind
    · injection hc with hc _; cases hc
  · omega
theorem apply_same {X O Y P : List Int} {k a v : Int} {r : Bool} (h : applyM X O k r a v = (0, Y, P)) : Same2 (X, O) (Y, P) := by
  by_cases hk : k = 4
  · subst hk
    exact (apply_same3 (by decide) (undo_sta h)).symm
  · exact apply_same3 hk h
theorem play_same : ∀ (ms : List Mv) (i : Nat) (X O Y P : List Int) (at_ : Int), playFrom i X O ms = (0, Y, P, at_) → at_ < 0 → Same2 (X, O) (Y, P) ∧ comp Y P = comp X O
  | [], i, X, O, Y, P, at_, h, ha => by
    injection h with _ h
    injection h with h1 h
    injection h with h2 _
    subst h1; subst h2
    exact ⟨rfl, rfl⟩
  | m :: ms, i, X, O, Y, P, at_, h, ha => by
    rw [playFrom] at h
    split at h
    · next h0 =>
      have happ : applyM X O m.k m.rows m.a m.v = (0, (m.app X O).2.1, (m.app X O).2.2) := by
        rw [← h0]; rfl
      obtain ⟨q1, q2⟩ := play_same ms (i + 1) _ _ Y P at_ h ha
      exact ⟨(apply_same happ).trans q1, q2.trans (comp_apply happ)⟩
    · injection h with _ h
      injection h with _ h
      injection h with _ h
      omega
/-! ### translations -/
theorem tl_apply {g : Gd} (h : VdG g) (r : Bool) : Same2 g (vw r (rotL (vw r g.1)), vw r (rotL (vw r g.2))) := apply_same (k := 1) (a := 0) (v := 0) (r := r) (tu_app h r)
theorem col_same {g : Gd} (h : VdG g) : ∀ m, m ≤ g.1.length → Same2 g (trl ((g.1.length - m) % g.1.length) 0 g.1, trl ((g.1.length - m) % g.1.length) 0 g.2) ∧ comp (trl ((g.1.length - m) % g.1.length) 0 g.1) (trl ((g.1.length - m) % g.1.length) 0 g.2) = comp g.1 g.2
  | 0, _ => by
    rw [Nat.sub_zero, Nat.mod_self, trl_zero h.pX, trl_zero h.pO]
    exact ⟨rfl, rfl⟩
  | m + 1, hm => by
    obtain ⟨i1, i2⟩ := col_same h m (by omega)
    have h2 := h.two
    have hl := h.len
    have hlt : (g.1.length - m) % g.1.length < g.1.length := Nat.mod_lt _ (by omega)
    have hv : VdG (trl ((g.1.length - m) % g.1.length) 0 g.1, trl ((g.1.length - m) % g.1.length) 0 g.2) := trl_vd h hlt (by omega)
    have e : ∀ l : List Int, Pm l → l.length = g.1.length → rotL (trl ((g.1.length - m) % g.1.length) 0 l) = trl ((g.1.length - (m + 1)) % g.1.length) 0 l := fun l hp hll => by
      rw [rotL_trl (trl_pm hp (by omega) (by omega)) (by rw [trl_length]; omega), trl_length, trl_trl (by omega) (by omega), hll, Nat.mod_add_mod, show g.1.length - m + (g.1.length - 1) = g.1.length - (m + 1) + g.1.length by omega, Nat.add_mod_right, Nat.add_zero, Nat.zero_mod]
    have a1 := tl_apply hv false
    have a2 := comp_rot hv
    simp only [vw, Bool.false_eq_true, if_false] at a1
    simp only [e _ h.pX rfl, e _ h.pO hl.symm] at a1 a2
    exact ⟨i1.trans a1, a2.trans i2⟩
theorem trl_col_same {g : Gd} (h : VdG g) {c : Nat} (hc : c < g.1.length) : Same2 g (trl c 0 g.1, trl c 0 g.2) ∧ comp (trl c 0 g.1) (trl c 0 g.2) = comp g.1 g.2 := by
  have := col_same h (g.1.length - c) (by omega)
  rw [show g.1.length - (g.1.length - c) = c by omega, Nat.mod_eq_of_lt hc] at this
  exact this
theorem tl_same {g x : Gd} (h : VdG g) (t : Tl g x) : Same2 g x ∧ comp x.1 x.2 = comp g.1 g.2 := by
  obtain ⟨c, r, hc, hr, rfl⟩ := t
  have hl := h.len
  have h2 := h.two
  obtain ⟨a1, a2⟩ := trl_col_same h hc
  have hv : VdG (trl c 0 g.1, trl c 0 g.2) := trl_vd h hc (by omega)
  have hvt : VdG (tr (trl c 0 g.1), tr (trl c 0 g.2)) := tr_vd hv
  obtain ⟨b1, b2⟩ := trl_col_same (c := r) hvt (by simp only [tr_length, trl_length]; exact hr)
  have e : ∀ l : List Int, Pm l → l.length = g.1.length → trl r 0 (tr (trl c 0 l)) = tr (trl c r l) := fun l hp hll => by
    rw [tr_trl hp (by omega) (by omega), trl_trl (by rw [tr_length]; omega) (by rw [tr_length]; omega), tr_trl hp (by omega) (by omega), tr_length, Nat.zero_add, Nat.add_zero, Nat.mod_eq_of_lt (by omega), Nat.mod_eq_of_lt (by omega)]
  simp only at b1 b2
  rw [e _ h.pX rfl, e _ h.pO hl.symm] at b1 b2
  have hvx : VdG (trl c r g.1, trl c r g.2) := trl_vd h hc hr
  have t1 := Same2.vw hv true
  have t2 := Same2.vw hvx true
  simp only [vw, if_true] at t1 t2
  refine ⟨a1.trans (t1.trans (b1.trans t2.symm)), ?_⟩
  have c1 := comp_tr hv
  have c2 := comp_tr hvx
  simp only at c1 c2
  rw [← c2, b2, c1, a2]
/-! ### the determinant of the unknot -/
def DU (g : Gd) : Prop := 4 * (DG g * DG g) = 4 ^ g.1.length
theorem DU.same {g g' : Gd} (h : Same2 g g') (d : DU g) : DU g' := by
  unfold DU Same2 at *
  have hp : (4 : Int) ^ g.1.length ≠ 0 := Int.pow_ne_zero (by decide)
  generalize DG g * DG g = x at *
  generalize DG g' * DG g' = y at *
  generalize (4 : Int) ^ g.1.length = p at *
  generalize (4 : Int) ^ g'.1.length = q at *
  have : (4 * y) * p = q * p := by
    rw [← d] at h ⊢
    grind
  exact Int.eq_of_mul_eq_mul_right hp this
theorem DU_iff {g g' : Gd} (h : Same2 g g') : DU g ↔ DU g' := ⟨DU.same h, DU.same h.symm⟩
theorem DU_two {g : Gd} (h : VdG g) (h2 : g.1.length = 2) : DU g := by
  obtain ⟨X, O⟩ := g
  have hl := h.len
  have pX := h.pX
  have pO := h.pO
  have hne := h.ne
  simp only at h2 hl pX pO hne
  match X, O, h2 with
  | [a, b], [c, d], _ =>
    have e1 := pX.1
    have e2 := pO.1
    have n1 := hne 0 (by simp) (by simp)
    have n2 := hne 1 (by simp) (by simp)
    have q1 := e1 a (by simp)
    have q2 := e1 b (by simp)
    have q3 := e2 c (by simp)
    have q4 := e2 d (by simp)
    have m1 : a ≠ b := by have := pX.2; simp at this; exact this
    have m2 : c ≠ d := by have := pO.2; simp at this; exact this
    simp at n1 n2 q1 q2 q3 q4
    have ha : a = 0 ∨ a = 1 := by omega
    rcases ha with rfl | rfl
    · obtain rfl : b = 1 := by omega
      obtain rfl : c = 1 := by omega
      obtain rfl : d = 0 := by omega
      unfold DU; decide
    · obtain rfl : b = 0 := by omega
      obtain rfl : c = 0 := by omega
      obtain rfl : d = 1 := by omega
      unfold DU; decide
  | [a, b], [], _ => simp at hl
  | [a, b], [c], _ => simp at hl
  | [a, b], c :: d :: e :: t, _ => simp at hl
end Go.Proofs.YteigjfdgijaifaaDoor

namespace Go.Proofs.YteigjfdgijaifaaDoor
open Go.RowKit
set_option linter.unusedVariables false

/-- two rows that are neither alike nor neighbors in the cycle of n rows -/
def nadj (n : Nat) (x o : Int) : Bool := decide (x ≠ o ∧ x ≠ o + 1 ∧ o ≠ x + 1 ∧ x ≠ o + n - 1 ∧ o ≠ x + n - 1)
def pk : Nat → List Int → List (List Int)
  | 0, _ => [[]]
  | k + 1, S => S.flatMap fun x => (pk k (S.erase x)).map (x :: ·)
def pkO (n : Nat) : List Int → List Int → List (List Int)
  | [], _ => [[]]
  | x :: X, S => (S.filter (nadj n x)).flatMap fun o => (pkO n X (S.erase o)).map (o :: ·)
theorem mem_pk : ∀ (l S : List Int), l.Nodup → (∀ x ∈ l, x ∈ S) → l ∈ pk l.length S
  | [], S, _, _ => by simp [pk]
  | x :: l, S, hn, hs => by
    rw [List.nodup_cons] at hn
    rw [List.length_cons, pk, List.mem_flatMap]
    refine ⟨x, hs x (by simp), List.mem_map.2 ⟨l, mem_pk l _ hn.2 fun y hy => ?_, rfl⟩⟩
    exact (List.mem_erase_of_ne (fun e : y = _ => hn.1 (by rw [← e]; exact hy))).2 (hs y (by simp [hy]))
theorem mem_pkO (n : Nat) : ∀ (X O S : List Int), O.length = X.length → O.Nodup → (∀ x ∈ O, x ∈ S) → (∀ k, k < X.length → nadj n (gt X k) (gt O k) = true) → O ∈ pkO n X S
  | [], O, S, hl, _, _, _ => by
    obtain rfl : O = [] := List.eq_nil_of_length_eq_zero hl
    simp [pkO]
  | x :: X, [], S, hl, _, _, _ => by simp at hl
  | x :: X, o :: O, S, hl, hn, hs, ha => by
    rw [List.nodup_cons] at hn
    rw [pkO, List.mem_flatMap]
    refine ⟨o, List.mem_filter.2 ⟨hs o (by simp), ha 0 (by simp)⟩, List.mem_map.2 ⟨O, mem_pkO n X O _ (by simpa using hl) hn.2 (fun y hy => ?_) (fun k hk => ?_), rfl⟩⟩
    · exact (List.mem_erase_of_ne (fun e : y = _ => hn.1 (by rw [← e]; exact hy))).2 (hs y (by simp [hy]))
    · exact ha (k + 1) (by simpa using hk)
def rng (n : Nat) : List Int := (List.range n).map fun i : Nat => (i : Int)
theorem mem_rng {n : Nat} {x : Int} (h : 0 ≤ x ∧ x < n) : x ∈ rng n := List.mem_map.2 ⟨x.toNat, List.mem_range.2 (by omega), by omega⟩
def rowsN (n : Nat) (X O : List Int) : Bool := (List.range n).all fun k => nadj n (gt (tr X) k) (gt (tr O) k)
instance (g : Gd) : Decidable (DU g) := inferInstanceAs (Decidable (_ = _))
def chk (n : Nat) : Bool := (pk (n - 1) ((rng n).erase 0)).all fun X => (pkO n (0 :: X) (rng n)).all fun O => !(rowsN n (0 :: X) O && decide (comp (0 :: X) O = 1) && decide (DU (0 :: X, O)))
set_option maxRecDepth 100000 in
theorem chk3 : chk 3 = true := by decide +kernel
set_option maxRecDepth 100000 in
theorem chk4 : chk 4 = true := by decide +kernel
set_option maxRecDepth 100000 in
theorem chk5 : chk 5 = true := by decide +kernel
set_option maxRecDepth 100000 in
theorem chk6 : chk 6 = true := by decide +kernel
end Go.Proofs.YteigjfdgijaifaaDoor

namespace Go.Proofs.YteigjfdgijaifaaDoor
open Go.RowKit
set_option linter.unusedVariables false

theorem lst0 {g : Gd} (h : VdG g) : gt (lstM g).1 0 = 0 := by
  have h2 := h.two
  obtain ⟨i, hi, e⟩ := lst_cand g.1 g.2 (g.1.length - 1)
  have e2 : lstM g = cand g.1 g.2 i := e
  rw [e2]
  unfold cand
  simp only
  have hil : i < g.1.length := by omega
  have hm := h.pX.gt_rng hil
  have q := trl_vd_gt h.pX (c := (g.1.length - i) % g.1.length) (r := (g.1.length - (gt g.1 i).toNat) % g.1.length) (i := i) (Nat.mod_lt _ (by omega)) (Nat.mod_lt _ (by omega)) hil
  rw [Nat.add_mod_mod, show i + (g.1.length - i) = g.1.length by omega, Nat.mod_self] at q
  rw [q]
  by_cases h0 : gt g.1 i = 0
  · rw [h0]
    simp
  · rw [Nat.mod_eq_of_lt (show g.1.length - (gt g.1 i).toNat < g.1.length by omega)]
    rw [if_neg (by omega)]
    omega
theorem nadj_no {n : Nat} {x o : Int} (hx : 0 ≤ x ∧ x < n) (ho : 0 ≤ o ∧ o < n) (hne : x ≠ o) (h : nadj n x o ≠ true) : Adj x o ∨ (x = 0 ∧ o = n - 1) ∨ (o = 0 ∧ x = n - 1) := by
  unfold Adj
  by_cases a1 : x = o + 1
  · exact .inl (.inl a1)
  by_cases a2 : o = x + 1
  · exact .inl (.inr a2)
  by_cases a3 : x = o + n - 1
  · omega
  by_cases a4 : o = x + n - 1
  · omega
  exact absurd (decide_eq_true ⟨hne, a1, a2, a3, a4⟩) h
/-- the finite search, for the first X in the first row -/
theorem srch {g : Gd} (h : VdG g) (h3 : 3 ≤ g.1.length) (h6 : g.1.length ≤ 6) (h0 : gt g.1 0 = 0) (hc : comp g.1 g.2 = 1) (hd : DU g) : ∃ r i, i < g.1.length ∧ nadj g.1.length (gt (vw r g.1) i) (gt (vw r g.2) i) ≠ true := by
  refine Classical.byContradiction fun hno => ?_
  have hall : ∀ r i, i < g.1.length → nadj g.1.length (gt (vw r g.1) i) (gt (vw r g.2) i) = true := fun r i hi => Classical.byContradiction fun k => hno ⟨r, i, hi, k⟩
  have hl := h.len
  have hchk : chk g.1.length = true := by
    have : g.1.length = 3 ∨ g.1.length = 4 ∨ g.1.length = 5 ∨ g.1.length = 6 := by omega
    rcases this with e | e | e | e <;> rw [e]
    · exact chk3
    · exact chk4
    · exact chk5
    · exact chk6
  obtain ⟨X, O⟩ := g
  simp only at h3 h6 h0 hc hl hchk hall
  cases X with
  | nil => simp at h3
  | cons x X =>
    have hx0 : x = 0 := h0
    subst hx0
    have pX := h.pX
    have pO := h.pO
    simp only at pX pO
    have hn := List.nodup_cons.1 pX.2
    unfold chk at hchk
    have hX : X ∈ pk ((0 :: X).length - 1) ((rng (0 :: X).length).erase 0) := by
      simp only [List.length_cons, Nat.add_sub_cancel]
      refine mem_pk X _ hn.2 fun y hy => ?_
      refine (List.mem_erase_of_ne (fun e : y = 0 => hn.1 (by rw [← e]; exact hy))).2 (mem_rng ?_)
      have := pX.1 y (by simp [hy])
      simpa using this
    have h1 := List.all_eq_true.1 hchk X hX
    have hO : O ∈ pkO (0 :: X).length (0 :: X) (rng (0 :: X).length) := by
      refine mem_pkO _ _ _ _ hl.symm pO.2 (fun y hy => mem_rng ?_) (fun k hk => ?_)
      · have := pO.1 y hy
        rw [← hl] at this
        exact this
      · exact hall false k hk
    have h2 := List.all_eq_true.1 h1 O hO
    have hr : rowsN (0 :: X).length (0 :: X) O = true := by
      unfold rowsN
      refine List.all_eq_true.2 fun k hk => ?_
      exact hall true k (List.mem_range.1 hk)
    rw [hr, decide_eq_true hc, decide_eq_true hd] at h2
    cases h2
/-- no two columns make a component of their own -/
theorem no_pair {X O : List Int} {i : Nat} (h : Vd X O) (h3 : 3 ≤ X.length) (hc : comp X O = 1) (hi : i < X.length) : ∀ k, k < X.length → k ≠ i → ¬ (gt O k = gt X i ∧ gt X k = gt O i) := by
  rintro k hk hne ⟨e1, e2⟩
  have f1 : fC X O k = i := fC_uniq h hi e1.symm
  have f2 : fC X O i = k := fC_uniq h hk e2
  have hp := fC_perm h
  obtain ⟨m, hm, m1, m2⟩ : ∃ m, m < X.length ∧ m ≠ i ∧ m ≠ k := by
    by_cases a0 : i ≠ 0 ∧ k ≠ 0
    · exact ⟨0, by omega, Ne.symm a0.1, Ne.symm a0.2⟩
    · by_cases a1 : i ≠ 1 ∧ k ≠ 1
      · exact ⟨1, by omega, Ne.symm a1.1, Ne.symm a1.2⟩
      · exact ⟨2, by omega, by omega, by omega⟩
  have stay : ∀ t, itr (fC X O) t i = i ∨ itr (fC X O) t i = k := fun t => by
    induction t with
    | zero => exact .inl rfl
    | succ t ih =>
      have : itr (fC X O) (t + 1) i = fC X O (itr (fC X O) t i) := by
        rw [show t + 1 = 1 + t by omega, itr_add]; rfl
      rw [this]
      rcases ih with e | e <;> rw [e]
      · exact .inr f2
      · exact .inl f1
  obtain ⟨a, ha, ra⟩ := exists_head hp i hi
  obtain ⟨b, hb, rb⟩ := exists_head hp m hm
  have hab : a = b := by
    unfold comp cls at hc
    obtain ⟨z, hz⟩ := List.length_eq_one_iff.1 hc
    rw [hz] at ha hb
    rw [List.mem_singleton.1 ha, List.mem_singleton.1 hb]
  subst hab
  have hal : a < X.length := ((mem_heads hp).1 ha).1
  obtain ⟨t, ht⟩ := (hp.symm hal ra).trans rb
  rcases stay t with e | e <;> rw [ht] at e <;> omega
theorem fol_adj {g : Gd} {r : Bool} {i : Nat} (h : VdG g) (h3 : 3 ≤ g.1.length) (hc : comp g.1 g.2 = 1) (hi : i < g.1.length) (hA : Adj (gt (vw r g.1) i) (gt (vw r g.2) i)) : ∃ y : Gd, Fol g (lstM y) ∧ VdG y ∧ y.1.length = g.1.length - 1 ∧ Same2 g y ∧ comp y.1 y.2 = comp g.1 g.2 := by
  have hG : VdG (vw r g.1, vw r g.2) := vw_vd h
  have hlG : (vw r g.1).length = g.1.length := vw_length _ _
  have hcG : comp (vw r g.1) (vw r g.2) = 1 := by rw [comp_vw h]; exact hc
  have hd : desOk (vw r g.1) (vw r g.2) i (gt (vw r g.1) i) (gt (vw r g.2) i) = true :=
    (desOk_iff hG.len).2 ⟨by rw [hlG]; exact h3, hA, no_pair hG (by simp only [hlG]; exact h3) hcG (by simp only [hlG]; exact hi)⟩
  have hir : inRange 3 (i : Int) 0 g.1.length := ⟨by omega, by simp [limAt]; omega, by simp [limVar]⟩
  have hap := applyM_of (rows := r) (k := 3) (a := (i : Int)) (v := 0) h hir (by simpa using cols3 hd)
  refine ⟨(vw r (delL (vw r g.1) i (minG (gt (vw r g.1) i) (gt (vw r g.2) i))), vw r (delL (vw r g.2) i (minG (gt (vw r g.1) i) (gt (vw r g.2) i)))), ⟨g, _, 3, r, i, Tl.refl h, .inr rfl, hap, rfl⟩, applyM_res_vd hap, ?_, apply_same hap, comp_apply hap⟩
  show (vw r (delL (vw r g.1) i (minG (gt (vw r g.1) i) (gt (vw r g.2) i)))).length = g.1.length - 1
  rw [vw_length, delL_length _ _ _ (by rw [hlG]; exact hi), hlG]
theorem fol_nadj {g : Gd} {r : Bool} {i : Nat} (h : VdG g) (h3 : 3 ≤ g.1.length) (hc : comp g.1 g.2 = 1) (hi : i < g.1.length) (hA : nadj g.1.length (gt (vw r g.1) i) (gt (vw r g.2) i) ≠ true) : ∃ y : Gd, Fol g (lstM y) ∧ VdG y ∧ y.1.length = g.1.length - 1 ∧ Same2 g y ∧ comp y.1 y.2 = comp g.1 g.2 := by
  have hG : VdG (vw r g.1, vw r g.2) := vw_vd h
  have hl := h.len
  have h2 := h.two
  have hlG : (vw r g.1).length = g.1.length := vw_length _ _
  have hO2 : (vw r g.2).length = g.1.length := by rw [vw_length]; exact hl.symm
  have b1 := Pm.gt_rng (l := vw r g.1) hG.pX (i := i) (by omega)
  have b2 := Pm.gt_rng (l := vw r g.2) hG.pO (i := i) (by omega)
  rw [hlG] at b1
  rw [hO2] at b2
  have hne : gt (vw r g.1) i ≠ gt (vw r g.2) i := by rw [gt_get (by omega), gt_get (by omega)]; exact hG.ne i _ _
  rcases nadj_no b1 b2 hne hA with hA | hends
  · exact fol_adj h h3 hc hi hA
  · have cross : ∀ l : List Int, Pm l → 2 ≤ l.length → vw r (vw (!r) (rotL (vw (!r) l))) = trl 0 (l.length - 1) (vw r l) := fun l hp hll => by
      cases r
      · simp only [Bool.not_false, vw, Bool.false_eq_true, if_false, if_true]
        exact rotR_trl hp hll
      · simp only [Bool.not_true, vw, Bool.false_eq_true, if_false, if_true]
        have := rotR_trl (tr_pm hp) (by rw [tr_length]; exact hll)
        rw [tr_tr hp, tr_length] at this
        exact this
    have ht := tu_tl h (!r)
    have hyv := ht.vd h
    have hyl := ht.len
    obtain ⟨s1, s2⟩ := tl_same h ht
    have e1 := cross _ h.pX h2
    have e2 := cross _ h.pO (by omega)
    rw [← hl] at e2
    have w1 := trl_val (X := vw r g.1) hG.pX (c := 0) (d := g.1.length - 1) (i := i) (a := i) (by omega) (by omega) (by omega) (by rw [hlG, Nat.add_zero]; exact (Nat.mod_eq_of_lt hi).symm)
    have w2 := trl_val (X := vw r g.2) hG.pO (c := 0) (d := g.1.length - 1) (i := i) (a := i) (by omega) (by omega) (by omega) (by rw [hO2, Nat.add_zero]; exact (Nat.mod_eq_of_lt hi).symm)
    rw [hlG] at w1
    rw [hO2] at w2
    obtain ⟨y, y1, y2, y3, y4, y5⟩ := fol_adj (r := r) (i := i) hyv (by rw [hyl]; exact h3) (by rw [s2]; exact hc) (by rw [hyl]; exact hi) (by
      simp only [e1, e2]
      rw [w1, w2]
      unfold Adj shN
      rcases hends with ⟨p1, p2⟩ | ⟨p1, p2⟩ <;> rw [p1, p2] <;> (repeat' split) <;> omega)
    exact ⟨y, (Fol.tl h ht).2 y1, y2, by rw [y3, hyl], s1.trans y4, by rw [y5, s2]⟩
/-- a class leads to another one -/
inductive RC : Gd → Gd → Prop
  | refl (a : Gd) : RC a a
  | head {a b c : Gd} : Fol a b → RC b c → RC a c
theorem to_two : ∀ (n : Nat) (g : Gd), VdG g → g.1.length = n → n ≤ 6 → comp g.1 g.2 = 1 → DU g → ∃ c : Gd, RC (lstM g) c ∧ c.1.length = 2
  | 0, g, h, hn, _, _, _ => by have := h.two; omega
  | n + 1, g, h, hn, h6, hc, hd => by
    by_cases h2 : g.1.length = 2
    · exact ⟨lstM g, .refl _, by rw [lstM_len h]; exact h2⟩
    have h3 : 3 ≤ g.1.length := by have := h.two; omega
    have ht := Tl.least h
    have hv := ht.vd h
    have hll := ht.len
    obtain ⟨s1, s2⟩ := tl_same h ht
    obtain ⟨r, i, hi, hA⟩ := srch hv (by omega) (by omega) (lst0 h) (by rw [s2]; exact hc) (hd.same s1)
    obtain ⟨y, y1, y2, y3, y4, y5⟩ := fol_nadj hv (by omega) (by rw [s2]; exact hc) hi hA
    obtain ⟨c, c1, c2⟩ := to_two n y y2 (by omega) (by omega) (by rw [y5, s2]; exact hc) ((hd.same s1).same y4)
    exact ⟨c, .head y1 c1, c2⟩
end Go.Proofs.YteigjfdgijaifaaDoor
