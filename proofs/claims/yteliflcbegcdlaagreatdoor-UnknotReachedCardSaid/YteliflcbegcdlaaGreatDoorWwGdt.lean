/- The determinant of a grid diagram, and that the moves keep it up to its sign and powers of 4 (plain). -/
import Derived.Test.YteliflcbegcdlaaGreatDoorWwGrf
import Derived.Test.YteliflcbegcdlaaGreatDoorWwNbp
namespace Go.Proofs.YteliflcbegcdlaaGreatDoor
open Go.RowKit
set_option linter.unusedVariables false
/-! ### determinants -/
def prE (e : Nat → Int) : List Nat → Int
  | [] => 1
  | j :: J => e j * prE e J
theorem prE_sq {e : Nat → Int} (h : ∀ j, e j * e j = 1) : ∀ J, prE e J * prE e J = 1
  | [] => rfl
  | j :: J => by
    have := prE_sq h J
    have := h j
    simp only [prE]
    grind
theorem dt_cols (e : Nat → Int) : ∀ (J : List Nat) (f : Nat → Nat → Int), dt J (fun l j => f l j * e j) = prE e J * dt J f
  | [], f => rfl
  | j :: J, f => by
    rw [dt, dt, prE, ← sumI_mul]
    refine sumI_congr fun k hk => ?_
    have := dt_cols e J (fun l => f (skp k l))
    show sgn k * (f k j * e j) * dt J (fun l i => f (skp k l) i * e i) = e j * prE e J * (sgn k * f k j * dt J (fun l => f (skp k l)))
    rw [this]
    grind
/-- row k comes first -/
def upF (f : Nat → Nat → Int) (k : Nat) : Nat → Nat → Int := fun l => if l = 0 then f k else if l ≤ k then f (l - 1) else f l
theorem dt_upF {J : List Nat} : ∀ (k : Nat) (f : Nat → Nat → Int), k < J.length → dt J (upF f k) = sgn k * dt J f
  | 0, f, h => by
    have : upF f 0 = f := by
      funext l
      unfold upF
      by_cases e : l = 0
      · rw [if_pos e, e]
      · rw [if_neg e, if_neg (by omega)]
    rw [this]; simp [sgn]
  | k + 1, f, h => by
    have e : upF f (k + 1) = upF (fup (fup f k (f (k + 1))) (k + 1) (f k)) k := by
      funext l
      unfold upF fup
      by_cases e0 : l = 0
      · subst e0; simp
      · rw [if_neg e0, if_neg e0]
        by_cases e1 : l = k + 1
        · subst e1; rw [if_pos (Nat.le_refl _), if_neg (by omega), if_pos rfl]; rfl
        · by_cases e2 : l ≤ k
          · rw [if_pos (by omega), if_pos e2, if_neg (by omega), if_neg (by omega)]
          · rw [if_neg (by omega), if_neg e2, if_neg e1, if_neg (by omega)]
    rw [e, dt_upF k _ (by omega), dt_swap_adj h, sgn_succ]
    grind
theorem sgn_sq (k : Nat) : sgn k * sgn k = 1 := by unfold sgn; split <;> rfl
theorem erase_range (n j0 : Nat) (h : j0 < n) : (List.range' 0 n).eraseIdx j0 = (List.range' 0 (n - 1)).map (skp j0) := by
  apply List.ext_getElem
  · rw [List.length_eraseIdx, List.length_map, List.length_range', List.length_range', if_pos h]
  · intro i h1 h2
    rw [List.getElem_eraseIdx, List.getElem_map, List.getElem_range']
    unfold skp
    simp only [List.getElem_range']
    split <;> split <;> omega
/-! ### the matrix of a grid -/
def pw1 (m : Int) : Int := if m % 2 = 0 then 1 else -1
theorem pw1_add (a b : Int) : pw1 (a + b) = pw1 a * pw1 b := by
  unfold pw1
  by_cases h1 : a % 2 = 0 <;> by_cases h2 : b % 2 = 0 <;> simp only [h1, h2, if_true, if_false]
  · rw [if_pos (by omega)]; rfl
  · rw [if_neg (by omega)]; rfl
  · rw [if_neg (by omega)]; rfl
  · rw [if_pos (by omega)]; rfl
theorem pw1_sq (a : Int) : pw1 a * pw1 a = 1 := by unfold pw1; split <;> rfl
def ib (x : Int) (j : Nat) : Int := if x < j then 1 else 0
/-- the marks in the first l columns and j rows -/
def qm (X : List Int) (l j : Nat) : Int := sumI l fun k => ib (gt X k) j
def wS (X O : List Int) (l j : Nat) : Int := pw1 (qm X l j + qm O l j)
def DG (g : Gd) : Int := dt (List.range' 0 g.1.length) (wS g.1 g.2)
theorem gt_tr_iff {X : List Int} (h : Pm X) {k r : Nat} (hk : k < X.length) (hr : r < X.length) : gt X k = r ↔ gt (tr X) r = k := by
  constructor
  · intro e
    have := gt_tr h hk
    rw [e, Int.toNat_natCast] at this
    exact this
  · intro e
    have := gt_tr (tr_pm h) (k := r) (by rw [tr_length]; exact hr)
    rw [e, Int.toNat_natCast, tr_tr h] at this
    exact this
theorem ib_sum {x : Int} (h : 0 ≤ x) : ∀ j : Nat, ib x j = sumI j fun r => if x = (r : Int) then 1 else 0
  | 0 => by unfold ib; rw [if_neg (by omega)]; rfl
  | j + 1 => by
    rw [sumI, ← ib_sum h j]
    unfold ib
    by_cases e : x = (j : Int)
    · rw [if_pos (by omega), if_neg (by omega), if_pos e]; rfl
    · rw [if_neg e]
      by_cases e2 : x < (j : Int)
      · rw [if_pos (by omega), if_pos e2]; rfl
      · rw [if_neg (by omega), if_neg e2]; rfl
theorem qm_tr {X : List Int} (h : Pm X) {l j : Nat} (hl : l ≤ X.length) (hj : j ≤ X.length) : qm (tr X) j l = qm X l j := by
  unfold qm
  have e1 : sumI j (fun k => ib (gt (tr X) k) l) = sumI j fun r => sumI l fun k => if gt (tr X) r = (k : Int) then 1 else 0 :=
    sumI_congr fun r hr => ib_sum ((tr_pm h).gt_rng (by rw [tr_length]; omega)).1 l
  have e2 : sumI l (fun k => ib (gt X k) j) = sumI l fun k => sumI j fun r => if gt X k = (r : Int) then 1 else 0 :=
    sumI_congr fun k hk => ib_sum (h.gt_rng (by omega)).1 j
  rw [e1, e2, sumI_swap]
  refine sumI_congr fun k hk => sumI_congr fun r hr => ?_
  have := gt_tr_iff h (k := k) (r := r) (by omega) (by omega)
  by_cases e : gt X k = (r : Int)
  · rw [if_pos e, if_pos (this.1 e)]
  · rw [if_neg e, if_neg (fun h => e (this.2 h))]
theorem sumI_ones (c : Nat) : sumI c (fun _ => 1) = c := by
  induction c with
  | zero => rfl
  | succ c ih => rw [sumI, ih]; omega
theorem qm_full {X : List Int} (h : Pm X) {j : Nat} (hj : j ≤ X.length) : qm X X.length j = j := by
  rw [← qm_tr h (Nat.le_refl _) hj]
  unfold qm
  rw [← sumI_ones j]
  refine sumI_congr fun k hk => ?_
  have := (tr_pm h).gt_rng (i := k) (by rw [tr_length]; omega)
  rw [tr_length] at this
  unfold ib
  rw [if_pos (by omega)]
theorem wS_zero (X O : List Int) (j : Nat) : wS X O 0 j = 1 := rfl
theorem wS_full {g : Gd} (h : VdG g) {j : Nat} (hj : j ≤ g.1.length) : wS g.1 g.2 g.1.length j = 1 := by
  have hl := h.len
  unfold wS
  rw [qm_full h.pX hj]
  have := qm_full h.pO (j := j) (by omega)
  rw [← hl] at this
  rw [this]
  unfold pw1
  rw [if_pos (by omega)]
/-- the sign of a column -/
def eS (x o : Int) (j : Nat) : Int := pw1 (ib x j + ib o j)
theorem eS_sq (x o : Int) (j : Nat) : eS x o j * eS x o j = 1 := pw1_sq _
theorem wS_succ (X O : List Int) (l j : Nat) : wS X O (l + 1) j = wS X O l j * eS (gt X l) (gt O l) j := by
  unfold wS eS qm
  rw [sumI, sumI, ← pw1_add]
  congr 1; omega
theorem DG_tr {g : Gd} (h : VdG g) : DG (tr g.1, tr g.2) = DG g := by
  have hl := h.len
  unfold DG
  simp only [tr_length]
  rw [dt_trans]
  refine dt_congr fun l hlt j hj => ?_
  rw [List.length_range'] at hlt
  have hj2 := (List.mem_range'_1.1 hj).2
  unfold wS
  rw [qm_tr h.pX (by omega) (by omega), qm_tr h.pO (by omega) (by omega)]
theorem DG_vw {g : Gd} (h : VdG g) (r : Bool) : DG (vw r g.1, vw r g.2) = DG g := by
  cases r
  · rfl
  · exact DG_tr h
/-! ### translations -/
theorem qm_rot {X : List Int} {l j : Nat} (hl : l + 1 ≤ X.length) : qm X (l + 1) j = qm (rotL X) l j + ib (gt X 0) j := by
  unfold qm
  rw [sumI_frontT]
  have : sumI l (fun k => ib (gt (rotL X) k) j) = sumI l (fun k => ib (gt X (k + 1)) j) := by
    refine sumI_congr fun k hk => ?_
    rw [gt_rot X (by omega), Nat.mod_eq_of_lt (by omega)]
  rw [this]; omega
theorem DG_rot {g : Gd} (h : VdG g) : DG (rotL g.1, rotL g.2) * DG (rotL g.1, rotL g.2) = DG g * DG g := by
  have hl := h.len
  have h2 := h.two
  have key : ∀ l j, l + 1 ≤ g.1.length → wS g.1 g.2 (l + 1) j = wS (rotL g.1) (rotL g.2) l j * eS (gt g.1 0) (gt g.2 0) j := fun l j hlt => by
    unfold wS eS
    rw [← pw1_add, qm_rot hlt, qm_rot (by omega)]
    congr 1; omega
  have hup : dt (List.range' 0 g.1.length) (upF (wS (rotL g.1) (rotL g.2)) (g.1.length - 1)) = dt (List.range' 0 g.1.length) (fun l j => wS g.1 g.2 l j * eS (gt g.1 0) (gt g.2 0) j) := by
    refine dt_congr fun l hlt j hj => ?_
    rw [List.length_range'] at hlt
    have hj2 := (List.mem_range'_1.1 hj).2
    have hsq := eS_sq (gt g.1 0) (gt g.2 0) j
    unfold upF
    by_cases e0 : l = 0
    · subst e0
      rw [if_pos rfl, wS_zero]
      have := key (g.1.length - 1) j (by omega)
      rw [Nat.sub_add_cancel (by omega), wS_full h (by omega)] at this
      grind
    · rw [if_neg e0, if_pos (by omega)]
      have := key (l - 1) j (by omega)
      rw [Nat.sub_add_cancel (by omega)] at this
      grind
  rw [dt_upF _ _ (by rw [List.length_range']; omega), dt_cols] at hup
  have h1 := sgn_sq (g.1.length - 1)
  have h3 := prE_sq (eS_sq (gt g.1 0) (gt g.2 0)) (List.range' 0 g.1.length)
  have e1 : DG (rotL g.1, rotL g.2) = dt (List.range' 0 g.1.length) (wS (rotL g.1) (rotL g.2)) := by unfold DG; simp only [rotL_length]
  have e2 : DG g = dt (List.range' 0 g.1.length) (wS g.1 g.2) := rfl
  rw [e1, e2]
  generalize dt (List.range' 0 g.1.length) (wS (rotL g.1) (rotL g.2)) = a at *
  generalize dt (List.range' 0 g.1.length) (wS g.1 g.2) = b at *
  generalize prE (eS (gt g.1 0) (gt g.2 0)) (List.range' 0 g.1.length) = c at *
  generalize sgn (g.1.length - 1) = d at *
  have : (d * a) * (d * a) = (c * b) * (c * b) := by rw [hup]
  grind
/-! ### commutations -/
theorem qm_swap {X : List Int} {a l j : Nat} (ha : a + 1 < X.length) (hl : l ≤ X.length) (hne : l ≠ a + 1) : qm (swapL X a) l j = qm X l j := by
  unfold qm
  by_cases h : l ≤ a
  · refine sumI_congr fun k hk => ?_
    rw [gt_swap2 ha (by omega), if_neg (by omega), if_neg (by omega)]
  · have := sumI_two (C := l) (j := a) (k := a + 1) (f := fun k => ib (gt (swapL X a) k) j) (g := fun k => ib (gt X k) j) (by omega) (by omega) (by omega) (fun k hk h1 h2 => by rw [gt_swap2 ha (by omega), if_neg h1, if_neg h2])
    rw [this, gt_swap2 ha (by omega), gt_swap2 ha (by omega), if_pos rfl, if_neg (by omega), if_pos rfl]
    omega
theorem qm_swap_at {X : List Int} {a j : Nat} (ha : a + 1 < X.length) : qm (swapL X a) (a + 1) j = qm X a j + ib (gt X (a + 1)) j := by
  have := qm_swap (j := j) ha (show a ≤ X.length by omega) (by omega)
  unfold qm at *
  rw [sumI, this, gt_swap2 ha (by omega), if_pos rfl]
theorem eS_comm {x o x2 o2 : Int} (h : commB x o x2 o2 = true) : ∃ α β γ : Int, α * α = 1 ∧ ∀ j : Nat, eS x2 o2 j = α * eS x o j + β + γ * (eS x o j * eS x2 o2 j) := by
  unfold commB commIv at h
  split at h
  · cases h
  next hne =>
  have hh := of_decide_eq_true h
  clear h
  have ev : ∀ (x o : Int) (j : Nat), eS x o j = if minG x o < j ∧ (j : Int) ≤ maxG x o then -1 else 1 := fun x o j => by
    unfold eS ib minG maxG pw1
    by_cases h1 : x < (j : Int) <;> by_cases h2 : o < (j : Int) <;> simp only [h1, h2, if_true, if_false] <;> (repeat' split) <;> omega
  have hmm : ∀ x o : Int, minG x o ≤ maxG x o := fun x o => by unfold minG maxG; split <;> split <;> omega
  have m1 := hmm x o
  have m2 := hmm x2 o2
  simp only [ev]
  generalize minG x o = a at *
  generalize maxG x o = b at *
  generalize minG x2 o2 = c at *
  generalize maxG x2 o2 = d at *
  rcases hh with h | h | h | h
  · refine ⟨-1, 1, 1, rfl, fun j => ?_⟩
    by_cases q1 : a < (j : Int) ∧ (j : Int) ≤ b
    · rw [if_pos q1, if_neg (by omega)]; rfl
    · rw [if_neg q1]; split <;> rfl
  · refine ⟨-1, 1, 1, rfl, fun j => ?_⟩
    by_cases q1 : a < (j : Int) ∧ (j : Int) ≤ b
    · rw [if_pos q1, if_neg (by omega)]; rfl
    · rw [if_neg q1]; split <;> rfl
  · refine ⟨1, 1, -1, rfl, fun j => ?_⟩
    by_cases q1 : c < (j : Int) ∧ (j : Int) ≤ d
    · rw [if_pos q1, if_pos (by omega)]; rfl
    · rw [if_neg q1]; split <;> rfl
  · refine ⟨1, -1, 1, rfl, fun j => ?_⟩
    by_cases q1 : a < (j : Int) ∧ (j : Int) ≤ b
    · rw [if_pos q1, if_pos (by omega)]; rfl
    · rw [if_neg q1]; split <;> rfl
theorem DG_swap {g : Gd} {a : Nat} (h : VdG g) (ha : a + 1 < g.1.length) (hc : commB (gt g.1 a) (gt g.2 a) (gt g.1 (a + 1)) (gt g.2 (a + 1)) = true) : DG (swapL g.1 a, swapL g.2 a) * DG (swapL g.1 a, swapL g.2 a) = DG g * DG g := by
  have hl := h.len
  have h2 := h.two
  obtain ⟨α, β, γ, hα, he⟩ := eS_comm hc
  obtain ⟨f, hf⟩ : ∃ f, f = wS g.1 g.2 := ⟨_, rfl⟩
  obtain ⟨b, hb⟩ : ∃ b, b = if a + 2 < g.1.length then a + 2 else 0 := ⟨_, rfl⟩
  have hbl : b < g.1.length := by rw [hb]; split <;> omega
  have hbn : b ≠ a + 1 := by rw [hb]; split <;> omega
  have e1 : DG (swapL g.1 a, swapL g.2 a) = dt (List.range' 0 g.1.length) (fup f (a + 1) fun j => (α * f (a + 1) j + β * f a j) + γ * f b j) := by
    unfold DG
    simp only [swapL_length]
    refine dt_congr fun l hlt j hj => ?_
    rw [List.length_range'] at hlt
    have hj2 := (List.mem_range'_1.1 hj).2
    unfold fup
    by_cases e : l = a + 1
    · subst e
      rw [if_pos rfl]
      have q1 : wS (swapL g.1 a) (swapL g.2 a) (a + 1) j = f a j * eS (gt g.1 (a + 1)) (gt g.2 (a + 1)) j := by
        rw [hf]
        unfold wS eS
        rw [qm_swap_at ha, qm_swap_at (by omega), ← pw1_add]
        congr 1; omega
      have q2 : f (a + 1) j = f a j * eS (gt g.1 a) (gt g.2 a) j := by rw [hf]; exact wS_succ _ _ _ _
      have q3 : f b j = f (a + 1) j * eS (gt g.1 (a + 1)) (gt g.2 (a + 1)) j := by
        rw [hf, ← wS_succ, hb]
        split
        · rfl
        · rw [wS_zero, show a + 1 + 1 = g.1.length by omega, wS_full h (by omega)]
      have q4 := he j
      rw [q1, q3, q2]
      generalize eS (gt g.1 a) (gt g.2 a) j = u at *
      generalize eS (gt g.1 (a + 1)) (gt g.2 (a + 1)) j = v at *
      generalize f a j = t at *
      rw [show α * (t * u) + β * t + γ * (t * u * v) = t * (α * u + β + γ * (u * v)) by grind, ← q4]
    · rw [if_neg e, hf]
      unfold wS
      rw [qm_swap ha (by omega) e, qm_swap (by omega) (by omega) e]
  have hk : a + 1 < (List.range' 0 g.1.length).length := by rw [List.length_range']; exact ha
  have z1 : dt (List.range' 0 g.1.length) (fup f (a + 1) (f b)) = 0 := dt_alike (a := a + 1) (b := b) hk (by rw [List.length_range']; exact hbl) (Ne.symm hbn) (fun j => by unfold fup; rw [if_pos rfl, if_neg hbn])
  have z2 : dt (List.range' 0 g.1.length) (fup f (a + 1) (f a)) = 0 := dt_alike (a := a + 1) (b := a) hk (by rw [List.length_range']; omega) (by omega) (fun j => by unfold fup; rw [if_pos rfl, if_neg (by omega)])
  have e2 : DG (swapL g.1 a, swapL g.2 a) = α * DG g := by
    rw [e1, dt_lin (fun j => α * f (a + 1) j + β * f a j) (f b) γ hk, z1, dt_lin (fun j => α * f (a + 1) j) (f a) β hk, z2, dt_mul (f (a + 1)) α hk, fup_self, hf]
    show α * DG g + β * 0 + γ * 0 = α * DG g
    omega
  rw [e2]
  grind
/-! ### a column and a row are removed -/
theorem ib_lowr (low : Nat) (x : Int) (j : Nat) : ib (lowr low x) j = ib x (skp (low + 1) j) := by
  unfold ib lowr skp
  (repeat' split) <;> omega
theorem sumI_skip (h : Nat → Int) (a : Nat) : ∀ l, a ≤ l → sumI (l + 1) h = sumI l (fun k => h (if k < a then k else k + 1)) + h a
  | 0, hl => by
    obtain rfl : a = 0 := by omega
    rfl
  | l + 1, hl => by
    by_cases e : a = l + 1
    · subst e
      rw [sumI]
      congr 1
      refine sumI_congr fun k hk => ?_
      rw [if_pos hk]
    · rw [sumI, sumI_skip h a l (by omega)]
      conv => rhs; rw [sumI]
      rw [if_neg (by omega)]
      omega
theorem qm_del_low {X : List Int} {a low l j : Nat} (ha : a < X.length) (hl : l ≤ a) : qm (delL X a low) l j = qm X l (skp (low + 1) j) := by
  unfold qm
  refine sumI_congr fun k hk => ?_
  rw [gt_del2 ha (by omega), if_pos (by omega), ib_lowr]
theorem qm_del_high {X : List Int} {a low l j : Nat} (ha : a < X.length) (hl : a ≤ l) (hlt : l + 1 ≤ X.length) : qm X (l + 1) (skp (low + 1) j) = qm (delL X a low) l j + ib (gt X a) (skp (low + 1) j) := by
  unfold qm
  rw [sumI_skip _ a l hl]
  congr 1
  refine sumI_congr fun k hk => ?_
  rw [gt_del2 ha (by omega), ib_lowr]
theorem eS_adj {x o : Int} {low j : Nat} (hA : Adj x o) (hlow : (low : Int) = minG x o) : eS x o j = if j = low + 1 then -1 else 1 := by
  unfold Adj minG at *
  unfold eS ib pw1
  split at hlow <;> by_cases h1 : x < (j : Int) <;> by_cases h2 : o < (j : Int) <;> simp only [h1, h2, if_true, if_false] <;> (repeat' split) <;> omega
theorem DG_del {g : Gd} {a low : Nat} (h : VdG g) (h3 : 3 ≤ g.1.length) (ha : a < g.1.length) (hA : Adj (gt g.1 a) (gt g.2 a)) (hlow : (low : Int) = minG (gt g.1 a) (gt g.2 a)) : DG g * DG g = 4 * (DG (delL g.1 a low, delL g.2 a low) * DG (delL g.1 a low, delL g.2 a low)) := by
  have hl := h.len
  have b1 := h.pX.gt_rng ha
  have b2 := h.pO.gt_rng (show a < g.2.length by omega)
  rw [← hl] at b2
  have hlt : low + 1 < g.1.length := by unfold minG Adj at *; split at hlow <;> omega
  obtain ⟨f, hf⟩ : ∃ f, f = wS g.1 g.2 := ⟨_, rfl⟩
  obtain ⟨ρ, hρ⟩ : ∃ ρ, ρ = if a + 1 < g.1.length then a + 1 else a := ⟨_, rfl⟩
  obtain ⟨τ, hτ⟩ : ∃ τ, τ = if a + 1 < g.1.length then a else 0 := ⟨_, rfl⟩
  have hρl : ρ < g.1.length := by rw [hρ]; split <;> omega
  have hτl : τ < g.1.length := by rw [hτ]; split <;> omega
  have hne : τ ≠ ρ := by rw [hτ, hρ]; split <;> omega
  have he := fun j => eS_adj (j := j) hA hlow
  have hrow : ∀ j, j ≤ g.1.length → f ρ j = f τ j * (if j = low + 1 then -1 else 1) := fun j hj => by
    rw [hf, hρ, hτ]
    split
    · rw [wS_succ, he]
    · have e1 := wS_succ g.1 g.2 a j
      rw [show a + 1 = g.1.length by omega, wS_full h hj, he] at e1
      rw [wS_zero]
      split at e1 <;> omega
  have hJ : (List.range' 0 g.1.length).length = g.1.length := List.length_range'
  have d1 := dt_addmul (J := List.range' 0 g.1.length) (f := f) (a := τ) (b := ρ) (by omega) (by omega) hne (-1)
  have d2 := dt_upF (J := List.range' 0 g.1.length) ρ (fup f ρ fun j => f ρ j + -1 * f τ j) (by omega)
  have hn : List.range' 0 g.1.length ≠ [] := fun e => by rw [e] at hJ; simp at hJ; omega
  have d3 := dt_row (List.range' 0 g.1.length) (upF (fup f ρ fun j => f ρ j + -1 * f τ j) ρ) hn
  rw [hJ] at d3
  have hget : ∀ p, p < g.1.length → (List.range' 0 g.1.length)[p]?.getD 0 = p := fun p hp => by
    rw [List.getElem?_range' (by omega)]; simp
  have hup0 : ∀ j, upF (fup f ρ fun j => f ρ j + -1 * f τ j) ρ 0 j = f ρ j + -1 * f τ j := fun j => by
    unfold upF fup
    rw [if_pos rfl, if_pos rfl]
  have d4 := sumI_single (C := g.1.length) (j := low + 1) (f := fun p => sgn p * upF (fup f ρ fun j => f ρ j + -1 * f τ j) ρ 0 ((List.range' 0 g.1.length)[p]?.getD 0) * dt ((List.range' 0 g.1.length).eraseIdx p) (fun l => upF (fup f ρ fun j => f ρ j + -1 * f τ j) ρ (l + 1))) hlt (fun p hp hne => by
    rw [hget p hp, hup0, hrow p (by omega), if_neg hne]
    rw [show f τ p * 1 + -1 * f τ p = 0 by omega]
    simp)
  rw [d4] at d3
  rw [hget _ hlt, hup0, hrow _ (by omega), if_pos rfl, erase_range _ _ hlt, dt_map] at d3
  have d5 : dt (List.range' 0 (g.1.length - 1)) (fun l j => upF (fup f ρ fun j => f ρ j + -1 * f τ j) ρ (l + 1) (skp (low + 1) j)) = DG (delL g.1 a low, delL g.2 a low) := by
    unfold DG
    simp only [delL_length _ _ _ ha]
    refine dt_congr fun l hlt2 j hj => ?_
    rw [List.length_range'] at hlt2
    have hj2 := (List.mem_range'_1.1 hj).2
    have hskp : upF (fup f ρ fun j => f ρ j + -1 * f τ j) ρ (l + 1) = f (skp ρ l) := by
      unfold upF fup skp
      rw [if_neg (by omega)]
      by_cases e : l + 1 ≤ ρ
      · rw [if_pos e, if_neg (by omega), if_pos (by omega)]; rfl
      · rw [if_neg e, if_neg (by omega), if_neg (by omega)]
    rw [hskp, hf]
    by_cases e : l < ρ
    · have : l ≤ a := by rw [hρ] at e; split at e <;> omega
      rw [show skp ρ l = l by unfold skp; rw [if_pos e]]
      unfold wS
      rw [qm_del_low ha this, qm_del_low (by omega) this]
    · have hr : ρ = a + 1 := by rw [hρ] at e ⊢; split at e <;> split <;> omega
      rw [show skp ρ l = l + 1 by unfold skp; rw [if_neg e]]
      have q := he (skp (low + 1) j)
      rw [if_neg (by unfold skp; split <;> omega)] at q
      unfold eS at q
      unfold wS
      rw [qm_del_high ha (by omega) (by omega), qm_del_high (show a < g.2.length by omega) (by omega) (by omega), show ∀ p q r s : Int, p + q + (r + s) = p + r + (q + s) by intros; omega, pw1_add, q]
      omega
  rw [d5] at d3
  have hs1 := sgn_sq ρ
  have hs2 := sgn_sq (low + 1)
  have hfs : f τ (low + 1) * f τ (low + 1) = 1 := by rw [hf]; exact pw1_sq _
  have hD : DG g = dt (List.range' 0 g.1.length) f := by rw [hf]; rfl
  rw [d1, ← hD] at d2
  rw [d2] at d3
  generalize DG (delL g.1 a low, delL g.2 a low) = y at *
  generalize DG g = x at *
  generalize sgn ρ = s at *
  generalize sgn (low + 1) = t at *
  generalize f τ (low + 1) = u at *
  have h5 : (s * x) * (s * x) = (t * (u * -1 + -1 * u) * y) * (t * (u * -1 + -1 * u) * y) := by rw [d3]
  grind
end Go.Proofs.YteliflcbegcdlaaGreatDoor
