/- GridmoveAll returns true. -/
import Derived.Test.YtgclngoeglopcaaAlw
import Derived.Test.YtgclngoeglopcaaAwake
import Derived.Deep.RegionHeld3
import Derived.IntWalk
import Derived.StillTailTactics
namespace Go.Proofs.Ytgclngoeglopcaa
open Go.RowKit
set_option linter.unusedVariables false

set_option maxHeartbeats 1000000 in
theorem order_any (x y : Mv) (w : World) : Calls Try.prog 21 #[.agg #[.int .i64 x.k, .bool x.rows, .int .i64 x.a, .int .i64 x.v], .agg #[.int .i64 y.k, .bool y.rows, .int .i64 y.a, .int .i64 y.v]] w fun e w' => e = .returned (.bool (ordB x y)) ∧ Below w.heap.size w w' := by
  obtain ⟨xk, xr, xa, xv⟩ := x
  obtain ⟨yk, yr, ya, yv⟩ := y
  simp only
  by_cases h1 : xk = yk
  · have u1 : (xk != yk) = false := by simpa using h1
    cases xr
    · cases yr
      · by_cases h3 : xa = ya
        · have u3 : (xa != ya) = false := by simpa using h3
          have hfin := Lib.hid (show ordB ⟨xk, false, xa, xv⟩ ⟨yk, false, ya, yv⟩ = decide (xv < yv) by simp [ordB, h1, h3])
          clear h1 h3
          go_enter Try.func21, Try.ntmps21
          go_wp2_with fail
          go_ret
          exact ⟨by rw [hfin.out]; rfl, ((Below.refl _ _).alloc (Nat.le_refl _) _).alloc (by simp) _⟩
        · have u3 : (xa != ya) = true := by simpa using h3
          have hfin := Lib.hid (show ordB ⟨xk, false, xa, xv⟩ ⟨yk, false, ya, yv⟩ = decide (xa < ya) by simp [ordB, h1, h3])
          clear h1 h3
          go_enter Try.func21, Try.ntmps21
          go_wp2_with fail
          go_ret
          exact ⟨by rw [hfin.out]; rfl, ((Below.refl _ _).alloc (Nat.le_refl _) _).alloc (by simp) _⟩
      · have hfin := Lib.hid (show ordB ⟨xk, false, xa, xv⟩ ⟨yk, true, ya, yv⟩ = true by simp [ordB, h1])
        clear h1
        go_enter Try.func21, Try.ntmps21
        go_wp2_with fail
        go_ret
        exact ⟨by rw [hfin.out]; rfl, ((Below.refl _ _).alloc (Nat.le_refl _) _).alloc (by simp) _⟩
    · cases yr
      · have hfin := Lib.hid (show ordB ⟨xk, true, xa, xv⟩ ⟨yk, false, ya, yv⟩ = false by simp [ordB, h1])
        clear h1
        go_enter Try.func21, Try.ntmps21
        go_wp2_with fail
        go_ret
        exact ⟨by rw [hfin.out]; rfl, ((Below.refl _ _).alloc (Nat.le_refl _) _).alloc (by simp) _⟩
      · by_cases h3 : xa = ya
        · have u3 : (xa != ya) = false := by simpa using h3
          have hfin := Lib.hid (show ordB ⟨xk, true, xa, xv⟩ ⟨yk, true, ya, yv⟩ = decide (xv < yv) by simp [ordB, h1, h3])
          clear h1 h3
          go_enter Try.func21, Try.ntmps21
          go_wp2_with fail
          go_ret
          exact ⟨by rw [hfin.out]; rfl, ((Below.refl _ _).alloc (Nat.le_refl _) _).alloc (by simp) _⟩
        · have u3 : (xa != ya) = true := by simpa using h3
          have hfin := Lib.hid (show ordB ⟨xk, true, xa, xv⟩ ⟨yk, true, ya, yv⟩ = decide (xa < ya) by simp [ordB, h1, h3])
          clear h1 h3
          go_enter Try.func21, Try.ntmps21
          go_wp2_with fail
          go_ret
          exact ⟨by rw [hfin.out]; rfl, ((Below.refl _ _).alloc (Nat.le_refl _) _).alloc (by simp) _⟩
  · have u1 : (xk != yk) = true := by simpa using h1
    have hfin := Lib.hid (show ordB ⟨xk, xr, xa, xv⟩ ⟨yk, yr, ya, yv⟩ = decide (xk < yk) by simp [ordB, h1])
    clear h1
    go_enter Try.func21, Try.ntmps21
    go_wp2_with fail
    go_ret
    exact ⟨by rw [hfin.out]; rfl, ((Below.refl _ _).alloc (Nat.le_refl _) _).alloc (by simp) _⟩

def okL (X O : List Int) (st : Bool) (m : Mv) : Bool := okB X O m && !(decide (m.k = 4) && !st)
theorem okB_out {X O : List Int} (h : Vd X O) {k : Int} {r : Bool} {a u : Nat} (hk : 1 ≤ k ∧ k ≤ 4) (ho : (limAt k X.length).toNat ≤ a ∨ (limVar k X.length).toNat ≤ u) : okB X O ⟨k, r, a, u⟩ = false := by
  have h2 := h.two
  have hz := limAt_zero (k := k) (n := X.length) (by omega)
  have hp : 0 ≤ limAt k X.length ∧ 0 ≤ limVar k X.length := by unfold limAt limVar; constructor <;> repeat' split <;> omega
  unfold okB Mv.app applyM
  rw [if_neg (by rw [(validB_iff X O).2 h]; simp), if_neg (by rw [hz]; simpa using hk), if_pos (by simp only; omega)]
  rfl
theorem law_list {X O : List Int} {st : Bool} (h : Vd X O) : cK (okL X O st) (fun _ => 2 * X.length) (fun _ => X.length + 1) 4 = allM X O st := by
  have h2 := h.two
  unfold allM
  rw [if_pos ((validB_iff X O).2 h)]
  have hle : ∀ j : Nat, j < 4 → (limVar ((j : Int) + 1) X.length).toNat ≤ 2 * X.length ∧ (limAt ((j : Int) + 1) X.length).toNat ≤ X.length + 1 := by
    intro j hj
    simp only [limVar, limAt]
    constructor <;> repeat' split <;> omega
  have hcong : ∀ (p q : Mv → Bool) (V A : Int → Nat) (K : Nat), (∀ m : Mv, m.k ≤ K → p m = q m) → cK p V A K = cK q V A K := by
    intro p q V A K hpq
    induction K with
    | zero => rfl
    | succ K ih =>
      rw [cK_succ, cK_succ, ih (fun m hm => hpq m (by omega))]
      congr 1
      unfold cR cA cV
      congr 1; funext i; congr 1; funext a; congr 1; funext u
      rw [hpq ⟨(K : Int) + 1, decide (i = 1), a, u⟩ (by simp only; omega)]
  cases st with
  | true =>
    rw [if_pos rfl, hcong (okL X O true) (okB X O) _ _ 4 (fun m _ => by simp [okL])]
    exact cK_more _ _ _ _ _ 4 (fun j hj => ⟨(hle j hj).1, (hle j hj).2, fun r a u ho => okB_out h (by omega) ho⟩)
  | false =>
    rw [if_neg (by simp), cK_succ]
    have hnil : cR (okL X O false) (((3 : Nat) : Int) + 1) (2 * X.length) (X.length + 1) 2 = [] := by
      have hz : ∀ r a, cV (okL X O false) (((3 : Nat) : Int) + 1) r a (2 * X.length) = [] := fun r a => cV_none _ _ _ _ _ (fun u => by simp [okL])
      unfold cR cA
      simp only [hz]
      simp
    simp only [hnil, List.append_nil]
    rw [hcong (okL X O false) (okB X O) _ _ 3 (fun m hm => by
      have : ¬ m.k = 4 := by have : m.k ≤ ((3 : Nat) : Int) := hm; omega
      simp [okL, this])]
    exact cK_more _ _ _ _ _ 3 (fun j hj => ⟨(hle j (by omega)).1, (hle j (by omega)).2, fun r a u ho => okB_out h (by omega) ho⟩)
theorem all_kind {X O : List Int} {st : Bool} {m : Mv} (h : m ∈ allM X O st) : m.k ≤ 4 ∧ (st = false → m.k ≤ 3) := by
  unfold allM at h
  split at h
  · cases st
    · have := mem_cK h; simp at this; exact ⟨by omega, fun _ => by omega⟩
    · have := mem_cK h; simp at this; exact ⟨by omega, fun h => by cases h⟩
  · cases h
theorem all_pw {X O : List Int} {st : Bool} : (allM X O st).Pairwise (fun x y => ordB x y = true) := by
  unfold allM
  split
  · exact cK_pw _ _ _ _
  · simp
theorem all_ord {X O : List Int} {st : Bool} {i : Nat} (h : i + 1 < (allM X O st).length) : ordB ((allM X O st)[i]) ((allM X O st)[i + 1]) = true :=
  List.pairwise_iff_getElem.1 all_pw i (i + 1) (by omega) h (by omega)
theorem all_len {X O : List Int} {st : Bool} (h : X.length ≤ 40) : (allM X O st).length ≤ 100000 := by
  unfold allM
  split
  · have h1 := fun K => cK_len (okB X O) (fun k => (limVar k X.length).toNat) (fun k => (limAt k X.length).toNat) K (fun j hj => by simp only [limVar, limAt]; constructor <;> repeat' split <;> omega)
    cases st
    · exact Nat.le_trans (h1 3) (by decide)
    · exact Nat.le_trans (h1 4) (by decide)
  · simp

/-- what the statement has counted so far -/
def lP (X O : List Int) (st : Bool) (j i a u : Nat) : List Mv :=
  cK (okL X O st) (fun _ => 2 * X.length) (fun _ => X.length + 1) j ++ (cR (okL X O st) ((j : Int) + 1) (2 * X.length) (X.length + 1) i ++ (cA (okL X O st) ((j : Int) + 1) (decide (i = 1)) (2 * X.length) a ++ cV (okL X O st) ((j : Int) + 1) (decide (i = 1)) a u))
section
variable {X O : List Int} {st : Bool}
theorem lP_a (j i a : Nat) : lP X O st j i a (2 * X.length) = lP X O st j i (a + 1) 0 := by
  unfold lP; rw [cA_succ]; simp [cV]
theorem lP_i (j i : Nat) : lP X O st j i (X.length + 1) 0 = lP X O st j (i + 1) 0 0 := by
  unfold lP; rw [cR_succ]; simp [cV, cA]
theorem lP_j (j : Nat) : lP X O st j 2 0 0 = lP X O st (j + 1) 0 0 0 := by
  unfold lP; rw [cK_succ]; simp [cV, cA, cR]
theorem lP_end (h : Vd X O) : lP X O st 4 0 0 0 = allM X O st := by
  unfold lP; rw [law_list h]; simp [cV, cA, cR]
theorem lP_no {j i a u : Nat} (h : okL X O st ⟨(j : Int) + 1, decide (i = 1), a, u⟩ = false) : lP X O st j i a (u + 1) = lP X O st j i a u := by
  unfold lP; rw [cV_succ, if_neg (by simp [h]), List.append_nil]
theorem lP_yes {j i a u : Nat} (h : okL X O st ⟨(j : Int) + 1, decide (i = 1), a, u⟩ = true) : lP X O st j i a (u + 1) = lP X O st j i a u ++ [⟨(j : Int) + 1, decide (i = 1), a, u⟩] := by
  unfold lP; rw [cV_succ, if_pos h]; simp only [List.append_assoc]
theorem lP_pre (hv : Vd X O) {j i a u : Nat} (hj : j < 4) (hi : i < 2) (ha : a < X.length + 1) (hu : u ≤ 2 * X.length) : lP X O st j i a u <+: allM X O st := by
  rw [← law_list hv]
  exact pre_prefix (okL X O st) (fun _ => 2 * X.length) (fun _ => X.length + 1) hj hi ha hu
/-- the next one that is counted stands in the list -/
theorem lP_at (hv : Vd X O) {j i a u : Nat} (hj : j < 4) (hi : i < 2) (ha : a < X.length + 1) (hu : u < 2 * X.length) (h : okL X O st ⟨(j : Int) + 1, decide (i = 1), a, u⟩ = true) :
    ∃ hl : (lP X O st j i a u).length < (allM X O st).length, (allM X O st)[(lP X O st j i a u).length] = ⟨(j : Int) + 1, decide (i = 1), a, u⟩ := by
  have := lP_pre (st := st) hv hj hi ha (show u + 1 ≤ 2 * X.length by omega)
  rw [lP_yes h] at this
  exact pre_get this
end

set_option maxRecDepth 100000 in
set_option maxHeartbeats 4000000 in
theorem lawAll_no_true (vx vo : Value) (X O : List Int) (w : World) (hX : Ints w vx X) (hO : Ints w vo O) (hv : validB X O = false) :
    Calls Try.prog 7 #[.agg #[vx, vo], .bool true] w fun e w' => e = .returned (.bool true) ∧ Below w.heap.size w w' := by
  have HE := Lib.hid (show allM X O true = [] by unfold allM; rw [if_neg (by simp [hv])])
  have HV := Lib.hid hv
  clear hv
  have hX0 := hX
  have hO0 := hO
  obtain ⟨A, c, rfl, hc, hh⟩ := hX
  obtain ⟨A', c', rfl, hc', hh'⟩ := hO
  clear hh hh'
  go_enter Try.func7, Try.ntmps7
  go_wp2_with fail
  have hW : Arr (w.alloc (.cells #[.slice A X.length c, .slice A' O.length c'] 24)) w.heap.size 24 [.slice A X.length c, .slice A' O.length c'] ∧ Below w.heap.size w (w.alloc (.cells #[.slice A X.length c, .slice A' O.length c'] 24)) := ⟨Arr.new _ _ [_, _], (Below.refl _ _).alloc (Nat.le_refl _) _⟩
  generalize w.alloc (.cells #[.slice A X.length c, .slice A' O.length c'] 24) = w4 at hW ⊢
  obtain ⟨q0, hb4⟩ := hW
  refine (awake_any _).mono ?_
  rintro e w5 ⟨rfl, hb5⟩
  have hbw5 := hb4.trans (hb5.mono hb4.size)
  have p0 := q0.below hb5 q0.lt
  clear q0 hb5 hb4
  have y0 := p0.cell 0
  have y1 := p0.cell 1
  go_wp2_with fail
  refine (great_any _ _ _ _ _ _ _).mono ?_
  rintro e w6 ⟨rfl, hb6⟩
  have hbw6 := hbw5.trans (hb6.mono hbw5.size)
  have r0 := p0.below hb6 p0.lt
  clear p0 hb6 hbw5 y0 y1
  have y0 := r0.cell 0
  have y1 := r0.cell 1
  cases hg : greatB X.length O.length with
  | true =>
    clear hg
    go_wp2_with fail
    go_ret
    exact ⟨rfl, hbw6⟩
  | false =>
  have hg' : X.length ≤ 50 ∧ O.length ≤ 50 := by simp only [greatB, decide_eq_false_iff_not] at hg; omega
  clear hg
  obtain ⟨gl, gl'⟩ := hg'
  have r6 := r0
  by_cases t6 : 6 < X.length
  · have u6 : decide (6 < (X.length : Int)) = true := by simp; omega
    go_wp2_with fail
    refine (valid_any _ _ X O _ (hX0.below hbw6) (hO0.below hbw6) (by omega) (by omega)).mono ?_
    rw [HV.out]
    rintro e w7 ⟨rfl, hb7⟩
    have hbw7 := hbw6.trans (hb7.mono hbw6.size)
    have r7 := r6.below hb7 r6.lt
    clear y0 y1
    have y0 := r7.cell 0
    have y1 := r7.cell 1
    go_wp2_with fail
    refine (all_any _ _ X O true _ (hX0.below hbw7) (hO0.below hbw7) (by omega) (by omega)).mono ?_
    rw [HE.out]
    rintro e w8 ⟨v8, rfl, hM8, hb8⟩
    obtain ⟨A8, c8, rfl, _⟩ := hM8
    have hbw8 := hbw7.trans (hb8.mono hbw7.size)
    have r8 := r7.below hb8 r7.lt
    clear y0 y1
    have y0 := r8.cell 0
    have y1 := r8.cell 1
    go_wp2_with fail
    refine (valid_any _ _ X O _ (hX0.below hbw8) (hO0.below hbw8) (by omega) (by omega)).mono ?_
    rw [HV.out]
    rintro e w9 ⟨rfl, hb9⟩
    have hbw9 := hbw8.trans (hb9.mono hbw8.size)
    have r9 := r8.below hb9 r8.lt
    clear y0 y1
    have y0 := r9.cell 0
    have y1 := r9.cell 1
    go_wp2_with fail
    go_ret
    exact ⟨rfl, hbw9⟩
  · have u6 : decide (6 < (X.length : Int)) = false := by simp; omega
    go_wp2_with fail
    refine (all_any _ _ X O true _ (hX0.below hbw6) (hO0.below hbw6) (by omega) (by omega)).mono ?_
    rw [HE.out]
    rintro e w8 ⟨v8, rfl, hM8, hb8⟩
    obtain ⟨A8, c8, rfl, _⟩ := hM8
    have hbw8 := hbw6.trans (hb8.mono hbw6.size)
    have r8 := r6.below hb8 r6.lt
    clear y0 y1
    have y0 := r8.cell 0
    have y1 := r8.cell 1
    go_wp2_with fail
    refine (valid_any _ _ X O _ (hX0.below hbw8) (hO0.below hbw8) (by omega) (by omega)).mono ?_
    rw [HV.out]
    rintro e w9 ⟨rfl, hb9⟩
    have hbw9 := hbw8.trans (hb9.mono hbw8.size)
    have r9 := r8.below hb9 r8.lt
    clear y0 y1
    have y0 := r9.cell 0
    have y1 := r9.cell 1
    go_wp2_with fail
    go_ret
    exact ⟨rfl, hbw9⟩

set_option maxRecDepth 100000 in
set_option maxHeartbeats 4000000 in
theorem lawAll_no_false (vx vo : Value) (X O : List Int) (w : World) (hX : Ints w vx X) (hO : Ints w vo O) (hv : validB X O = false) :
    Calls Try.prog 7 #[.agg #[vx, vo], .bool false] w fun e w' => e = .returned (.bool true) ∧ Below w.heap.size w w' := by
  have HE := Lib.hid (show allM X O false = [] by unfold allM; rw [if_neg (by simp [hv])])
  have HV := Lib.hid hv
  clear hv
  have hX0 := hX
  have hO0 := hO
  obtain ⟨A, c, rfl, hc, hh⟩ := hX
  obtain ⟨A', c', rfl, hc', hh'⟩ := hO
  clear hh hh'
  go_enter Try.func7, Try.ntmps7
  go_wp2_with fail
  have hW : Arr (w.alloc (.cells #[.slice A X.length c, .slice A' O.length c'] 24)) w.heap.size 24 [.slice A X.length c, .slice A' O.length c'] ∧ Below w.heap.size w (w.alloc (.cells #[.slice A X.length c, .slice A' O.length c'] 24)) := ⟨Arr.new _ _ [_, _], (Below.refl _ _).alloc (Nat.le_refl _) _⟩
  generalize w.alloc (.cells #[.slice A X.length c, .slice A' O.length c'] 24) = w4 at hW ⊢
  obtain ⟨q0, hb4⟩ := hW
  refine (awake_any _).mono ?_
  rintro e w5 ⟨rfl, hb5⟩
  have hbw5 := hb4.trans (hb5.mono hb4.size)
  have p0 := q0.below hb5 q0.lt
  clear q0 hb5 hb4
  have y0 := p0.cell 0
  have y1 := p0.cell 1
  go_wp2_with fail
  refine (great_any _ _ _ _ _ _ _).mono ?_
  rintro e w6 ⟨rfl, hb6⟩
  have hbw6 := hbw5.trans (hb6.mono hbw5.size)
  have r0 := p0.below hb6 p0.lt
  clear p0 hb6 hbw5 y0 y1
  have y0 := r0.cell 0
  have y1 := r0.cell 1
  cases hg : greatB X.length O.length with
  | true =>
    clear hg
    go_wp2_with fail
    go_ret
    exact ⟨rfl, hbw6⟩
  | false =>
  have hg' : X.length ≤ 50 ∧ O.length ≤ 50 := by simp only [greatB, decide_eq_false_iff_not] at hg; omega
  clear hg
  obtain ⟨gl, gl'⟩ := hg'
  have r6 := r0
  by_cases t6 : 6 < X.length
  · have u6 : decide (6 < (X.length : Int)) = true := by simp; omega
    go_wp2_with fail
    refine (valid_any _ _ X O _ (hX0.below hbw6) (hO0.below hbw6) (by omega) (by omega)).mono ?_
    rw [HV.out]
    rintro e w7 ⟨rfl, hb7⟩
    have hbw7 := hbw6.trans (hb7.mono hbw6.size)
    have r7 := r6.below hb7 r6.lt
    clear y0 y1
    have y0 := r7.cell 0
    have y1 := r7.cell 1
    go_wp2_with fail
    refine (all_any _ _ X O false _ (hX0.below hbw7) (hO0.below hbw7) (by omega) (by omega)).mono ?_
    rw [HE.out]
    rintro e w8 ⟨v8, rfl, hM8, hb8⟩
    obtain ⟨A8, c8, rfl, _⟩ := hM8
    have hbw8 := hbw7.trans (hb8.mono hbw7.size)
    have r8 := r7.below hb8 r7.lt
    clear y0 y1
    have y0 := r8.cell 0
    have y1 := r8.cell 1
    go_wp2_with fail
    refine (valid_any _ _ X O _ (hX0.below hbw8) (hO0.below hbw8) (by omega) (by omega)).mono ?_
    rw [HV.out]
    rintro e w9 ⟨rfl, hb9⟩
    have hbw9 := hbw8.trans (hb9.mono hbw8.size)
    have r9 := r8.below hb9 r8.lt
    clear y0 y1
    have y0 := r9.cell 0
    have y1 := r9.cell 1
    go_wp2_with fail
    go_ret
    exact ⟨rfl, hbw9⟩
  · have u6 : decide (6 < (X.length : Int)) = false := by simp; omega
    go_wp2_with fail
    refine (all_any _ _ X O false _ (hX0.below hbw6) (hO0.below hbw6) (by omega) (by omega)).mono ?_
    rw [HE.out]
    rintro e w8 ⟨v8, rfl, hM8, hb8⟩
    obtain ⟨A8, c8, rfl, _⟩ := hM8
    have hbw8 := hbw6.trans (hb8.mono hbw6.size)
    have r8 := r6.below hb8 r6.lt
    clear y0 y1
    have y0 := r8.cell 0
    have y1 := r8.cell 1
    go_wp2_with fail
    refine (valid_any _ _ X O _ (hX0.below hbw8) (hO0.below hbw8) (by omega) (by omega)).mono ?_
    rw [HV.out]
    rintro e w9 ⟨rfl, hb9⟩
    have hbw9 := hbw8.trans (hb9.mono hbw8.size)
    have r9 := r8.below hb9 r8.lt
    clear y0 y1
    have y0 := r9.cell 0
    have y1 := r9.cell 1
    go_wp2_with fail
    go_ret
    exact ⟨rfl, hbw9⟩

set_option maxRecDepth 100000 in
set_option maxHeartbeats 8000000 in
theorem lawAll_yes_true (vx vo : Value) (X O : List Int) (w : World) (hX : Ints w vx X) (hO : Ints w vo O) (hv : validB X O = true) :
    Calls Try.prog 7 #[.agg #[vx, vo], .bool true] w fun e w' => e = .returned (.bool true) ∧ Below w.heap.size w w' := by
  have HV := Lib.hid hv
  have HVD := Lib.hid ((validB_iff X O).1 hv)
  clear hv
  have hX0 := hX
  have hO0 := hO
  obtain ⟨A, c, rfl, hc, hh⟩ := hX
  obtain ⟨A', c', rfl, hc', hh'⟩ := hO
  clear hh hh'
  go_enter Try.func7, Try.ntmps7
  go_wp2_with fail
  have hW : Arr (w.alloc (.cells #[.slice A X.length c, .slice A' O.length c'] 24)) w.heap.size 24 [.slice A X.length c, .slice A' O.length c'] ∧ Below w.heap.size w (w.alloc (.cells #[.slice A X.length c, .slice A' O.length c'] 24)) := ⟨Arr.new _ _ [_, _], (Below.refl _ _).alloc (Nat.le_refl _) _⟩
  generalize w.alloc (.cells #[.slice A X.length c, .slice A' O.length c'] 24) = w4 at hW ⊢
  obtain ⟨q0, hb4⟩ := hW
  refine (awake_any _).mono ?_
  rintro e w5 ⟨rfl, hb5⟩
  have hbw5 := hb4.trans (hb5.mono hb4.size)
  have p0 := q0.below hb5 q0.lt
  clear q0 hb5 hb4
  have y0 := p0.cell 0
  have y1 := p0.cell 1
  go_wp2_with fail
  refine (great_any _ _ _ _ _ _ _).mono ?_
  rintro e w6 ⟨rfl, hb6⟩
  have hbw6 := hbw5.trans (hb6.mono hbw5.size)
  have r0 := p0.below hb6 p0.lt
  clear p0 hb6 hbw5 y0 y1
  have y0 := r0.cell 0
  have y1 := r0.cell 1
  cases hg : greatB X.length O.length with
  | true =>
    clear hg
    go_wp2_with fail
    go_ret
    exact ⟨rfl, hbw6⟩
  | false =>
  have hg' : X.length ≤ 50 ∧ O.length ≤ 50 := by simp only [greatB, decide_eq_false_iff_not] at hg; omega
  clear hg
  obtain ⟨gl, gl'⟩ := hg'
  have r6 := r0
  by_cases t6 : 6 < X.length
  · have u6 : decide (6 < (X.length : Int)) = true := by simp; omega
    go_wp2_with fail
    refine (valid_any _ _ X O _ (hX0.below hbw6) (hO0.below hbw6) (by omega) (by omega)).mono ?_
    rw [HV.out]
    rintro e w7 ⟨rfl, hb7⟩
    have hbw7 := hbw6.trans (hb7.mono hbw6.size)
    have r7 := r6.below hb7 r6.lt
    clear y0 y1
    have y0 := r7.cell 0
    have y1 := r7.cell 1
    go_wp2_with fail
    go_ret
    exact ⟨rfl, hbw7⟩
  have u6 : decide (6 < (X.length : Int)) = false := by simp; omega
  have t6' : X.length ≤ 6 := by omega
  clear t6
  go_wp2_with fail
  refine (all_any _ _ X O true _ (hX0.below hbw6) (hO0.below hbw6) (by omega) (by omega)).mono ?_
  rintro e w7 ⟨v7, rfl, hM7, hb7⟩
  have hbw7 := hbw6.trans (hb7.mono hbw6.size)
  have r7 := r6.below hb7 r6.lt
  obtain ⟨L, hL⟩ : ∃ L, L = allM X O true := ⟨_, rfl⟩
  have HLL : Hid (cK (okL X O true) (fun _ => 2 * X.length) (fun _ => X.length + 1) 4 = L) := by rw [hL]; exact law_list (st := true) HVD.out
  have hlen : L.length ≤ 100000 := by rw [hL]; exact all_len (O := O) (st := true) (show X.length ≤ 40 by omega)
  have HKD : Hid (∀ m : Mv, m ∈ L → m.k ≤ 4 ∧ (true = false → m.k ≤ 3)) := by rw [hL]; exact fun m h => all_kind h
  have HOR : Hid (∀ (i : Nat) (h : i + 1 < L.length), ordB L[i] L[i + 1] = true) := by subst hL; exact fun i h => all_ord h
  have HEND : Hid (lP X O true 4 0 0 0 = L) := by rw [hL]; exact lP_end HVD.out
  have HAT : Hid (∀ j i a u : Nat, j < 4 → i < 2 → a < X.length + 1 → u < 2 * X.length → okL X O true ⟨(j : Int) + 1, decide (i = 1), a, u⟩ = true → ∃ hl : (lP X O true j i a u).length < L.length, L[(lP X O true j i a u).length] = ⟨(j : Int) + 1, decide (i = 1), a, u⟩) := by subst hL; exact fun j i a u h1 h2 h3 h4 h5 => lP_at HVD.out h1 h2 h3 h4 h5
  have HLE : Hid (∀ j i a u : Nat, j < 4 → i < 2 → a < X.length + 1 → u ≤ 2 * X.length → (lP X O true j i a u).length ≤ L.length) := by subst hL; exact fun j i a u h1 h2 h3 h4 => (lP_pre HVD.out h1 h2 h3 h4).length_le
  rw [← hL] at hM7
  clear hL
  obtain ⟨AL, cL, hvv, hMx⟩ := id hM7
  subst hvv
  clear hMx y0 y1 u6 r0 r6 hbw6 hb7
  have y0 := r7.cell 0
  have y1 := r7.cell 1
  go_wp2_with fail
  refine (valid_any _ _ X O _ (hX0.below hbw7) (hO0.below hbw7) (by omega) (by omega)).mono ?_
  rw [HV.out]
  rintro e w8 ⟨rfl, hb8⟩
  have hI : Arr w8 w.heap.size 24 [.slice A X.length c, .slice A' O.length c'] ∧ Moves w8 (.slice AL L.length cL) L ∧ Below w.heap.size w w8 := ⟨r7.below hb8 r7.lt, hM7.below hb8, hbw7.trans (hb8.mono hbw7.size)⟩
  clear y0 y1 r7 hM7 hbw7 hb8
  go_wp2_with fail
  go_loopw [43] (fun i wr => ∃ k : Nat, k ≤ L.length ∧ i = .int .i64 k ∧ Arr wr w.heap.size 24 [.slice A X.length c, .slice A' O.length c'] ∧ Moves wr (.slice AL L.length cL) L ∧ Below w.heap.size w wr) (fun i _ => L.length - (intOf i).toNat)
  case atStart => exact ⟨0, Nat.zero_le _, rfl, hI⟩
  case round =>
    clear hI
    obtain ⟨k, hk, rfl, b0, hM, hbr⟩ := hrel
    by_cases hlt : k < L.length
    · obtain ⟨bL, oL, rfl, hbl, k0, k1, k2, k3⟩ := hM.at_ hlt
      have hkd := HKD.out L[k] (List.getElem_mem hlt)
      have u1 : (k : Int) < (L.length : Int) := by omega
      go_upto_region 11 with fail
      have gk7 : Arr (wr.alloc (.cells #[.int .i64 L[k].k, .bool L[k].rows, .int .i64 L[k].a, .int .i64 L[k].v] 26)) wr.heap.size 26 [.int .i64 L[k].k, .bool L[k].rows, .int .i64 L[k].a, .int .i64 L[k].v] := Arr.new wr 26 [_, _, _, _]
      have b1 := b0.alloc (.cells #[.int .i64 L[k].k, .bool L[k].rows, .int .i64 L[k].a, .int .i64 L[k].v] 26)
      have hM1 : Moves (wr.alloc (.cells #[.int .i64 L[k].k, .bool L[k].rows, .int .i64 L[k].a, .int .i64 L[k].v] 26)) (.slice (some ⟨bL, oL, none⟩) L.length cL) L := hM.below ((Below.refl _ _).alloc (Nat.le_refl _) _)
      have hbr1 := hbr.alloc hbr.size (.cells #[.int .i64 L[k].k, .bool L[k].rows, .int .i64 L[k].a, .int .i64 L[k].v] 26)
      have HORD := Lib.hid (show ∀ q (h : q + 1 = k), ordB (L[q]'(by omega)) L[k] = true from fun q h => by subst h; exact HOR.out q hlt)
      generalize wr.alloc (.cells #[.int .i64 L[k].k, .bool L[k].rows, .int .i64 L[k].a, .int .i64 L[k].v] 26) = w9 at *
      generalize wr.heap.size = g7 at *
      clear k0 k1 k2 k3 b0 hM hbr hbl
      generalize L[k] = m at *
      have z0 := gk7.cell 0
      have z1 := gk7.cell 1
      have z2 := gk7.cell 2
      have z3 := gk7.cell 3
      by_cases hk0 : k = 0
      · have u2 : decide ((0 : Int) < (k : Int)) = false := by simp; omega
        by_cases h4 : m.k = 4
        · have u4 : (m.k == 4) = true := by simpa using h4
          clear h4
          go_quiet (fail)
          go_wp2_with fail
          go_roundw
          case rel => exact ⟨k + 1, by omega, by go_num, b1.drewN _, hM1.below (bdrewN (Below.refl _ _) _), bdrewN hbr1 _⟩
          case measure => simp [intOf]; omega
        · have u4 : (m.k == 4) = false := by simpa using h4
          have u4b : decide (m.k = 4) = false := by simpa using h4
          go_quiet (fail)
          go_wp2_with fail
          go_roundw
          case rel => exact ⟨k + 1, by omega, by go_num, b1.drewN _, hM1.below (bdrewN (Below.refl _ _) _), bdrewN hbr1 _⟩
          case measure => simp [intOf]; omega
      · obtain ⟨q, hq⟩ : ∃ q, q + 1 = k := ⟨k - 1, by omega⟩
        have hor := HORD.out q hq
        have hql : q < L.length := by omega
        obtain ⟨bL', oL', e1, hbl, k0, k1, k2, k3⟩ := hM1.at_ hql
        obtain ⟨rfl, rfl⟩ : bL = bL' ∧ oL = oL' := by simpa using e1
        clear e1 hk0
        generalize L[q] = p at *
        have u2 : decide ((0 : Int) < (k : Int)) = true := by simp; omega
        have u2c : 0 < k := by omega
        have u2b : decide (0 < k) = true := by simp; omega
        have v1 : ((k : Int) - 1) = (q : Int) := by omega
        have v2 : IntKind.i64.wrap ((q : Int)) = (q : Int) := IntWalk.i64_in _ (by omega)
        have v4 : (0 : Int) ≤ (q : Int) := by omega
        have v3 : (q : Int) < (L.length : Int) := by omega
        have KS := Lib.hid (fun (W : World) (hb : Below w9.heap.size w9 W) => (⟨(hb.cell (block_lt_of_cell k0)).trans k0, (hb.cell (p := ⟨bL, oL + q * 4 + 1, none⟩) (block_lt_of_cell k1)).trans k1, (hb.cell (p := ⟨bL, oL + q * 4 + 2, none⟩) (block_lt_of_cell k2)).trans k2, (hb.cell (p := ⟨bL, oL + q * 4 + 3, none⟩) (block_lt_of_cell k3)).trans k3, (hb.cell gk7.lt).trans z0, (hb.cell gk7.lt).trans z1, (hb.cell gk7.lt).trans z2, (hb.cell gk7.lt).trans z3, hb⟩ : W.cell? ⟨bL, oL + q * 4, none⟩ = some (.int .i64 p.k) ∧ W.cell? ⟨bL, oL + q * 4 + 1, none⟩ = some (.bool p.rows) ∧ W.cell? ⟨bL, oL + q * 4 + 2, none⟩ = some (.int .i64 p.a) ∧ W.cell? ⟨bL, oL + q * 4 + 3, none⟩ = some (.int .i64 p.v) ∧ W.cell? ⟨g7, 0, none⟩ = some (.int .i64 m.k) ∧ W.cell? ⟨g7, 1, none⟩ = some (.bool m.rows) ∧ W.cell? ⟨g7, 2, none⟩ = some (.int .i64 m.a) ∧ W.cell? ⟨g7, 3, none⟩ = some (.int .i64 m.v) ∧ Below w9.heap.size w9 W))
        have HJ := Lib.hid (fun (W W' : World) (hS : W.cell? ⟨bL, oL + q * 4, none⟩ = some (.int .i64 p.k) ∧ W.cell? ⟨bL, oL + q * 4 + 1, none⟩ = some (.bool p.rows) ∧ W.cell? ⟨bL, oL + q * 4 + 2, none⟩ = some (.int .i64 p.a) ∧ W.cell? ⟨bL, oL + q * 4 + 3, none⟩ = some (.int .i64 p.v) ∧ W.cell? ⟨g7, 0, none⟩ = some (.int .i64 m.k) ∧ W.cell? ⟨g7, 1, none⟩ = some (.bool m.rows) ∧ W.cell? ⟨g7, 2, none⟩ = some (.int .i64 m.a) ∧ W.cell? ⟨g7, 3, none⟩ = some (.int .i64 m.v) ∧ Below w9.heap.size w9 W) (hb : Below W.heap.size W W') => Below.trans hS.2.2.2.2.2.2.2.2 (hb.mono hS.2.2.2.2.2.2.2.2.size))
        have HOC := Lib.hid (fun (W : World) => order_any p m W)
        rw [hor] at HOC
        clear hor HORD hq
        by_cases h4 : m.k = 4
        · have u4 : (m.k == 4) = true := by simpa using h4
          clear h4
          clear KS HJ
          go_still_tail 9, (by kernel_rfl)
          change wpList _ _ _ _ _ w9.drew
          have z0d : w9.drew.cell? ⟨g7, 0, none⟩ = some (.int .i64 m.k) := z0
          have hbd : Below w9.heap.size w9 w9.drew := (Below.refl _ _).drew
          have hg7 := gk7.lt
          generalize w9.drew = w9d at *
          clear z0 z1 z2 z3 k0 k1 k2 k3
          go_wp2_with (go_at_call 21; refine (HOC.out _).mono ?_; rintro e w10 ⟨rfl, hb10⟩; have z0' := (hb10.cell (p := ⟨g7, 0, none⟩) (block_lt_of_cell z0d)).trans z0d)
          have hb11 : Below w9.heap.size w9 w10 := hbd.trans (hb10.mono hbd.size)
          clear hb10
          go_roundw
          case rel => exact ⟨k + 1, by omega, by go_num, b1.below hb11 b1.lt, hM1.below hb11, hbr1.trans (hb11.mono hbr1.size)⟩
          case measure => simp [intOf]; omega
        · have u4 : (m.k == 4) = false := by simpa using h4
          have u4b : decide (m.k = 4) = false := by simpa using h4
          clear KS HJ
          go_still_tail 9, (by kernel_rfl)
          change wpList _ _ _ _ _ w9.drew
          have z0d : w9.drew.cell? ⟨g7, 0, none⟩ = some (.int .i64 m.k) := z0
          have hbd : Below w9.heap.size w9 w9.drew := (Below.refl _ _).drew
          have hg7 := gk7.lt
          generalize w9.drew = w9d at *
          clear z0 z1 z2 z3 k0 k1 k2 k3
          go_wp2_with (go_at_call 21; refine (HOC.out _).mono ?_; rintro e w10 ⟨rfl, hb10⟩; have z0' := (hb10.cell (p := ⟨g7, 0, none⟩) (block_lt_of_cell z0d)).trans z0d)
          have hb11 : Below w9.heap.size w9 w10 := hbd.trans (hb10.mono hbd.size)
          clear hb10
          go_roundw
          case rel => exact ⟨k + 1, by omega, by go_num, b1.below hb11 b1.lt, hM1.below hb11, hbr1.trans (hb11.mono hbr1.size)⟩
          case measure => simp [intOf]; omega
    · have u1 : ¬ (k : Int) < (L.length : Int) := by omega
      obtain ⟨wo, rfl⟩ : ∃ wo : World, wo = wr := ⟨_, rfl⟩
      have y0 := b0.cell 0
      go_wp2_with fail
      clear y0
      go_loopg [9, 10] 4 (fun gj s9 s10 wi => ∃ j : Nat, j ≤ 4 ∧ gj = 4 - j ∧ s9 = .int .i64 ((lP X O true j 0 0 0).length : Int) ∧ s10 = .int .i64 ((j : Int) + 1) ∧ Arr wi w.heap.size 24 [.slice A X.length c, .slice A' O.length c'] ∧ Moves wi (.slice AL L.length cL) L ∧ Below w.heap.size w wi)
      case atStart => exact ⟨0, Nat.zero_le _, rfl, rfl, rfl, b0, hM, hbr⟩
      case round =>
        clear b0 hM hbr
        obtain ⟨j, hj, rfl, rfl, rfl, b0, hM, hbr⟩ := hrel
        by_cases hlt4 : j < 4
        · have v1 : (j : Int) + 1 ≤ 4 := by omega
          obtain ⟨wo1, rfl⟩ : ∃ wo1 : World, wo1 = wr := ⟨_, rfl⟩
          go_wp2_with fail
          have hW : Arr (wo1.alloc (.cells #[.bool false, .bool true] 4)) wo1.heap.size 4 [.bool false, .bool true] ∧ Arr (wo1.alloc (.cells #[.bool false, .bool true] 4)) w.heap.size 24 [.slice A X.length c, .slice A' O.length c'] ∧ Moves (wo1.alloc (.cells #[.bool false, .bool true] 4)) (.slice AL L.length cL) L ∧ Below w.heap.size w (wo1.alloc (.cells #[.bool false, .bool true] 4)) := ⟨Arr.new _ _ [_, _], b0.alloc _, hM.below ((Below.refl _ _).alloc (Nat.le_refl _) _), hbr.alloc hbr.size _⟩
          generalize wo1.heap.size = gB at *
          generalize wo1.alloc (.cells #[.bool false, .bool true] 4) = wq at hW ⊢
          clear b0 hM hbr
          obtain ⟨gB0, b0, hM, hbr⟩ := hW
          go_loopg [9, 79] 2 (fun gi s9 s79 wi => ∃ i : Nat, i ≤ 2 ∧ gi = 2 - i ∧ s9 = .int .i64 ((lP X O true j i 0 0).length : Int) ∧ s79 = .int .i64 (i : Int) ∧ Arr wi w.heap.size 24 [.slice A X.length c, .slice A' O.length c'] ∧ Moves wi (.slice AL L.length cL) L ∧ Below w.heap.size w wi ∧ Arr wi gB 4 [.bool false, .bool true])
          case atStart => exact ⟨0, Nat.zero_le _, rfl, rfl, rfl, b0, hM, hbr, gB0⟩
          case round =>
            clear b0 hM hbr gB0
            obtain ⟨i, hi, rfl, rfl, rfl, b0, hM, hbr, gB0⟩ := hrel
            by_cases hi2 : i < 2
            · obtain rfl | rfl : i = 0 ∨ i = 1 := by omega
              · skip
                obtain ⟨wo2, rfl⟩ : ∃ wo2 : World, wo2 = wr := ⟨_, rfl⟩
                have gBc := gB0.cell 0
                go_wp2_with fail
                clear gBc
                go_loopg [9, 85] (X.length + 1) (fun ga s9 s85 wi => ∃ a : Nat, a ≤ X.length + 1 ∧ ga = X.length + 1 - a ∧ s9 = .int .i64 ((lP X O true j 0 a 0).length : Int) ∧ s85 = .int .i64 (a : Int) ∧ Arr wi w.heap.size 24 [.slice A X.length c, .slice A' O.length c'] ∧ Moves wi (.slice AL L.length cL) L ∧ Below w.heap.size w wi ∧ Arr wi gB 4 [.bool false, .bool true])
                case atStart => exact ⟨0, Nat.zero_le _, rfl, rfl, rfl, b0, hM, hbr, gB0⟩
                case round =>
                  clear b0 hM hbr gB0
                  obtain ⟨a, ha, rfl, rfl, rfl, b0, hM, hbr, gB0⟩ := hrel
                  by_cases ha2 : a < X.length + 1
                  · have v2 : (a : Int) < (X.length : Int) + 1 := by omega
                    obtain ⟨wo3, rfl⟩ : ∃ wo3 : World, wo3 = wr := ⟨_, rfl⟩
                    go_wp2_with fail
                    go_loopg [9, 90] (2 * X.length) (fun gu s9 s90 wi => ∃ u : Nat, u ≤ 2 * X.length ∧ gu = 2 * X.length - u ∧ s9 = .int .i64 ((lP X O true j 0 a u).length : Int) ∧ s90 = .int .i64 (u : Int) ∧ Arr wi w.heap.size 24 [.slice A X.length c, .slice A' O.length c'] ∧ Moves wi (.slice AL L.length cL) L ∧ Below w.heap.size w wi ∧ Arr wi gB 4 [.bool false, .bool true])
                    case atStart => exact ⟨0, Nat.zero_le _, rfl, rfl, rfl, b0, hM, hbr, gB0⟩
                    case round =>
                      clear b0 hM hbr gB0
                      obtain ⟨u, hu, rfl, rfl, rfl, b0, hM, hbr, gB0⟩ := hrel
                      have hcl := HLE.out j 0 a u hlt4 (by omega) ha2 hu
                      by_cases hu2 : u < 2 * X.length
                      · have v3 : (u : Int) < 2 * (X.length : Int) := by omega
                        have y0 := (b0.alloc (.cells #[.int .i64 ((j : Int) + 1), .bool false, .int .i64 (a : Int), .int .i64 (u : Int)] 26)).cell 0
                        have y1 := (b0.alloc (.cells #[.int .i64 ((j : Int) + 1), .bool false, .int .i64 (a : Int), .int .i64 (u : Int)] 26)).cell 1
                        have hW : Arr (wr.alloc (.cells #[.int .i64 ((j : Int) + 1), .bool false, .int .i64 (a : Int), .int .i64 (u : Int)] 26)) wr.heap.size 26 [.int .i64 ((j : Int) + 1), .bool false, .int .i64 (a : Int), .int .i64 (u : Int)] ∧ Arr (wr.alloc (.cells #[.int .i64 ((j : Int) + 1), .bool false, .int .i64 (a : Int), .int .i64 (u : Int)] 26)) w.heap.size 24 [.slice A X.length c, .slice A' O.length c'] ∧ Moves (wr.alloc (.cells #[.int .i64 ((j : Int) + 1), .bool false, .int .i64 (a : Int), .int .i64 (u : Int)] 26)) (.slice AL L.length cL) L ∧ Below w.heap.size w (wr.alloc (.cells #[.int .i64 ((j : Int) + 1), .bool false, .int .i64 (a : Int), .int .i64 (u : Int)] 26)) ∧ Arr (wr.alloc (.cells #[.int .i64 ((j : Int) + 1), .bool false, .int .i64 (a : Int), .int .i64 (u : Int)] 26)) gB 4 [.bool false, .bool true] := ⟨Arr.new wr _ [_, _, _, _], b0.alloc _, hM.below ((Below.refl _ _).alloc (Nat.le_refl _) _), hbr.alloc hbr.size _, gB0.alloc _⟩
                        have lb0 := b0.lt
                        go_wp2_with fail
                        clear y0 y1
                        generalize wr.heap.size = g15 at *
                        generalize wr.alloc (.cells #[.int .i64 ((j : Int) + 1), .bool false, .int .i64 (a : Int), .int .i64 (u : Int)] 26) = w9 at hW ⊢
                        clear b0 hM hbr gB0
                        obtain ⟨g15a, b1, hM1, hbr1, gB1⟩ := hW
                        refine (apply_rd _ _ X O ((j : Int) + 1) false (a : Int) (u : Int) _ (hX0.below hbr1) (hO0.below hbr1) (by omega) (by omega)).mono ?_
                        rintro e w10 ⟨hb10, A0, n0, c0, A1, n1, c1, rfl, _, _⟩
                        have HOK := Lib.hid (show okB X O ⟨(j : Int) + 1, decide (0 = 1), a, u⟩ = decide ((applyM X O ((j : Int) + 1) false (a : Int) (u : Int)).1 = 0) from rfl)
                        have b2 := (b1.below hb10 b1.lt).alloc (.cells #[.slice A0 n0 c0, .slice A1 n1 c1] 24)
                        have hM2 := (hM1.below hb10).below ((Below.refl w10.heap.size w10).alloc (Nat.le_refl _) (.cells #[.slice A0 n0 c0, .slice A1 n1 c1] 24))
                        have hbr2 := (hbr1.trans (hb10.mono hbr1.size)).alloc (hbr1.trans (hb10.mono hbr1.size)).size (.cells #[.slice A0 n0 c0, .slice A1 n1 c1] 24)
                        have gB2 := (gB1.below hb10 gB1.lt).alloc (.cells #[.slice A0 n0 c0, .slice A1 n1 c1] 24)
                        have g15 := (g15a.below hb10 g15a.lt).alloc (.cells #[.slice A0 n0 c0, .slice A1 n1 c1] 24)
                        clear b1 hM1 hbr1 gB1 g15a hb10
                        generalize (applyM X O ((j : Int) + 1) false (a : Int) (u : Int)).1 = code at *
                        by_cases hcd : code = 0
                        rotate_left
                        · have u5 : (code != 0) = true := by simpa using hcd
                          have hokL : okL X O true ⟨(j : Int) + 1, decide (0 = 1), a, u⟩ = false := by unfold okL; rw [HOK.out, decide_eq_false hcd]; rfl
                          clear hcd
                          have HN := Lib.hid (show (lP X O true j 0 a (u + 1)).length = (lP X O true j 0 a u).length by rw [lP_no hokL])
                          clear hokL
                          go_wp2_with fail
                          go_roundg (2 * X.length - (u + 1))
                          case measure => omega
                          case rel => exact ⟨u + 1, by omega, rfl, by rw [HN.out], by go_num, b2, hM2, hbr2, gB2⟩
                        subst hcd
                        have HOKt := Lib.hid (show okB X O ⟨(j : Int) + 1, decide (0 = 1), a, u⟩ = true by rw [HOK.out]; rfl)
                        clear HOK
                        have hokL : okL X O true ⟨(j : Int) + 1, decide (0 = 1), a, u⟩ = true := by unfold okL; rw [HOKt.out]; simp
                        by_cases hj3 : (j : Int) + 1 = 4
                        · have u9 : (((j : Int) + 1) == 4) = true := by simpa using hj3
                          clear hj3
                          obtain ⟨hl, hget⟩ := HAT.out j 0 a u hlt4 (by omega) ha2 hu2 hokL
                          have HN := Lib.hid (show (lP X O true j 0 a (u + 1)).length = (lP X O true j 0 a u).length + 1 by rw [lP_yes hokL]; simp)
                          clear hokL
                          generalize (lP X O true j 0 a u).length = cnt at *
                          obtain ⟨bL, oL, rfl, hbl, k0, k1, k2, k3⟩ := hM2.at_ hl
                          rw [hget] at k0 k1 k2 k3
                          simp only at k0 k1 k2 k3
                          try rw [show decide (0 = 1) = false from rfl] at k1
                          have u7 : decide ((L.length : Int) ≤ (cnt : Int)) = false := by simp; omega
                          have u8 : (cnt : Int) < (L.length : Int) := by omega
                          have u7b : decide (L.length ≤ cnt) = false := by simp; omega
                          have q0 := g15.cell 0
                          have q1 := g15.cell 1
                          have q2 := g15.cell 2
                          have q3 := g15.cell 3
                          clear hget
                          go_wp2_with fail
                          go_quiet (fail)
                          go_wp2_with fail
                          go_roundg (2 * X.length - (u + 1))
                          case measure => omega
                          case rel => exact ⟨u + 1, by omega, rfl, by rw [HN.out]; go_num, by go_num, b2.drewN _, hM2.below (bdrewN (Below.refl _ _) _), bdrewN hbr2 _, gB2.drewN _⟩
                        · have u9 : (((j : Int) + 1) == 4) = false := by simpa using hj3
                          clear hj3
                          obtain ⟨hl, hget⟩ := HAT.out j 0 a u hlt4 (by omega) ha2 hu2 hokL
                          have HN := Lib.hid (show (lP X O true j 0 a (u + 1)).length = (lP X O true j 0 a u).length + 1 by rw [lP_yes hokL]; simp)
                          clear hokL
                          generalize (lP X O true j 0 a u).length = cnt at *
                          obtain ⟨bL, oL, rfl, hbl, k0, k1, k2, k3⟩ := hM2.at_ hl
                          rw [hget] at k0 k1 k2 k3
                          simp only at k0 k1 k2 k3
                          try rw [show decide (0 = 1) = false from rfl] at k1
                          have u7 : decide ((L.length : Int) ≤ (cnt : Int)) = false := by simp; omega
                          have u8 : (cnt : Int) < (L.length : Int) := by omega
                          have u7b : decide (L.length ≤ cnt) = false := by simp; omega
                          have q0 := g15.cell 0
                          have q1 := g15.cell 1
                          have q2 := g15.cell 2
                          have q3 := g15.cell 3
                          clear hget
                          go_wp2_with fail
                          go_quiet (fail)
                          go_wp2_with fail
                          go_roundg (2 * X.length - (u + 1))
                          case measure => omega
                          case rel => exact ⟨u + 1, by omega, rfl, by rw [HN.out]; go_num, by go_num, b2.drewN _, hM2.below (bdrewN (Below.refl _ _) _), bdrewN hbr2 _, gB2.drewN _⟩
                      · have hu3 : u = 2 * X.length := by omega
                        have v3 : ¬ (u : Int) < 2 * (X.length : Int) := by omega
                        have HN := Lib.hid (show (lP X O true j 0 a u).length = (lP X O true j 0 (a + 1) 0).length by rw [hu3, lP_a])
                        clear hu3
                        go_wp2_with fail
                        go_roundg (X.length + 1 - (a + 1))
                        case measure => omega
                        case rel => exact ⟨a + 1, by omega, rfl, by rw [HN.out], by go_num, b0, hM, hbr, gB0⟩
                  · have ha3 : a = X.length + 1 := by omega
                    have v2 : ¬ (a : Int) < (X.length : Int) + 1 := by omega
                    have HN := Lib.hid (show (lP X O true j 0 a 0).length = (lP X O true j (0 + 1) 0 0).length by rw [ha3, lP_i])
                    clear ha3
                    go_wp2_with fail
                    go_roundg (2 - (0 + 1))
                    case measure => omega
                    case rel => exact ⟨0 + 1, by omega, rfl, by rw [HN.out], by go_num, b0, hM, hbr, gB0⟩
              · skip
                obtain ⟨wo2, rfl⟩ : ∃ wo2 : World, wo2 = wr := ⟨_, rfl⟩
                have gBc := gB0.cell 1
                go_wp2_with fail
                clear gBc
                go_loopg [9, 85] (X.length + 1) (fun ga s9 s85 wi => ∃ a : Nat, a ≤ X.length + 1 ∧ ga = X.length + 1 - a ∧ s9 = .int .i64 ((lP X O true j 1 a 0).length : Int) ∧ s85 = .int .i64 (a : Int) ∧ Arr wi w.heap.size 24 [.slice A X.length c, .slice A' O.length c'] ∧ Moves wi (.slice AL L.length cL) L ∧ Below w.heap.size w wi ∧ Arr wi gB 4 [.bool false, .bool true])
                case atStart => exact ⟨0, Nat.zero_le _, rfl, rfl, rfl, b0, hM, hbr, gB0⟩
                case round =>
                  clear b0 hM hbr gB0
                  obtain ⟨a, ha, rfl, rfl, rfl, b0, hM, hbr, gB0⟩ := hrel
                  by_cases ha2 : a < X.length + 1
                  · have v2 : (a : Int) < (X.length : Int) + 1 := by omega
                    obtain ⟨wo3, rfl⟩ : ∃ wo3 : World, wo3 = wr := ⟨_, rfl⟩
                    go_wp2_with fail
                    go_loopg [9, 90] (2 * X.length) (fun gu s9 s90 wi => ∃ u : Nat, u ≤ 2 * X.length ∧ gu = 2 * X.length - u ∧ s9 = .int .i64 ((lP X O true j 1 a u).length : Int) ∧ s90 = .int .i64 (u : Int) ∧ Arr wi w.heap.size 24 [.slice A X.length c, .slice A' O.length c'] ∧ Moves wi (.slice AL L.length cL) L ∧ Below w.heap.size w wi ∧ Arr wi gB 4 [.bool false, .bool true])
                    case atStart => exact ⟨0, Nat.zero_le _, rfl, rfl, rfl, b0, hM, hbr, gB0⟩
                    case round =>
                      clear b0 hM hbr gB0
                      obtain ⟨u, hu, rfl, rfl, rfl, b0, hM, hbr, gB0⟩ := hrel
                      have hcl := HLE.out j 1 a u hlt4 (by omega) ha2 hu
                      by_cases hu2 : u < 2 * X.length
                      · have v3 : (u : Int) < 2 * (X.length : Int) := by omega
                        have y0 := (b0.alloc (.cells #[.int .i64 ((j : Int) + 1), .bool true, .int .i64 (a : Int), .int .i64 (u : Int)] 26)).cell 0
                        have y1 := (b0.alloc (.cells #[.int .i64 ((j : Int) + 1), .bool true, .int .i64 (a : Int), .int .i64 (u : Int)] 26)).cell 1
                        have hW : Arr (wr.alloc (.cells #[.int .i64 ((j : Int) + 1), .bool true, .int .i64 (a : Int), .int .i64 (u : Int)] 26)) wr.heap.size 26 [.int .i64 ((j : Int) + 1), .bool true, .int .i64 (a : Int), .int .i64 (u : Int)] ∧ Arr (wr.alloc (.cells #[.int .i64 ((j : Int) + 1), .bool true, .int .i64 (a : Int), .int .i64 (u : Int)] 26)) w.heap.size 24 [.slice A X.length c, .slice A' O.length c'] ∧ Moves (wr.alloc (.cells #[.int .i64 ((j : Int) + 1), .bool true, .int .i64 (a : Int), .int .i64 (u : Int)] 26)) (.slice AL L.length cL) L ∧ Below w.heap.size w (wr.alloc (.cells #[.int .i64 ((j : Int) + 1), .bool true, .int .i64 (a : Int), .int .i64 (u : Int)] 26)) ∧ Arr (wr.alloc (.cells #[.int .i64 ((j : Int) + 1), .bool true, .int .i64 (a : Int), .int .i64 (u : Int)] 26)) gB 4 [.bool false, .bool true] := ⟨Arr.new wr _ [_, _, _, _], b0.alloc _, hM.below ((Below.refl _ _).alloc (Nat.le_refl _) _), hbr.alloc hbr.size _, gB0.alloc _⟩
                        have lb0 := b0.lt
                        go_wp2_with fail
                        clear y0 y1
                        generalize wr.heap.size = g15 at *
                        generalize wr.alloc (.cells #[.int .i64 ((j : Int) + 1), .bool true, .int .i64 (a : Int), .int .i64 (u : Int)] 26) = w9 at hW ⊢
                        clear b0 hM hbr gB0
                        obtain ⟨g15a, b1, hM1, hbr1, gB1⟩ := hW
                        refine (apply_rd _ _ X O ((j : Int) + 1) true (a : Int) (u : Int) _ (hX0.below hbr1) (hO0.below hbr1) (by omega) (by omega)).mono ?_
                        rintro e w10 ⟨hb10, A0, n0, c0, A1, n1, c1, rfl, _, _⟩
                        have HOK := Lib.hid (show okB X O ⟨(j : Int) + 1, decide (1 = 1), a, u⟩ = decide ((applyM X O ((j : Int) + 1) true (a : Int) (u : Int)).1 = 0) from rfl)
                        have b2 := (b1.below hb10 b1.lt).alloc (.cells #[.slice A0 n0 c0, .slice A1 n1 c1] 24)
                        have hM2 := (hM1.below hb10).below ((Below.refl w10.heap.size w10).alloc (Nat.le_refl _) (.cells #[.slice A0 n0 c0, .slice A1 n1 c1] 24))
                        have hbr2 := (hbr1.trans (hb10.mono hbr1.size)).alloc (hbr1.trans (hb10.mono hbr1.size)).size (.cells #[.slice A0 n0 c0, .slice A1 n1 c1] 24)
                        have gB2 := (gB1.below hb10 gB1.lt).alloc (.cells #[.slice A0 n0 c0, .slice A1 n1 c1] 24)
                        have g15 := (g15a.below hb10 g15a.lt).alloc (.cells #[.slice A0 n0 c0, .slice A1 n1 c1] 24)
                        clear b1 hM1 hbr1 gB1 g15a hb10
                        generalize (applyM X O ((j : Int) + 1) true (a : Int) (u : Int)).1 = code at *
                        by_cases hcd : code = 0
                        rotate_left
                        · have u5 : (code != 0) = true := by simpa using hcd
                          have hokL : okL X O true ⟨(j : Int) + 1, decide (1 = 1), a, u⟩ = false := by unfold okL; rw [HOK.out, decide_eq_false hcd]; rfl
                          clear hcd
                          have HN := Lib.hid (show (lP X O true j 1 a (u + 1)).length = (lP X O true j 1 a u).length by rw [lP_no hokL])
                          clear hokL
                          go_wp2_with fail
                          go_roundg (2 * X.length - (u + 1))
                          case measure => omega
                          case rel => exact ⟨u + 1, by omega, rfl, by rw [HN.out], by go_num, b2, hM2, hbr2, gB2⟩
                        subst hcd
                        have HOKt := Lib.hid (show okB X O ⟨(j : Int) + 1, decide (1 = 1), a, u⟩ = true by rw [HOK.out]; rfl)
                        clear HOK
                        have hokL : okL X O true ⟨(j : Int) + 1, decide (1 = 1), a, u⟩ = true := by unfold okL; rw [HOKt.out]; simp
                        by_cases hj3 : (j : Int) + 1 = 4
                        · have u9 : (((j : Int) + 1) == 4) = true := by simpa using hj3
                          clear hj3
                          obtain ⟨hl, hget⟩ := HAT.out j 1 a u hlt4 (by omega) ha2 hu2 hokL
                          have HN := Lib.hid (show (lP X O true j 1 a (u + 1)).length = (lP X O true j 1 a u).length + 1 by rw [lP_yes hokL]; simp)
                          clear hokL
                          generalize (lP X O true j 1 a u).length = cnt at *
                          obtain ⟨bL, oL, rfl, hbl, k0, k1, k2, k3⟩ := hM2.at_ hl
                          rw [hget] at k0 k1 k2 k3
                          simp only at k0 k1 k2 k3
                          try rw [show decide (1 = 1) = true from rfl] at k1
                          have u7 : decide ((L.length : Int) ≤ (cnt : Int)) = false := by simp; omega
                          have u8 : (cnt : Int) < (L.length : Int) := by omega
                          have u7b : decide (L.length ≤ cnt) = false := by simp; omega
                          have q0 := g15.cell 0
                          have q1 := g15.cell 1
                          have q2 := g15.cell 2
                          have q3 := g15.cell 3
                          clear hget
                          go_wp2_with fail
                          go_quiet (fail)
                          go_wp2_with fail
                          go_roundg (2 * X.length - (u + 1))
                          case measure => omega
                          case rel => exact ⟨u + 1, by omega, rfl, by rw [HN.out]; go_num, by go_num, b2.drewN _, hM2.below (bdrewN (Below.refl _ _) _), bdrewN hbr2 _, gB2.drewN _⟩
                        · have u9 : (((j : Int) + 1) == 4) = false := by simpa using hj3
                          clear hj3
                          obtain ⟨hl, hget⟩ := HAT.out j 1 a u hlt4 (by omega) ha2 hu2 hokL
                          have HN := Lib.hid (show (lP X O true j 1 a (u + 1)).length = (lP X O true j 1 a u).length + 1 by rw [lP_yes hokL]; simp)
                          clear hokL
                          generalize (lP X O true j 1 a u).length = cnt at *
                          obtain ⟨bL, oL, rfl, hbl, k0, k1, k2, k3⟩ := hM2.at_ hl
                          rw [hget] at k0 k1 k2 k3
                          simp only at k0 k1 k2 k3
                          try rw [show decide (1 = 1) = true from rfl] at k1
                          have u7 : decide ((L.length : Int) ≤ (cnt : Int)) = false := by simp; omega
                          have u8 : (cnt : Int) < (L.length : Int) := by omega
                          have u7b : decide (L.length ≤ cnt) = false := by simp; omega
                          have q0 := g15.cell 0
                          have q1 := g15.cell 1
                          have q2 := g15.cell 2
                          have q3 := g15.cell 3
                          clear hget
                          go_wp2_with fail
                          go_quiet (fail)
                          go_wp2_with fail
                          go_roundg (2 * X.length - (u + 1))
                          case measure => omega
                          case rel => exact ⟨u + 1, by omega, rfl, by rw [HN.out]; go_num, by go_num, b2.drewN _, hM2.below (bdrewN (Below.refl _ _) _), bdrewN hbr2 _, gB2.drewN _⟩
                      · have hu3 : u = 2 * X.length := by omega
                        have v3 : ¬ (u : Int) < 2 * (X.length : Int) := by omega
                        have HN := Lib.hid (show (lP X O true j 1 a u).length = (lP X O true j 1 (a + 1) 0).length by rw [hu3, lP_a])
                        clear hu3
                        go_wp2_with fail
                        go_roundg (X.length + 1 - (a + 1))
                        case measure => omega
                        case rel => exact ⟨a + 1, by omega, rfl, by rw [HN.out], by go_num, b0, hM, hbr, gB0⟩
                  · have ha3 : a = X.length + 1 := by omega
                    have v2 : ¬ (a : Int) < (X.length : Int) + 1 := by omega
                    have HN := Lib.hid (show (lP X O true j 1 a 0).length = (lP X O true j (1 + 1) 0 0).length by rw [ha3, lP_i])
                    clear ha3
                    go_wp2_with fail
                    go_roundg (2 - (1 + 1))
                    case measure => omega
                    case rel => exact ⟨1 + 1, by omega, rfl, by rw [HN.out], by go_num, b0, hM, hbr, gB0⟩
            · have hi3 : i = 2 := by omega
              subst hi3
              have HN := Lib.hid (show (lP X O true j 2 0 0).length = (lP X O true (j + 1) 0 0 0).length by rw [lP_j])
              go_wp2_with fail
              go_roundg (4 - (j + 1))
              case measure => omega
              case rel => exact ⟨j + 1, by omega, rfl, by rw [HN.out], by go_num, b0, hM, hbr⟩
        · have hj4 : j = 4 := by omega
          subst hj4
          have v1 : ¬ (((4 : Nat) : Int) + 1 ≤ 4) := by omega
          rw [HEND.out]
          have v4 : ((L.length : Int) == (L.length : Int)) = true := by simp
          go_wp2_with fail
          go_ret
          exact ⟨rfl, hbr⟩

set_option maxRecDepth 100000 in
set_option maxHeartbeats 8000000 in
theorem lawAll_yes_false (vx vo : Value) (X O : List Int) (w : World) (hX : Ints w vx X) (hO : Ints w vo O) (hv : validB X O = true) :
    Calls Try.prog 7 #[.agg #[vx, vo], .bool false] w fun e w' => e = .returned (.bool true) ∧ Below w.heap.size w w' := by
  have HV := Lib.hid hv
  have HVD := Lib.hid ((validB_iff X O).1 hv)
  clear hv
  have hX0 := hX
  have hO0 := hO
  obtain ⟨A, c, rfl, hc, hh⟩ := hX
  obtain ⟨A', c', rfl, hc', hh'⟩ := hO
  clear hh hh'
  go_enter Try.func7, Try.ntmps7
  go_wp2_with fail
  have hW : Arr (w.alloc (.cells #[.slice A X.length c, .slice A' O.length c'] 24)) w.heap.size 24 [.slice A X.length c, .slice A' O.length c'] ∧ Below w.heap.size w (w.alloc (.cells #[.slice A X.length c, .slice A' O.length c'] 24)) := ⟨Arr.new _ _ [_, _], (Below.refl _ _).alloc (Nat.le_refl _) _⟩
  generalize w.alloc (.cells #[.slice A X.length c, .slice A' O.length c'] 24) = w4 at hW ⊢
  obtain ⟨q0, hb4⟩ := hW
  refine (awake_any _).mono ?_
  rintro e w5 ⟨rfl, hb5⟩
  have hbw5 := hb4.trans (hb5.mono hb4.size)
  have p0 := q0.below hb5 q0.lt
  clear q0 hb5 hb4
  have y0 := p0.cell 0
  have y1 := p0.cell 1
  go_wp2_with fail
  refine (great_any _ _ _ _ _ _ _).mono ?_
  rintro e w6 ⟨rfl, hb6⟩
  have hbw6 := hbw5.trans (hb6.mono hbw5.size)
  have r0 := p0.below hb6 p0.lt
  clear p0 hb6 hbw5 y0 y1
  have y0 := r0.cell 0
  have y1 := r0.cell 1
  cases hg : greatB X.length O.length with
  | true =>
    clear hg
    go_wp2_with fail
    go_ret
    exact ⟨rfl, hbw6⟩
  | false =>
  have hg' : X.length ≤ 50 ∧ O.length ≤ 50 := by simp only [greatB, decide_eq_false_iff_not] at hg; omega
  clear hg
  obtain ⟨gl, gl'⟩ := hg'
  have r6 := r0
  by_cases t6 : 6 < X.length
  · have u6 : decide (6 < (X.length : Int)) = true := by simp; omega
    go_wp2_with fail
    refine (valid_any _ _ X O _ (hX0.below hbw6) (hO0.below hbw6) (by omega) (by omega)).mono ?_
    rw [HV.out]
    rintro e w7 ⟨rfl, hb7⟩
    have hbw7 := hbw6.trans (hb7.mono hbw6.size)
    have r7 := r6.below hb7 r6.lt
    clear y0 y1
    have y0 := r7.cell 0
    have y1 := r7.cell 1
    go_wp2_with fail
    go_ret
    exact ⟨rfl, hbw7⟩
  have u6 : decide (6 < (X.length : Int)) = false := by simp; omega
  have t6' : X.length ≤ 6 := by omega
  clear t6
  go_wp2_with fail
  refine (all_any _ _ X O false _ (hX0.below hbw6) (hO0.below hbw6) (by omega) (by omega)).mono ?_
  rintro e w7 ⟨v7, rfl, hM7, hb7⟩
  have hbw7 := hbw6.trans (hb7.mono hbw6.size)
  have r7 := r6.below hb7 r6.lt
  obtain ⟨L, hL⟩ : ∃ L, L = allM X O false := ⟨_, rfl⟩
  have HLL : Hid (cK (okL X O false) (fun _ => 2 * X.length) (fun _ => X.length + 1) 4 = L) := by rw [hL]; exact law_list (st := false) HVD.out
  have hlen : L.length ≤ 100000 := by rw [hL]; exact all_len (O := O) (st := false) (show X.length ≤ 40 by omega)
  have HKD : Hid (∀ m : Mv, m ∈ L → m.k ≤ 4 ∧ (false = false → m.k ≤ 3)) := by rw [hL]; exact fun m h => all_kind h
  have HOR : Hid (∀ (i : Nat) (h : i + 1 < L.length), ordB L[i] L[i + 1] = true) := by subst hL; exact fun i h => all_ord h
  have HEND : Hid (lP X O false 4 0 0 0 = L) := by rw [hL]; exact lP_end HVD.out
  have HAT : Hid (∀ j i a u : Nat, j < 4 → i < 2 → a < X.length + 1 → u < 2 * X.length → okL X O false ⟨(j : Int) + 1, decide (i = 1), a, u⟩ = true → ∃ hl : (lP X O false j i a u).length < L.length, L[(lP X O false j i a u).length] = ⟨(j : Int) + 1, decide (i = 1), a, u⟩) := by subst hL; exact fun j i a u h1 h2 h3 h4 h5 => lP_at HVD.out h1 h2 h3 h4 h5
  have HLE : Hid (∀ j i a u : Nat, j < 4 → i < 2 → a < X.length + 1 → u ≤ 2 * X.length → (lP X O false j i a u).length ≤ L.length) := by subst hL; exact fun j i a u h1 h2 h3 h4 => (lP_pre HVD.out h1 h2 h3 h4).length_le
  rw [← hL] at hM7
  clear hL
  obtain ⟨AL, cL, hvv, hMx⟩ := id hM7
  subst hvv
  clear hMx y0 y1 u6 r0 r6 hbw6 hb7
  have y0 := r7.cell 0
  have y1 := r7.cell 1
  go_wp2_with fail
  refine (valid_any _ _ X O _ (hX0.below hbw7) (hO0.below hbw7) (by omega) (by omega)).mono ?_
  rw [HV.out]
  rintro e w8 ⟨rfl, hb8⟩
  have hI : Arr w8 w.heap.size 24 [.slice A X.length c, .slice A' O.length c'] ∧ Moves w8 (.slice AL L.length cL) L ∧ Below w.heap.size w w8 := ⟨r7.below hb8 r7.lt, hM7.below hb8, hbw7.trans (hb8.mono hbw7.size)⟩
  clear y0 y1 r7 hM7 hbw7 hb8
  go_wp2_with fail
  go_loopw [43] (fun i wr => ∃ k : Nat, k ≤ L.length ∧ i = .int .i64 k ∧ Arr wr w.heap.size 24 [.slice A X.length c, .slice A' O.length c'] ∧ Moves wr (.slice AL L.length cL) L ∧ Below w.heap.size w wr) (fun i _ => L.length - (intOf i).toNat)
  case atStart => exact ⟨0, Nat.zero_le _, rfl, hI⟩
  case round =>
    clear hI
    obtain ⟨k, hk, rfl, b0, hM, hbr⟩ := hrel
    by_cases hlt : k < L.length
    · obtain ⟨bL, oL, rfl, hbl, k0, k1, k2, k3⟩ := hM.at_ hlt
      have hkd := HKD.out L[k] (List.getElem_mem hlt)
      have u1 : (k : Int) < (L.length : Int) := by omega
      go_upto_region 11 with fail
      have gk7 : Arr (wr.alloc (.cells #[.int .i64 L[k].k, .bool L[k].rows, .int .i64 L[k].a, .int .i64 L[k].v] 26)) wr.heap.size 26 [.int .i64 L[k].k, .bool L[k].rows, .int .i64 L[k].a, .int .i64 L[k].v] := Arr.new wr 26 [_, _, _, _]
      have b1 := b0.alloc (.cells #[.int .i64 L[k].k, .bool L[k].rows, .int .i64 L[k].a, .int .i64 L[k].v] 26)
      have hM1 : Moves (wr.alloc (.cells #[.int .i64 L[k].k, .bool L[k].rows, .int .i64 L[k].a, .int .i64 L[k].v] 26)) (.slice (some ⟨bL, oL, none⟩) L.length cL) L := hM.below ((Below.refl _ _).alloc (Nat.le_refl _) _)
      have hbr1 := hbr.alloc hbr.size (.cells #[.int .i64 L[k].k, .bool L[k].rows, .int .i64 L[k].a, .int .i64 L[k].v] 26)
      have HORD := Lib.hid (show ∀ q (h : q + 1 = k), ordB (L[q]'(by omega)) L[k] = true from fun q h => by subst h; exact HOR.out q hlt)
      generalize wr.alloc (.cells #[.int .i64 L[k].k, .bool L[k].rows, .int .i64 L[k].a, .int .i64 L[k].v] 26) = w9 at *
      generalize wr.heap.size = g7 at *
      clear k0 k1 k2 k3 b0 hM hbr hbl
      generalize L[k] = m at *
      have z0 := gk7.cell 0
      have z1 := gk7.cell 1
      have z2 := gk7.cell 2
      have z3 := gk7.cell 3
      by_cases hk0 : k = 0
      · have u2 : decide ((0 : Int) < (k : Int)) = false := by simp; omega
        have h4 : ¬ m.k = 4 := by have := hkd.2 (by simp); omega
        have u4 : (m.k == 4) = false := by simpa using h4
        have u4b : decide (m.k = 4) = false := by simpa using h4
        go_quiet (fail)
        go_wp2_with fail
        go_roundw
        case rel => exact ⟨k + 1, by omega, by go_num, b1.drewN _, hM1.below (bdrewN (Below.refl _ _) _), bdrewN hbr1 _⟩
        case measure => simp [intOf]; omega
      · obtain ⟨q, hq⟩ : ∃ q, q + 1 = k := ⟨k - 1, by omega⟩
        have hor := HORD.out q hq
        have hql : q < L.length := by omega
        obtain ⟨bL', oL', e1, hbl, k0, k1, k2, k3⟩ := hM1.at_ hql
        obtain ⟨rfl, rfl⟩ : bL = bL' ∧ oL = oL' := by simpa using e1
        clear e1 hk0
        generalize L[q] = p at *
        have u2 : decide ((0 : Int) < (k : Int)) = true := by simp; omega
        have u2c : 0 < k := by omega
        have u2b : decide (0 < k) = true := by simp; omega
        have v1 : ((k : Int) - 1) = (q : Int) := by omega
        have v2 : IntKind.i64.wrap ((q : Int)) = (q : Int) := IntWalk.i64_in _ (by omega)
        have v4 : (0 : Int) ≤ (q : Int) := by omega
        have v3 : (q : Int) < (L.length : Int) := by omega
        have KS := Lib.hid (fun (W : World) (hb : Below w9.heap.size w9 W) => (⟨(hb.cell (block_lt_of_cell k0)).trans k0, (hb.cell (p := ⟨bL, oL + q * 4 + 1, none⟩) (block_lt_of_cell k1)).trans k1, (hb.cell (p := ⟨bL, oL + q * 4 + 2, none⟩) (block_lt_of_cell k2)).trans k2, (hb.cell (p := ⟨bL, oL + q * 4 + 3, none⟩) (block_lt_of_cell k3)).trans k3, (hb.cell gk7.lt).trans z0, (hb.cell gk7.lt).trans z1, (hb.cell gk7.lt).trans z2, (hb.cell gk7.lt).trans z3, hb⟩ : W.cell? ⟨bL, oL + q * 4, none⟩ = some (.int .i64 p.k) ∧ W.cell? ⟨bL, oL + q * 4 + 1, none⟩ = some (.bool p.rows) ∧ W.cell? ⟨bL, oL + q * 4 + 2, none⟩ = some (.int .i64 p.a) ∧ W.cell? ⟨bL, oL + q * 4 + 3, none⟩ = some (.int .i64 p.v) ∧ W.cell? ⟨g7, 0, none⟩ = some (.int .i64 m.k) ∧ W.cell? ⟨g7, 1, none⟩ = some (.bool m.rows) ∧ W.cell? ⟨g7, 2, none⟩ = some (.int .i64 m.a) ∧ W.cell? ⟨g7, 3, none⟩ = some (.int .i64 m.v) ∧ Below w9.heap.size w9 W))
        have HJ := Lib.hid (fun (W W' : World) (hS : W.cell? ⟨bL, oL + q * 4, none⟩ = some (.int .i64 p.k) ∧ W.cell? ⟨bL, oL + q * 4 + 1, none⟩ = some (.bool p.rows) ∧ W.cell? ⟨bL, oL + q * 4 + 2, none⟩ = some (.int .i64 p.a) ∧ W.cell? ⟨bL, oL + q * 4 + 3, none⟩ = some (.int .i64 p.v) ∧ W.cell? ⟨g7, 0, none⟩ = some (.int .i64 m.k) ∧ W.cell? ⟨g7, 1, none⟩ = some (.bool m.rows) ∧ W.cell? ⟨g7, 2, none⟩ = some (.int .i64 m.a) ∧ W.cell? ⟨g7, 3, none⟩ = some (.int .i64 m.v) ∧ Below w9.heap.size w9 W) (hb : Below W.heap.size W W') => Below.trans hS.2.2.2.2.2.2.2.2 (hb.mono hS.2.2.2.2.2.2.2.2.size))
        have HOC := Lib.hid (fun (W : World) => order_any p m W)
        rw [hor] at HOC
        clear hor HORD hq
        have h4 : ¬ m.k = 4 := by have := hkd.2 (by simp); omega
        have u4 : (m.k == 4) = false := by simpa using h4
        have u4b : decide (m.k = 4) = false := by simpa using h4
        clear KS HJ
        go_still_tail 9, (by kernel_rfl)
        change wpList _ _ _ _ _ w9.drew
        have z0d : w9.drew.cell? ⟨g7, 0, none⟩ = some (.int .i64 m.k) := z0
        have hbd : Below w9.heap.size w9 w9.drew := (Below.refl _ _).drew
        have hg7 := gk7.lt
        generalize w9.drew = w9d at *
        clear z0 z1 z2 z3 k0 k1 k2 k3
        go_wp2_with (go_at_call 21; refine (HOC.out _).mono ?_; rintro e w10 ⟨rfl, hb10⟩; have z0' := (hb10.cell (p := ⟨g7, 0, none⟩) (block_lt_of_cell z0d)).trans z0d)
        have hb11 : Below w9.heap.size w9 w10 := hbd.trans (hb10.mono hbd.size)
        clear hb10
        go_roundw
        case rel => exact ⟨k + 1, by omega, by go_num, b1.below hb11 b1.lt, hM1.below hb11, hbr1.trans (hb11.mono hbr1.size)⟩
        case measure => simp [intOf]; omega
    · have u1 : ¬ (k : Int) < (L.length : Int) := by omega
      obtain ⟨wo, rfl⟩ : ∃ wo : World, wo = wr := ⟨_, rfl⟩
      have y0 := b0.cell 0
      go_wp2_with fail
      clear y0
      go_loopg [9, 10] 4 (fun gj s9 s10 wi => ∃ j : Nat, j ≤ 4 ∧ gj = 4 - j ∧ s9 = .int .i64 ((lP X O false j 0 0 0).length : Int) ∧ s10 = .int .i64 ((j : Int) + 1) ∧ Arr wi w.heap.size 24 [.slice A X.length c, .slice A' O.length c'] ∧ Moves wi (.slice AL L.length cL) L ∧ Below w.heap.size w wi)
      case atStart => exact ⟨0, Nat.zero_le _, rfl, rfl, rfl, b0, hM, hbr⟩
      case round =>
        clear b0 hM hbr
        obtain ⟨j, hj, rfl, rfl, rfl, b0, hM, hbr⟩ := hrel
        by_cases hlt4 : j < 4
        · have v1 : (j : Int) + 1 ≤ 4 := by omega
          obtain ⟨wo1, rfl⟩ : ∃ wo1 : World, wo1 = wr := ⟨_, rfl⟩
          go_wp2_with fail
          have hW : Arr (wo1.alloc (.cells #[.bool false, .bool true] 4)) wo1.heap.size 4 [.bool false, .bool true] ∧ Arr (wo1.alloc (.cells #[.bool false, .bool true] 4)) w.heap.size 24 [.slice A X.length c, .slice A' O.length c'] ∧ Moves (wo1.alloc (.cells #[.bool false, .bool true] 4)) (.slice AL L.length cL) L ∧ Below w.heap.size w (wo1.alloc (.cells #[.bool false, .bool true] 4)) := ⟨Arr.new _ _ [_, _], b0.alloc _, hM.below ((Below.refl _ _).alloc (Nat.le_refl _) _), hbr.alloc hbr.size _⟩
          generalize wo1.heap.size = gB at *
          generalize wo1.alloc (.cells #[.bool false, .bool true] 4) = wq at hW ⊢
          clear b0 hM hbr
          obtain ⟨gB0, b0, hM, hbr⟩ := hW
          go_loopg [9, 79] 2 (fun gi s9 s79 wi => ∃ i : Nat, i ≤ 2 ∧ gi = 2 - i ∧ s9 = .int .i64 ((lP X O false j i 0 0).length : Int) ∧ s79 = .int .i64 (i : Int) ∧ Arr wi w.heap.size 24 [.slice A X.length c, .slice A' O.length c'] ∧ Moves wi (.slice AL L.length cL) L ∧ Below w.heap.size w wi ∧ Arr wi gB 4 [.bool false, .bool true])
          case atStart => exact ⟨0, Nat.zero_le _, rfl, rfl, rfl, b0, hM, hbr, gB0⟩
          case round =>
            clear b0 hM hbr gB0
            obtain ⟨i, hi, rfl, rfl, rfl, b0, hM, hbr, gB0⟩ := hrel
            by_cases hi2 : i < 2
            · obtain rfl | rfl : i = 0 ∨ i = 1 := by omega
              · skip
                obtain ⟨wo2, rfl⟩ : ∃ wo2 : World, wo2 = wr := ⟨_, rfl⟩
                have gBc := gB0.cell 0
                go_wp2_with fail
                clear gBc
                go_loopg [9, 85] (X.length + 1) (fun ga s9 s85 wi => ∃ a : Nat, a ≤ X.length + 1 ∧ ga = X.length + 1 - a ∧ s9 = .int .i64 ((lP X O false j 0 a 0).length : Int) ∧ s85 = .int .i64 (a : Int) ∧ Arr wi w.heap.size 24 [.slice A X.length c, .slice A' O.length c'] ∧ Moves wi (.slice AL L.length cL) L ∧ Below w.heap.size w wi ∧ Arr wi gB 4 [.bool false, .bool true])
                case atStart => exact ⟨0, Nat.zero_le _, rfl, rfl, rfl, b0, hM, hbr, gB0⟩
                case round =>
                  clear b0 hM hbr gB0
                  obtain ⟨a, ha, rfl, rfl, rfl, b0, hM, hbr, gB0⟩ := hrel
                  by_cases ha2 : a < X.length + 1
                  · have v2 : (a : Int) < (X.length : Int) + 1 := by omega
                    obtain ⟨wo3, rfl⟩ : ∃ wo3 : World, wo3 = wr := ⟨_, rfl⟩
                    go_wp2_with fail
                    go_loopg [9, 90] (2 * X.length) (fun gu s9 s90 wi => ∃ u : Nat, u ≤ 2 * X.length ∧ gu = 2 * X.length - u ∧ s9 = .int .i64 ((lP X O false j 0 a u).length : Int) ∧ s90 = .int .i64 (u : Int) ∧ Arr wi w.heap.size 24 [.slice A X.length c, .slice A' O.length c'] ∧ Moves wi (.slice AL L.length cL) L ∧ Below w.heap.size w wi ∧ Arr wi gB 4 [.bool false, .bool true])
                    case atStart => exact ⟨0, Nat.zero_le _, rfl, rfl, rfl, b0, hM, hbr, gB0⟩
                    case round =>
                      clear b0 hM hbr gB0
                      obtain ⟨u, hu, rfl, rfl, rfl, b0, hM, hbr, gB0⟩ := hrel
                      have hcl := HLE.out j 0 a u hlt4 (by omega) ha2 hu
                      by_cases hu2 : u < 2 * X.length
                      · have v3 : (u : Int) < 2 * (X.length : Int) := by omega
                        have y0 := (b0.alloc (.cells #[.int .i64 ((j : Int) + 1), .bool false, .int .i64 (a : Int), .int .i64 (u : Int)] 26)).cell 0
                        have y1 := (b0.alloc (.cells #[.int .i64 ((j : Int) + 1), .bool false, .int .i64 (a : Int), .int .i64 (u : Int)] 26)).cell 1
                        have hW : Arr (wr.alloc (.cells #[.int .i64 ((j : Int) + 1), .bool false, .int .i64 (a : Int), .int .i64 (u : Int)] 26)) wr.heap.size 26 [.int .i64 ((j : Int) + 1), .bool false, .int .i64 (a : Int), .int .i64 (u : Int)] ∧ Arr (wr.alloc (.cells #[.int .i64 ((j : Int) + 1), .bool false, .int .i64 (a : Int), .int .i64 (u : Int)] 26)) w.heap.size 24 [.slice A X.length c, .slice A' O.length c'] ∧ Moves (wr.alloc (.cells #[.int .i64 ((j : Int) + 1), .bool false, .int .i64 (a : Int), .int .i64 (u : Int)] 26)) (.slice AL L.length cL) L ∧ Below w.heap.size w (wr.alloc (.cells #[.int .i64 ((j : Int) + 1), .bool false, .int .i64 (a : Int), .int .i64 (u : Int)] 26)) ∧ Arr (wr.alloc (.cells #[.int .i64 ((j : Int) + 1), .bool false, .int .i64 (a : Int), .int .i64 (u : Int)] 26)) gB 4 [.bool false, .bool true] := ⟨Arr.new wr _ [_, _, _, _], b0.alloc _, hM.below ((Below.refl _ _).alloc (Nat.le_refl _) _), hbr.alloc hbr.size _, gB0.alloc _⟩
                        have lb0 := b0.lt
                        go_wp2_with fail
                        clear y0 y1
                        generalize wr.heap.size = g15 at *
                        generalize wr.alloc (.cells #[.int .i64 ((j : Int) + 1), .bool false, .int .i64 (a : Int), .int .i64 (u : Int)] 26) = w9 at hW ⊢
                        clear b0 hM hbr gB0
                        obtain ⟨g15a, b1, hM1, hbr1, gB1⟩ := hW
                        refine (apply_rd _ _ X O ((j : Int) + 1) false (a : Int) (u : Int) _ (hX0.below hbr1) (hO0.below hbr1) (by omega) (by omega)).mono ?_
                        rintro e w10 ⟨hb10, A0, n0, c0, A1, n1, c1, rfl, _, _⟩
                        have HOK := Lib.hid (show okB X O ⟨(j : Int) + 1, decide (0 = 1), a, u⟩ = decide ((applyM X O ((j : Int) + 1) false (a : Int) (u : Int)).1 = 0) from rfl)
                        have b2 := (b1.below hb10 b1.lt).alloc (.cells #[.slice A0 n0 c0, .slice A1 n1 c1] 24)
                        have hM2 := (hM1.below hb10).below ((Below.refl w10.heap.size w10).alloc (Nat.le_refl _) (.cells #[.slice A0 n0 c0, .slice A1 n1 c1] 24))
                        have hbr2 := (hbr1.trans (hb10.mono hbr1.size)).alloc (hbr1.trans (hb10.mono hbr1.size)).size (.cells #[.slice A0 n0 c0, .slice A1 n1 c1] 24)
                        have gB2 := (gB1.below hb10 gB1.lt).alloc (.cells #[.slice A0 n0 c0, .slice A1 n1 c1] 24)
                        have g15 := (g15a.below hb10 g15a.lt).alloc (.cells #[.slice A0 n0 c0, .slice A1 n1 c1] 24)
                        clear b1 hM1 hbr1 gB1 g15a hb10
                        generalize (applyM X O ((j : Int) + 1) false (a : Int) (u : Int)).1 = code at *
                        by_cases hcd : code = 0
                        rotate_left
                        · have u5 : (code != 0) = true := by simpa using hcd
                          have hokL : okL X O false ⟨(j : Int) + 1, decide (0 = 1), a, u⟩ = false := by unfold okL; rw [HOK.out, decide_eq_false hcd]; rfl
                          clear hcd
                          have HN := Lib.hid (show (lP X O false j 0 a (u + 1)).length = (lP X O false j 0 a u).length by rw [lP_no hokL])
                          clear hokL
                          go_wp2_with fail
                          go_roundg (2 * X.length - (u + 1))
                          case measure => omega
                          case rel => exact ⟨u + 1, by omega, rfl, by rw [HN.out], by go_num, b2, hM2, hbr2, gB2⟩
                        subst hcd
                        have HOKt := Lib.hid (show okB X O ⟨(j : Int) + 1, decide (0 = 1), a, u⟩ = true by rw [HOK.out]; rfl)
                        clear HOK
                        by_cases hj3 : (j : Int) + 1 = 4
                        · have u9 : (((j : Int) + 1) == 4) = true := by simpa using hj3
                          have hokL : okL X O false ⟨(j : Int) + 1, decide (0 = 1), a, u⟩ = false := by simp [okL, hj3]
                          clear hj3
                          have HN := Lib.hid (show (lP X O false j 0 a (u + 1)).length = (lP X O false j 0 a u).length by rw [lP_no hokL])
                          clear hokL
                          go_wp2_with fail
                          go_roundg (2 * X.length - (u + 1))
                          case measure => omega
                          case rel => exact ⟨u + 1, by omega, rfl, by rw [HN.out], by go_num, b2, hM2, hbr2, gB2⟩
                        · have u9 : (((j : Int) + 1) == 4) = false := by simpa using hj3
                          have hokL : okL X O false ⟨(j : Int) + 1, decide (0 = 1), a, u⟩ = true := by unfold okL; rw [HOKt.out]; simp [hj3]
                          clear hj3
                          obtain ⟨hl, hget⟩ := HAT.out j 0 a u hlt4 (by omega) ha2 hu2 hokL
                          have HN := Lib.hid (show (lP X O false j 0 a (u + 1)).length = (lP X O false j 0 a u).length + 1 by rw [lP_yes hokL]; simp)
                          clear hokL
                          generalize (lP X O false j 0 a u).length = cnt at *
                          obtain ⟨bL, oL, rfl, hbl, k0, k1, k2, k3⟩ := hM2.at_ hl
                          rw [hget] at k0 k1 k2 k3
                          simp only at k0 k1 k2 k3
                          try rw [show decide (0 = 1) = false from rfl] at k1
                          have u7 : decide ((L.length : Int) ≤ (cnt : Int)) = false := by simp; omega
                          have u8 : (cnt : Int) < (L.length : Int) := by omega
                          have u7b : decide (L.length ≤ cnt) = false := by simp; omega
                          have q0 := g15.cell 0
                          have q1 := g15.cell 1
                          have q2 := g15.cell 2
                          have q3 := g15.cell 3
                          clear hget
                          go_wp2_with fail
                          go_quiet (fail)
                          go_wp2_with fail
                          go_roundg (2 * X.length - (u + 1))
                          case measure => omega
                          case rel => exact ⟨u + 1, by omega, rfl, by rw [HN.out]; go_num, by go_num, b2.drewN _, hM2.below (bdrewN (Below.refl _ _) _), bdrewN hbr2 _, gB2.drewN _⟩
                      · have hu3 : u = 2 * X.length := by omega
                        have v3 : ¬ (u : Int) < 2 * (X.length : Int) := by omega
                        have HN := Lib.hid (show (lP X O false j 0 a u).length = (lP X O false j 0 (a + 1) 0).length by rw [hu3, lP_a])
                        clear hu3
                        go_wp2_with fail
                        go_roundg (X.length + 1 - (a + 1))
                        case measure => omega
                        case rel => exact ⟨a + 1, by omega, rfl, by rw [HN.out], by go_num, b0, hM, hbr, gB0⟩
                  · have ha3 : a = X.length + 1 := by omega
                    have v2 : ¬ (a : Int) < (X.length : Int) + 1 := by omega
                    have HN := Lib.hid (show (lP X O false j 0 a 0).length = (lP X O false j (0 + 1) 0 0).length by rw [ha3, lP_i])
                    clear ha3
                    go_wp2_with fail
                    go_roundg (2 - (0 + 1))
                    case measure => omega
                    case rel => exact ⟨0 + 1, by omega, rfl, by rw [HN.out], by go_num, b0, hM, hbr, gB0⟩
              · skip
                obtain ⟨wo2, rfl⟩ : ∃ wo2 : World, wo2 = wr := ⟨_, rfl⟩
                have gBc := gB0.cell 1
                go_wp2_with fail
                clear gBc
                go_loopg [9, 85] (X.length + 1) (fun ga s9 s85 wi => ∃ a : Nat, a ≤ X.length + 1 ∧ ga = X.length + 1 - a ∧ s9 = .int .i64 ((lP X O false j 1 a 0).length : Int) ∧ s85 = .int .i64 (a : Int) ∧ Arr wi w.heap.size 24 [.slice A X.length c, .slice A' O.length c'] ∧ Moves wi (.slice AL L.length cL) L ∧ Below w.heap.size w wi ∧ Arr wi gB 4 [.bool false, .bool true])
                case atStart => exact ⟨0, Nat.zero_le _, rfl, rfl, rfl, b0, hM, hbr, gB0⟩
                case round =>
                  clear b0 hM hbr gB0
                  obtain ⟨a, ha, rfl, rfl, rfl, b0, hM, hbr, gB0⟩ := hrel
                  by_cases ha2 : a < X.length + 1
                  · have v2 : (a : Int) < (X.length : Int) + 1 := by omega
                    obtain ⟨wo3, rfl⟩ : ∃ wo3 : World, wo3 = wr := ⟨_, rfl⟩
                    go_wp2_with fail
                    go_loopg [9, 90] (2 * X.length) (fun gu s9 s90 wi => ∃ u : Nat, u ≤ 2 * X.length ∧ gu = 2 * X.length - u ∧ s9 = .int .i64 ((lP X O false j 1 a u).length : Int) ∧ s90 = .int .i64 (u : Int) ∧ Arr wi w.heap.size 24 [.slice A X.length c, .slice A' O.length c'] ∧ Moves wi (.slice AL L.length cL) L ∧ Below w.heap.size w wi ∧ Arr wi gB 4 [.bool false, .bool true])
                    case atStart => exact ⟨0, Nat.zero_le _, rfl, rfl, rfl, b0, hM, hbr, gB0⟩
                    case round =>
                      clear b0 hM hbr gB0
                      obtain ⟨u, hu, rfl, rfl, rfl, b0, hM, hbr, gB0⟩ := hrel
                      have hcl := HLE.out j 1 a u hlt4 (by omega) ha2 hu
                      by_cases hu2 : u < 2 * X.length
                      · have v3 : (u : Int) < 2 * (X.length : Int) := by omega
                        have y0 := (b0.alloc (.cells #[.int .i64 ((j : Int) + 1), .bool true, .int .i64 (a : Int), .int .i64 (u : Int)] 26)).cell 0
                        have y1 := (b0.alloc (.cells #[.int .i64 ((j : Int) + 1), .bool true, .int .i64 (a : Int), .int .i64 (u : Int)] 26)).cell 1
                        have hW : Arr (wr.alloc (.cells #[.int .i64 ((j : Int) + 1), .bool true, .int .i64 (a : Int), .int .i64 (u : Int)] 26)) wr.heap.size 26 [.int .i64 ((j : Int) + 1), .bool true, .int .i64 (a : Int), .int .i64 (u : Int)] ∧ Arr (wr.alloc (.cells #[.int .i64 ((j : Int) + 1), .bool true, .int .i64 (a : Int), .int .i64 (u : Int)] 26)) w.heap.size 24 [.slice A X.length c, .slice A' O.length c'] ∧ Moves (wr.alloc (.cells #[.int .i64 ((j : Int) + 1), .bool true, .int .i64 (a : Int), .int .i64 (u : Int)] 26)) (.slice AL L.length cL) L ∧ Below w.heap.size w (wr.alloc (.cells #[.int .i64 ((j : Int) + 1), .bool true, .int .i64 (a : Int), .int .i64 (u : Int)] 26)) ∧ Arr (wr.alloc (.cells #[.int .i64 ((j : Int) + 1), .bool true, .int .i64 (a : Int), .int .i64 (u : Int)] 26)) gB 4 [.bool false, .bool true] := ⟨Arr.new wr _ [_, _, _, _], b0.alloc _, hM.below ((Below.refl _ _).alloc (Nat.le_refl _) _), hbr.alloc hbr.size _, gB0.alloc _⟩
                        have lb0 := b0.lt
                        go_wp2_with fail
                        clear y0 y1
                        generalize wr.heap.size = g15 at *
                        generalize wr.alloc (.cells #[.int .i64 ((j : Int) + 1), .bool true, .int .i64 (a : Int), .int .i64 (u : Int)] 26) = w9 at hW ⊢
                        clear b0 hM hbr gB0
                        obtain ⟨g15a, b1, hM1, hbr1, gB1⟩ := hW
                        refine (apply_rd _ _ X O ((j : Int) + 1) true (a : Int) (u : Int) _ (hX0.below hbr1) (hO0.below hbr1) (by omega) (by omega)).mono ?_
                        rintro e w10 ⟨hb10, A0, n0, c0, A1, n1, c1, rfl, _, _⟩
                        have HOK := Lib.hid (show okB X O ⟨(j : Int) + 1, decide (1 = 1), a, u⟩ = decide ((applyM X O ((j : Int) + 1) true (a : Int) (u : Int)).1 = 0) from rfl)
                        have b2 := (b1.below hb10 b1.lt).alloc (.cells #[.slice A0 n0 c0, .slice A1 n1 c1] 24)
                        have hM2 := (hM1.below hb10).below ((Below.refl w10.heap.size w10).alloc (Nat.le_refl _) (.cells #[.slice A0 n0 c0, .slice A1 n1 c1] 24))
                        have hbr2 := (hbr1.trans (hb10.mono hbr1.size)).alloc (hbr1.trans (hb10.mono hbr1.size)).size (.cells #[.slice A0 n0 c0, .slice A1 n1 c1] 24)
                        have gB2 := (gB1.below hb10 gB1.lt).alloc (.cells #[.slice A0 n0 c0, .slice A1 n1 c1] 24)
                        have g15 := (g15a.below hb10 g15a.lt).alloc (.cells #[.slice A0 n0 c0, .slice A1 n1 c1] 24)
                        clear b1 hM1 hbr1 gB1 g15a hb10
                        generalize (applyM X O ((j : Int) + 1) true (a : Int) (u : Int)).1 = code at *
                        by_cases hcd : code = 0
                        rotate_left
                        · have u5 : (code != 0) = true := by simpa using hcd
                          have hokL : okL X O false ⟨(j : Int) + 1, decide (1 = 1), a, u⟩ = false := by unfold okL; rw [HOK.out, decide_eq_false hcd]; rfl
                          clear hcd
                          have HN := Lib.hid (show (lP X O false j 1 a (u + 1)).length = (lP X O false j 1 a u).length by rw [lP_no hokL])
                          clear hokL
                          go_wp2_with fail
                          go_roundg (2 * X.length - (u + 1))
                          case measure => omega
                          case rel => exact ⟨u + 1, by omega, rfl, by rw [HN.out], by go_num, b2, hM2, hbr2, gB2⟩
                        subst hcd
                        have HOKt := Lib.hid (show okB X O ⟨(j : Int) + 1, decide (1 = 1), a, u⟩ = true by rw [HOK.out]; rfl)
                        clear HOK
                        by_cases hj3 : (j : Int) + 1 = 4
                        · have u9 : (((j : Int) + 1) == 4) = true := by simpa using hj3
                          have hokL : okL X O false ⟨(j : Int) + 1, decide (1 = 1), a, u⟩ = false := by simp [okL, hj3]
                          clear hj3
                          have HN := Lib.hid (show (lP X O false j 1 a (u + 1)).length = (lP X O false j 1 a u).length by rw [lP_no hokL])
                          clear hokL
                          go_wp2_with fail
                          go_roundg (2 * X.length - (u + 1))
                          case measure => omega
                          case rel => exact ⟨u + 1, by omega, rfl, by rw [HN.out], by go_num, b2, hM2, hbr2, gB2⟩
                        · have u9 : (((j : Int) + 1) == 4) = false := by simpa using hj3
                          have hokL : okL X O false ⟨(j : Int) + 1, decide (1 = 1), a, u⟩ = true := by unfold okL; rw [HOKt.out]; simp [hj3]
                          clear hj3
                          obtain ⟨hl, hget⟩ := HAT.out j 1 a u hlt4 (by omega) ha2 hu2 hokL
                          have HN := Lib.hid (show (lP X O false j 1 a (u + 1)).length = (lP X O false j 1 a u).length + 1 by rw [lP_yes hokL]; simp)
                          clear hokL
                          generalize (lP X O false j 1 a u).length = cnt at *
                          obtain ⟨bL, oL, rfl, hbl, k0, k1, k2, k3⟩ := hM2.at_ hl
                          rw [hget] at k0 k1 k2 k3
                          simp only at k0 k1 k2 k3
                          try rw [show decide (1 = 1) = true from rfl] at k1
                          have u7 : decide ((L.length : Int) ≤ (cnt : Int)) = false := by simp; omega
                          have u8 : (cnt : Int) < (L.length : Int) := by omega
                          have u7b : decide (L.length ≤ cnt) = false := by simp; omega
                          have q0 := g15.cell 0
                          have q1 := g15.cell 1
                          have q2 := g15.cell 2
                          have q3 := g15.cell 3
                          clear hget
                          go_wp2_with fail
                          go_quiet (fail)
                          go_wp2_with fail
                          go_roundg (2 * X.length - (u + 1))
                          case measure => omega
                          case rel => exact ⟨u + 1, by omega, rfl, by rw [HN.out]; go_num, by go_num, b2.drewN _, hM2.below (bdrewN (Below.refl _ _) _), bdrewN hbr2 _, gB2.drewN _⟩
                      · have hu3 : u = 2 * X.length := by omega
                        have v3 : ¬ (u : Int) < 2 * (X.length : Int) := by omega
                        have HN := Lib.hid (show (lP X O false j 1 a u).length = (lP X O false j 1 (a + 1) 0).length by rw [hu3, lP_a])
                        clear hu3
                        go_wp2_with fail
                        go_roundg (X.length + 1 - (a + 1))
                        case measure => omega
                        case rel => exact ⟨a + 1, by omega, rfl, by rw [HN.out], by go_num, b0, hM, hbr, gB0⟩
                  · have ha3 : a = X.length + 1 := by omega
                    have v2 : ¬ (a : Int) < (X.length : Int) + 1 := by omega
                    have HN := Lib.hid (show (lP X O false j 1 a 0).length = (lP X O false j (1 + 1) 0 0).length by rw [ha3, lP_i])
                    clear ha3
                    go_wp2_with fail
                    go_roundg (2 - (1 + 1))
                    case measure => omega
                    case rel => exact ⟨1 + 1, by omega, rfl, by rw [HN.out], by go_num, b0, hM, hbr, gB0⟩
            · have hi3 : i = 2 := by omega
              subst hi3
              have HN := Lib.hid (show (lP X O false j 2 0 0).length = (lP X O false (j + 1) 0 0 0).length by rw [lP_j])
              go_wp2_with fail
              go_roundg (4 - (j + 1))
              case measure => omega
              case rel => exact ⟨j + 1, by omega, rfl, by rw [HN.out], by go_num, b0, hM, hbr⟩
        · have hj4 : j = 4 := by omega
          subst hj4
          have v1 : ¬ (((4 : Nat) : Int) + 1 ≤ 4) := by omega
          rw [HEND.out]
          have v4 : ((L.length : Int) == (L.length : Int)) = true := by simp
          go_wp2_with fail
          go_ret
          exact ⟨rfl, hbr⟩

theorem lawAll_any (vx vo : Value) (X O : List Int) (st : Bool) (w : World) (hX : Ints w vx X) (hO : Ints w vo O) :
    Calls Try.prog 7 #[.agg #[vx, vo], .bool st] w fun e w' => e = .returned (.bool true) ∧ Below w.heap.size w w' := by
  by_cases hv : validB X O = true
  · cases st
    · exact lawAll_yes_false vx vo X O w hX hO hv
    · exact lawAll_yes_true vx vo X O w hX hO hv
  · have hv' : validB X O = false := by simpa using hv
    cases st
    · exact lawAll_no_false vx vo X O w hX hO hv'
    · exact lawAll_no_true vx vo X O w hX hO hv'
end Go.Proofs.Ytgclngoeglopcaa
