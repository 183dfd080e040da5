/- gridmove.Apply, but for moves of rows. -/
import Derived.Test.YtgclngoeglopcaaPl1
import Derived.Test.YtgclngoeglopcaaCols
import Derived.Test.YtgclngoeglopcaaPerm
import Derived.KernelRfl
import Derived.Outline
namespace Go.Proofs.Ytgclngoeglopcaa
open Go.RowKit
set_option linter.unusedVariables false

/-- the transposed list -/
def tr (l : List Int) : List Int := reloc mvT true l.length l
def applyM (X O : List Int) (k : Int) (rows : Bool) (a v : Int) : Int × List Int × List Int :=
  if validB X O = false then (1, [], [])
  else if limAt k X.length = 0 then (11, [], [])
  else if a < 0 ∨ limAt k X.length ≤ a ∨ v < 0 ∨ limVar k X.length ≤ v then (2, [], [])
  else if rows = false then colsM X O k a.toNat v.toNat
  else if (colsM (tr X) (tr O) k a.toNat v.toNat).1 = 0 then (0, tr (colsM (tr X) (tr O) k a.toNat v.toNat).2.1, tr (colsM (tr X) (tr O) k a.toNat v.toNat).2.2)
  else ((colsM (tr X) (tr O) k a.toNat v.toNat).1, [], [])

theorem limAt_zero {k n : Int} (hn : 2 ≤ n) : limAt k n = 0 ↔ ¬ (1 ≤ k ∧ k ≤ 4) := by
  unfold limAt
  repeat' split
  all_goals omega
theorem limAt_le {k n : Int} (hn : 2 ≤ n) : limAt k n ≤ n + 1 := by
  unfold limAt
  repeat' split
  all_goals omega
theorem limVar_le {k n : Int} (hn : 2 ≤ n) : limVar k n ≤ 2 * n := by
  unfold limVar
  repeat' split
  all_goals omega

set_option maxHeartbeats 1000000 in
theorem apply_invalid (vx vo : Value) (X O : List Int) (k : Int) (rows : Bool) (a v : Int) (w : World) (hX : Ints w vx X) (hO : Ints w vo O) (hl : X.length ≤ 1000) (hl' : O.length ≤ 1000) (hv : validB X O = false) :
    Calls Try.prog 13 #[.agg #[vx, vo], .agg #[.int .i64 k, .bool rows, .int .i64 a, .int .i64 v]] w (GRes w.heap.size w (applyM X O k rows a v)) := by
  have hfin := Lib.hid (show applyM X O k rows a v = (1, [], []) by simp only [applyM]; rw [if_pos hv])
  have hX0 := hX
  have hO0 := hO
  obtain ⟨A, c, rfl, hc, hh⟩ := hX
  obtain ⟨A', c', rfl, hc', hh'⟩ := hO
  clear hh hh'
  go_enter Try.func13, Try.ntmps13
  go_wp2_with fail
  have hW : Arr (((w.alloc (.cells #[.slice A X.length c, .slice A' O.length c'] 24)).alloc (.cells #[.int .i64 k, .bool rows, .int .i64 a, .int .i64 v] 26)).alloc (.cells #[.slice none 0 0, .slice none 0 0] 24)) w.heap.size 24 [.slice A X.length c, .slice A' O.length c'] ∧ Arr (((w.alloc (.cells #[.slice A X.length c, .slice A' O.length c'] 24)).alloc (.cells #[.int .i64 k, .bool rows, .int .i64 a, .int .i64 v] 26)).alloc (.cells #[.slice none 0 0, .slice none 0 0] 24)) (w.heap.size + 1) 26 [.int .i64 k, .bool rows, .int .i64 a, .int .i64 v] ∧ Arr (((w.alloc (.cells #[.slice A X.length c, .slice A' O.length c'] 24)).alloc (.cells #[.int .i64 k, .bool rows, .int .i64 a, .int .i64 v] 26)).alloc (.cells #[.slice none 0 0, .slice none 0 0] 24)) (w.heap.size + 2) 24 [.slice none 0 0, .slice none 0 0] ∧ Below w.heap.size w (((w.alloc (.cells #[.slice A X.length c, .slice A' O.length c'] 24)).alloc (.cells #[.int .i64 k, .bool rows, .int .i64 a, .int .i64 v] 26)).alloc (.cells #[.slice none 0 0, .slice none 0 0] 24)) ∧ (((w.alloc (.cells #[.slice A X.length c, .slice A' O.length c'] 24)).alloc (.cells #[.int .i64 k, .bool rows, .int .i64 a, .int .i64 v] 26)).alloc (.cells #[.slice none 0 0, .slice none 0 0] 24)).heap.size = w.heap.size + 3 :=
    ⟨((Arr.new _ _ [_, _]).alloc _).alloc _, (Arr.newAt (w.alloc _) _ [_, _, _, _] _ (by simp)).alloc _, Arr.newAt ((w.alloc _).alloc _) _ [_, _] _ (by simp),
      (((Below.refl _ _).alloc (Nat.le_refl _) _).alloc (by simp) _).alloc (by simp <;> omega) _, by simp⟩
  generalize (((w.alloc (.cells #[.slice A X.length c, .slice A' O.length c'] 24)).alloc (.cells #[.int .i64 k, .bool rows, .int .i64 a, .int .i64 v] 26)).alloc (.cells #[.slice none 0 0, .slice none 0 0] 24)) = w4 at hW ⊢
  obtain ⟨q0, q1, q2, hb4, hs4⟩ := hW
  refine (valid_any _ _ X O _ (hX0.below hb4) (hO0.below hb4) hl hl').mono ?_
  rintro e w5 ⟨rfl, hb5⟩
  have hbw5 := hb4.trans (hb5.mono hb4.size)
  have p0 := q0.below hb5 q0.lt
  have p1 := q1.below hb5 q1.lt
  have p2 := q2.below hb5 q2.lt
  have hsz := hb5.size
  rw [hs4] at hsz
  clear q0 q1 q2 hb5 hb4 hs4
  have y0 := p0.cell 0
  have y1 := p0.cell 1
  have z0 := p1.cell 0
  have z1 := p1.cell 1
  have z2 := p1.cell 2
  have z3 := p1.cell 3
  have y2 := p2.cell 0
  have y3 := p2.cell 1
  have y4 := p2.frozen 0
  have y5 := p2.frozen 1
  rw [hv]
  have hzr := Lib.hid ((p2.set 0 (.slice none 0 0)).set 1 (.slice none 0 0))
  go_wp2_with fail
  refine bodyPost_ret (v := .tuple #[.agg #[.slice none 0 0, .slice none 0 0], .int .i64 1]) (results_ct Try.results13 _ _ (w.heap.size + 2) 24 _ _ rfl hzr.out Try.underlying24 rfl info_grid) rfl ?_
  rw [hfin.out]
  exact GRes.err (by decide) (bset2 (r := w.heap.size + 2) hbw5 (by omega))

set_option maxHeartbeats 1000000 in
theorem apply_kind (vx vo : Value) (X O : List Int) (k : Int) (rows : Bool) (a v : Int) (w : World) (hX : Ints w vx X) (hO : Ints w vo O) (hl : X.length ≤ 1000) (hl' : O.length ≤ 1000) (hv : validB X O = true) (hk : limAt k X.length = 0) :
    Calls Try.prog 13 #[.agg #[vx, vo], .agg #[.int .i64 k, .bool rows, .int .i64 a, .int .i64 v]] w (GRes w.heap.size w (applyM X O k rows a v)) := by
  have hfin := Lib.hid (show applyM X O k rows a v = (11, [], []) by simp only [applyM]; rw [if_neg (by simp [hv]), if_pos hk])
  have HK := Lib.hid hk
  clear hk
  have hX0 := hX
  have hO0 := hO
  obtain ⟨A, c, rfl, hc, hh⟩ := hX
  obtain ⟨A', c', rfl, hc', hh'⟩ := hO
  clear hh hh'
  go_enter Try.func13, Try.ntmps13
  go_wp2_with fail
  have hW : Arr (((w.alloc (.cells #[.slice A X.length c, .slice A' O.length c'] 24)).alloc (.cells #[.int .i64 k, .bool rows, .int .i64 a, .int .i64 v] 26)).alloc (.cells #[.slice none 0 0, .slice none 0 0] 24)) w.heap.size 24 [.slice A X.length c, .slice A' O.length c'] ∧ Arr (((w.alloc (.cells #[.slice A X.length c, .slice A' O.length c'] 24)).alloc (.cells #[.int .i64 k, .bool rows, .int .i64 a, .int .i64 v] 26)).alloc (.cells #[.slice none 0 0, .slice none 0 0] 24)) (w.heap.size + 1) 26 [.int .i64 k, .bool rows, .int .i64 a, .int .i64 v] ∧ Arr (((w.alloc (.cells #[.slice A X.length c, .slice A' O.length c'] 24)).alloc (.cells #[.int .i64 k, .bool rows, .int .i64 a, .int .i64 v] 26)).alloc (.cells #[.slice none 0 0, .slice none 0 0] 24)) (w.heap.size + 2) 24 [.slice none 0 0, .slice none 0 0] ∧ Below w.heap.size w (((w.alloc (.cells #[.slice A X.length c, .slice A' O.length c'] 24)).alloc (.cells #[.int .i64 k, .bool rows, .int .i64 a, .int .i64 v] 26)).alloc (.cells #[.slice none 0 0, .slice none 0 0] 24)) ∧ (((w.alloc (.cells #[.slice A X.length c, .slice A' O.length c'] 24)).alloc (.cells #[.int .i64 k, .bool rows, .int .i64 a, .int .i64 v] 26)).alloc (.cells #[.slice none 0 0, .slice none 0 0] 24)).heap.size = w.heap.size + 3 :=
    ⟨((Arr.new _ _ [_, _]).alloc _).alloc _, (Arr.newAt (w.alloc _) _ [_, _, _, _] _ (by simp)).alloc _, Arr.newAt ((w.alloc _).alloc _) _ [_, _] _ (by simp),
      (((Below.refl _ _).alloc (Nat.le_refl _) _).alloc (by simp) _).alloc (by simp <;> omega) _, by simp⟩
  generalize (((w.alloc (.cells #[.slice A X.length c, .slice A' O.length c'] 24)).alloc (.cells #[.int .i64 k, .bool rows, .int .i64 a, .int .i64 v] 26)).alloc (.cells #[.slice none 0 0, .slice none 0 0] 24)) = w4 at hW ⊢
  obtain ⟨q0, q1, q2, hb4, hs4⟩ := hW
  refine (valid_any _ _ X O _ (hX0.below hb4) (hO0.below hb4) hl hl').mono ?_
  rintro e w5 ⟨rfl, hb5⟩
  have hbw5 := hb4.trans (hb5.mono hb4.size)
  have p0 := q0.below hb5 q0.lt
  have p1 := q1.below hb5 q1.lt
  have p2 := q2.below hb5 q2.lt
  have hsz := hb5.size
  rw [hs4] at hsz
  clear q0 q1 q2 hb5 hb4 hs4
  have y0 := p0.cell 0
  have y1 := p0.cell 1
  have z0 := p1.cell 0
  have z1 := p1.cell 1
  have z2 := p1.cell 2
  have z3 := p1.cell 3
  have y2 := p2.cell 0
  have y3 := p2.cell 1
  have y4 := p2.frozen 0
  have y5 := p2.frozen 1
  rw [hv]
  have hzr := Lib.hid ((p2.set 0 (.slice none 0 0)).set 1 (.slice none 0 0))
  go_wp2_with fail
  refine (limits_any k X.length _ (by omega) (by have := (validB_facts hv).2.1; omega)).mono ?_
  rintro e w6 ⟨rfl, rfl⟩
  rw [HK.out]
  go_wp2_with fail
  refine bodyPost_ret (v := .tuple #[.agg #[.slice none 0 0, .slice none 0 0], .int .i64 11]) (results_ct Try.results13 _ _ (w.heap.size + 2) 24 _ _ rfl hzr.out Try.underlying24 rfl info_grid) rfl ?_
  rw [hfin.out]
  exact GRes.err (by decide) (bset2 (r := w.heap.size + 2) hbw5 (by omega))

set_option maxHeartbeats 1000000 in
theorem apply_range (vx vo : Value) (X O : List Int) (k : Int) (rows : Bool) (a v : Int) (w : World) (hX : Ints w vx X) (hO : Ints w vo O) (hl : X.length ≤ 1000) (hl' : O.length ≤ 1000) (hv : validB X O = true) (hk : ¬ limAt k X.length = 0) (hr : a < 0 ∨ limAt k X.length ≤ a ∨ v < 0 ∨ limVar k X.length ≤ v) :
    Calls Try.prog 13 #[.agg #[vx, vo], .agg #[.int .i64 k, .bool rows, .int .i64 a, .int .i64 v]] w (GRes w.heap.size w (applyM X O k rows a v)) := by
  have hfin := Lib.hid (show applyM X O k rows a v = (2, [], []) by simp only [applyM]; rw [if_neg (by simp [hv]), if_neg hk, if_pos hr])
  have hd : (limAt k X.length == 0) = false := by simpa using hk
  clear hk
  have hX0 := hX
  have hO0 := hO
  obtain ⟨A, c, rfl, hc, hh⟩ := hX
  obtain ⟨A', c', rfl, hc', hh'⟩ := hO
  clear hh hh'
  go_enter Try.func13, Try.ntmps13
  go_wp2_with fail
  have hW : Arr (((w.alloc (.cells #[.slice A X.length c, .slice A' O.length c'] 24)).alloc (.cells #[.int .i64 k, .bool rows, .int .i64 a, .int .i64 v] 26)).alloc (.cells #[.slice none 0 0, .slice none 0 0] 24)) w.heap.size 24 [.slice A X.length c, .slice A' O.length c'] ∧ Arr (((w.alloc (.cells #[.slice A X.length c, .slice A' O.length c'] 24)).alloc (.cells #[.int .i64 k, .bool rows, .int .i64 a, .int .i64 v] 26)).alloc (.cells #[.slice none 0 0, .slice none 0 0] 24)) (w.heap.size + 1) 26 [.int .i64 k, .bool rows, .int .i64 a, .int .i64 v] ∧ Arr (((w.alloc (.cells #[.slice A X.length c, .slice A' O.length c'] 24)).alloc (.cells #[.int .i64 k, .bool rows, .int .i64 a, .int .i64 v] 26)).alloc (.cells #[.slice none 0 0, .slice none 0 0] 24)) (w.heap.size + 2) 24 [.slice none 0 0, .slice none 0 0] ∧ Below w.heap.size w (((w.alloc (.cells #[.slice A X.length c, .slice A' O.length c'] 24)).alloc (.cells #[.int .i64 k, .bool rows, .int .i64 a, .int .i64 v] 26)).alloc (.cells #[.slice none 0 0, .slice none 0 0] 24)) ∧ (((w.alloc (.cells #[.slice A X.length c, .slice A' O.length c'] 24)).alloc (.cells #[.int .i64 k, .bool rows, .int .i64 a, .int .i64 v] 26)).alloc (.cells #[.slice none 0 0, .slice none 0 0] 24)).heap.size = w.heap.size + 3 :=
    ⟨((Arr.new _ _ [_, _]).alloc _).alloc _, (Arr.newAt (w.alloc _) _ [_, _, _, _] _ (by simp)).alloc _, Arr.newAt ((w.alloc _).alloc _) _ [_, _] _ (by simp),
      (((Below.refl _ _).alloc (Nat.le_refl _) _).alloc (by simp) _).alloc (by simp <;> omega) _, by simp⟩
  generalize (((w.alloc (.cells #[.slice A X.length c, .slice A' O.length c'] 24)).alloc (.cells #[.int .i64 k, .bool rows, .int .i64 a, .int .i64 v] 26)).alloc (.cells #[.slice none 0 0, .slice none 0 0] 24)) = w4 at hW ⊢
  obtain ⟨q0, q1, q2, hb4, hs4⟩ := hW
  refine (valid_any _ _ X O _ (hX0.below hb4) (hO0.below hb4) hl hl').mono ?_
  rintro e w5 ⟨rfl, hb5⟩
  have hbw5 := hb4.trans (hb5.mono hb4.size)
  have p0 := q0.below hb5 q0.lt
  have p1 := q1.below hb5 q1.lt
  have p2 := q2.below hb5 q2.lt
  have hsz := hb5.size
  rw [hs4] at hsz
  clear q0 q1 q2 hb5 hb4 hs4
  have y0 := p0.cell 0
  have y1 := p0.cell 1
  have z0 := p1.cell 0
  have z1 := p1.cell 1
  have z2 := p1.cell 2
  have z3 := p1.cell 3
  have y2 := p2.cell 0
  have y3 := p2.cell 1
  have y4 := p2.frozen 0
  have y5 := p2.frozen 1
  rw [hv]
  have hzr := Lib.hid ((p2.set 0 (.slice none 0 0)).set 1 (.slice none 0 0))
  go_wp2_with fail
  refine (limits_any k X.length _ (by omega) (by have := (validB_facts hv).2.1; omega)).mono ?_
  rintro e w6 ⟨rfl, rfl⟩
  generalize limAt k X.length = la at *
  generalize limVar k X.length = lv at *
  by_cases t1 : a < 0
  · go_wp2_with fail
    refine bodyPost_ret (v := .tuple #[.agg #[.slice none 0 0, .slice none 0 0], .int .i64 2]) (results_ct Try.results13 _ _ (w.heap.size + 2) 24 _ _ rfl hzr.out Try.underlying24 rfl info_grid) rfl ?_
    rw [hfin.out]
    exact GRes.err (by decide) (bset2 (r := w.heap.size + 2) hbw5 (by omega))
  by_cases t2 : la ≤ a
  · have t1' : 0 ≤ a := by omega
    clear t1
    go_wp2_with fail
    refine bodyPost_ret (v := .tuple #[.agg #[.slice none 0 0, .slice none 0 0], .int .i64 2]) (results_ct Try.results13 _ _ (w.heap.size + 2) 24 _ _ rfl hzr.out Try.underlying24 rfl info_grid) rfl ?_
    rw [hfin.out]
    exact GRes.err (by decide) (bset2 (r := w.heap.size + 2) hbw5 (by omega))
  by_cases t3 : v < 0
  · have t1' : 0 ≤ a := by omega
    have t2' : a < la := by omega
    clear t1 t2
    go_wp2_with fail
    refine bodyPost_ret (v := .tuple #[.agg #[.slice none 0 0, .slice none 0 0], .int .i64 2]) (results_ct Try.results13 _ _ (w.heap.size + 2) 24 _ _ rfl hzr.out Try.underlying24 rfl info_grid) rfl ?_
    rw [hfin.out]
    exact GRes.err (by decide) (bset2 (r := w.heap.size + 2) hbw5 (by omega))
  have t1' : 0 ≤ a := by omega
  have t2' : a < la := by omega
  have t3' : 0 ≤ v := by omega
  have t4 : lv ≤ v := by omega
  have u1 : decide (a < 0) = false := by simp; omega
  have u2 : decide (la ≤ a) = false := by simp; omega
  have u3 : decide (v < 0) = false := by simp; omega
  have u4 : decide (lv ≤ v) = true := by simp; omega
  clear t1 t2 t3 hr
  go_wp2_with fail
  refine bodyPost_ret (v := .tuple #[.agg #[.slice none 0 0, .slice none 0 0], .int .i64 2]) (results_ct Try.results13 _ _ (w.heap.size + 2) 24 _ _ rfl hzr.out Try.underlying24 rfl info_grid) rfl ?_
  rw [hfin.out]
  exact GRes.err (by decide) (bset2 (r := w.heap.size + 2) hbw5 (by omega))

set_option maxHeartbeats 1000000 in
theorem apply_cols (vx vo : Value) (X O : List Int) (k : Int) (rows : Bool) (a v : Int) (w : World) (hX : Ints w vx X) (hO : Ints w vo O) (hl : X.length ≤ 1000) (hl' : O.length ≤ 1000) (hv : validB X O = true) (hk : ¬ limAt k X.length = 0) (hr : ¬ (a < 0 ∨ limAt k X.length ≤ a ∨ v < 0 ∨ limVar k X.length ≤ v)) :
    Calls Try.prog 13 #[.agg #[vx, vo], .agg #[.int .i64 k, .bool false, .int .i64 a, .int .i64 v]] w (GRes w.heap.size w (applyM X O k false a v)) := by
  have hfin := Lib.hid (show applyM X O k false a v = colsM X O k a.toNat v.toNat by simp only [applyM]; rw [if_neg (by simp [hv]), if_neg hk, if_neg hr, if_pos trivial])
  have hd : (limAt k X.length == 0) = false := by simpa using hk
  have vf := Lib.hid (validB_facts hv)
  have hkk := (not_congr (limAt_zero (k := k) (n := X.length) (by have := vf.out.1; omega))).1 hk
  have HK := Lib.hid (Decidable.not_not.1 hkk)
  have HR := Lib.hid hr
  have r1 : 0 ≤ a := by omega
  have r2 : a < limAt k X.length := by omega
  have r3 : 0 ≤ v := by omega
  have r4 : v < limVar k X.length := by omega
  clear hk hkk hr
  obtain ⟨a, rfl⟩ := Int.eq_ofNat_of_zero_le r1
  obtain ⟨v, rfl⟩ := Int.eq_ofNat_of_zero_le r3
  rw [Int.toNat_natCast, Int.toNat_natCast] at hfin
  have hX0 := hX
  have hO0 := hO
  obtain ⟨A, c, rfl, hc, hh⟩ := hX
  obtain ⟨A', c', rfl, hc', hh'⟩ := hO
  clear hh hh'
  go_enter Try.func13, Try.ntmps13
  go_wp2_with fail
  have hW : Arr (((w.alloc (.cells #[.slice A X.length c, .slice A' O.length c'] 24)).alloc (.cells #[.int .i64 k, .bool false, .int .i64 (a : Int), .int .i64 (v : Int)] 26)).alloc (.cells #[.slice none 0 0, .slice none 0 0] 24)) w.heap.size 24 [.slice A X.length c, .slice A' O.length c'] ∧ Arr (((w.alloc (.cells #[.slice A X.length c, .slice A' O.length c'] 24)).alloc (.cells #[.int .i64 k, .bool false, .int .i64 (a : Int), .int .i64 (v : Int)] 26)).alloc (.cells #[.slice none 0 0, .slice none 0 0] 24)) (w.heap.size + 1) 26 [.int .i64 k, .bool false, .int .i64 (a : Int), .int .i64 (v : Int)] ∧ Arr (((w.alloc (.cells #[.slice A X.length c, .slice A' O.length c'] 24)).alloc (.cells #[.int .i64 k, .bool false, .int .i64 (a : Int), .int .i64 (v : Int)] 26)).alloc (.cells #[.slice none 0 0, .slice none 0 0] 24)) (w.heap.size + 2) 24 [.slice none 0 0, .slice none 0 0] ∧ Below w.heap.size w (((w.alloc (.cells #[.slice A X.length c, .slice A' O.length c'] 24)).alloc (.cells #[.int .i64 k, .bool false, .int .i64 (a : Int), .int .i64 (v : Int)] 26)).alloc (.cells #[.slice none 0 0, .slice none 0 0] 24)) ∧ (((w.alloc (.cells #[.slice A X.length c, .slice A' O.length c'] 24)).alloc (.cells #[.int .i64 k, .bool false, .int .i64 (a : Int), .int .i64 (v : Int)] 26)).alloc (.cells #[.slice none 0 0, .slice none 0 0] 24)).heap.size = w.heap.size + 3 :=
    ⟨((Arr.new _ _ [_, _]).alloc _).alloc _, (Arr.newAt (w.alloc _) _ [_, _, _, _] _ (by simp)).alloc _, Arr.newAt ((w.alloc _).alloc _) _ [_, _] _ (by simp),
      (((Below.refl _ _).alloc (Nat.le_refl _) _).alloc (by simp) _).alloc (by simp <;> omega) _, by simp⟩
  generalize (((w.alloc (.cells #[.slice A X.length c, .slice A' O.length c'] 24)).alloc (.cells #[.int .i64 k, .bool false, .int .i64 (a : Int), .int .i64 (v : Int)] 26)).alloc (.cells #[.slice none 0 0, .slice none 0 0] 24)) = w4 at hW ⊢
  obtain ⟨q0, q1, q2, hb4, hs4⟩ := hW
  refine (valid_any _ _ X O _ (hX0.below hb4) (hO0.below hb4) hl hl').mono ?_
  rintro e w5 ⟨rfl, hb5⟩
  have hbw5 := hb4.trans (hb5.mono hb4.size)
  have p0 := q0.below hb5 q0.lt
  have p1 := q1.below hb5 q1.lt
  have p2 := q2.below hb5 q2.lt
  have hsz := hb5.size
  rw [hs4] at hsz
  clear q0 q1 q2 hb5 hb4 hs4
  have y0 := p0.cell 0
  have y1 := p0.cell 1
  have z0 := p1.cell 0
  have z1 := p1.cell 1
  have z2 := p1.cell 2
  have z3 := p1.cell 3
  have y2 := p2.cell 0
  have y3 := p2.cell 1
  have y4 := p2.frozen 0
  have y5 := p2.frozen 1
  rw [hv]
  go_wp2_with fail
  refine (limits_any k X.length _ (by omega) (by have := (validB_facts hv).2.1; omega)).mono ?_
  rintro e w6 ⟨rfl, rfl⟩
  have HC := Lib.hid (columns_any (.slice A X.length c) (.slice A' O.length c') X O false a v w5 (hX0.below hbw5) (hO0.below hbw5) vf.out.2.1 vf.out.1 vf.out.2.2.1 vf.out.2.2.2.1 vf.out.2.2.2.2 k HK.out r2 r4)
  generalize limAt k X.length = la at *
  generalize limVar k X.length = lv at *
  have u1 : decide ((a : Int) < 0) = false := by simp
  have u2 : decide (la ≤ (a : Int)) = false := by simp; omega
  have u3 : decide ((v : Int) < 0) = false := by simp
  have u4 : decide (lv ≤ (v : Int)) = false := by simp; omega
  go_wp2_with fail
  clear u1 u2 u3 u4
  refine HC.out.mono ?_
  rintro e w6 ⟨hb6, v6, rfl, hres⟩
  have hr := p2.below hb6 p2.lt
  have hbw6 := hbw5.trans (hb6.mono hbw5.size)
  have hlt6 := p2.lt
  clear y0 y1 y2 y3 y4 y5 z0 z1 z2 z3 HC
  have s0 := hr.cell 0
  have s1 := hr.cell 1
  have s2 := hr.frozen 0
  have s3 := hr.frozen 1
  generalize colsM X O k a v = R at *
  obtain ⟨R1, R2, R3⟩ := R
  by_cases h0 : R1 = 0
  · subst h0
    rw [if_pos rfl] at hres
    obtain ⟨gx, go, rfl, e1, e2, e3, a1, a2⟩ := hres
    have hres := Lib.hid ((hr.set 0 (.slice (some ⟨gx, 0, none⟩) R2.length R2.length)).set 1 (.slice (some ⟨go, 0, none⟩) R3.length R3.length))
    go_wp2_with fail
    refine bodyPost_ret (v := .tuple #[.agg #[.slice (some ⟨gx, 0, none⟩) R2.length R2.length, .slice (some ⟨go, 0, none⟩) R3.length R3.length], .int .i64 0]) (results_ct Try.results13 _ _ (w.heap.size + 2) 24 _ _ rfl hres.out Try.underlying24 rfl info_grid) rfl ?_
    rw [hfin.out]
    exact GRes.ok (bset2 (r := w.heap.size + 2) hbw6 (by omega)) ⟨gx, go, rfl, e1, by omega, by omega, a1.far2 (r := w.heap.size + 2) (by omega), a2.far2 (r := w.heap.size + 2) (by omega)⟩
  · rw [if_neg h0] at hres
    subst hres
    have hres := Lib.hid ((hr.set 0 (.slice none 0 0)).set 1 (.slice none 0 0))
    go_wp2_with fail
    refine bodyPost_ret (v := .tuple #[.agg #[.slice none 0 0, .slice none 0 0], .int .i64 R1]) (results_ct Try.results13 _ _ (w.heap.size + 2) 24 _ _ rfl hres.out Try.underlying24 rfl info_grid) rfl ?_
    rw [hfin.out]
    exact ⟨bset2 (r := w.heap.size + 2) hbw6 (by omega), _, rfl, by rw [if_neg h0]⟩
end Go.Proofs.Ytgclngoeglopcaa
