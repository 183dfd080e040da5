/- gridmove.Apply, but for moves of rows. -/
/- gridmove.Apply for moves of rows. -/
/- Plain facts: lists that are permutations; where relocate lays what. -/
import Derived.Test.YteigjfdgijaifaaDoorZPl1
import Derived.Test.YteigjfdgijaifaaDoorZPerm
import Derived.KernelRfl
import Derived.Outline
import Derived.Deep.RegionHeld3
import Derived.Deep.DeepCutAuto
namespace Go.Proofs.YteigjfdgijaifaaDoor
open Go.RowKit
set_option linter.unusedVariables false

/-- the transposed list -/
def tr (l : List Int) : List Int := reloc mvT true l.length l
def applyM (X O : List Int) (k : Int) (rows : Bool) (a v : Int) : Int × List Int × List Int :=
  if validB X O = false then (1, [], [])
  else if limAt k X.length = 0 then (11, [], [])
  else if a < 0 ∨ limAt k X.length ≤ a ∨ v < 0 ∨ limVar k X.length ≤ v then (2, [], [])
  else if rows = false then colsM X O k a.toNat v.toNat
  else if (colsM (tr X) (tr O) k a.toNat v.toNat).1 = 0 then (0, tr (colsM (tr X) (tr O) k a.toNat v.toNat).2.1, tr (colsM (tr X) (tr O) k a.toNat v.toNat).2.2)
  else ((colsM (tr X) (tr O) k a.toNat v.toNat).1, [], [])

theorem limAt_zero {k n : Int} (hn : 2 ≤ n) : limAt k n = 0 ↔ ¬ (1 ≤ k ∧ k ≤ 4) := by
  unfold limAt
  repeat' split
  all_goals omega
theorem limAt_le {k n : Int} (hn : 2 ≤ n) : limAt k n ≤ n + 1 := by
  unfold limAt
  repeat' split
  all_goals omega
theorem limVar_le {k n : Int} (hn : 2 ≤ n) : limVar k n ≤ 2 * n := by
  unfold limVar
  repeat' split
  all_goals omega

set_option maxHeartbeats 1000000 in
theorem apply_invalid (vx vo : Value) (X O : List Int) (k : Int) (rows : Bool) (a v : Int) (w : World) (hX : Ints w vx X) (hO : Ints w vo O) (hl : X.length ≤ 1000) (hl' : O.length ≤ 1000) (hv : validB X O = false) :
    Calls Tryd.prog 11 #[.agg #[vx, vo], .agg #[.int .i64 k, .bool rows, .int .i64 a, .int .i64 v]] w (GRes w.heap.size w (applyM X O k rows a v)) := by
  have hfin := Lib.hid (show applyM X O k rows a v = (1, [], []) by simp only [applyM]; rw [if_pos hv])
  have hX0 := hX
  have hO0 := hO
  obtain ⟨A, c, rfl, hc, hh⟩ := hX
  obtain ⟨A', c', rfl, hc', hh'⟩ := hO
  clear hh hh'
  go_enter Tryd.func11, Tryd.ntmps11
  go_wp2_with fail
  have hW : Arr (((w.alloc (.cells #[.slice A X.length c, .slice A' O.length c'] 26)).alloc (.cells #[.int .i64 k, .bool rows, .int .i64 a, .int .i64 v] 37)).alloc (.cells #[.slice none 0 0, .slice none 0 0] 26)) w.heap.size 26 [.slice A X.length c, .slice A' O.length c'] ∧ Arr (((w.alloc (.cells #[.slice A X.length c, .slice A' O.length c'] 26)).alloc (.cells #[.int .i64 k, .bool rows, .int .i64 a, .int .i64 v] 37)).alloc (.cells #[.slice none 0 0, .slice none 0 0] 26)) (w.heap.size + 1) 37 [.int .i64 k, .bool rows, .int .i64 a, .int .i64 v] ∧ Arr (((w.alloc (.cells #[.slice A X.length c, .slice A' O.length c'] 26)).alloc (.cells #[.int .i64 k, .bool rows, .int .i64 a, .int .i64 v] 37)).alloc (.cells #[.slice none 0 0, .slice none 0 0] 26)) (w.heap.size + 2) 26 [.slice none 0 0, .slice none 0 0] ∧ Below w.heap.size w (((w.alloc (.cells #[.slice A X.length c, .slice A' O.length c'] 26)).alloc (.cells #[.int .i64 k, .bool rows, .int .i64 a, .int .i64 v] 37)).alloc (.cells #[.slice none 0 0, .slice none 0 0] 26)) ∧ (((w.alloc (.cells #[.slice A X.length c, .slice A' O.length c'] 26)).alloc (.cells #[.int .i64 k, .bool rows, .int .i64 a, .int .i64 v] 37)).alloc (.cells #[.slice none 0 0, .slice none 0 0] 26)).heap.size = w.heap.size + 3 :=
    ⟨((Arr.new _ _ [_, _]).alloc _).alloc _, (Arr.newAt (w.alloc _) _ [_, _, _, _] _ (by simp)).alloc _, Arr.newAt ((w.alloc _).alloc _) _ [_, _] _ (by simp),
      (((Below.refl _ _).alloc (Nat.le_refl _) _).alloc (by simp) _).alloc (by simp <;> omega) _, by simp⟩
  generalize (((w.alloc (.cells #[.slice A X.length c, .slice A' O.length c'] 26)).alloc (.cells #[.int .i64 k, .bool rows, .int .i64 a, .int .i64 v] 37)).alloc (.cells #[.slice none 0 0, .slice none 0 0] 26)) = w4 at hW ⊢
  obtain ⟨q0, q1, q2, hb4, hs4⟩ := hW
  refine (valid_any _ _ X O _ (hX0.below hb4) (hO0.below hb4) hl hl').mono ?_
  rintro e w5 ⟨rfl, hb5⟩
  have hbw5 := hb4.trans (hb5.mono hb4.size)
  have p0 := q0.below hb5 q0.lt
  have p1 := q1.below hb5 q1.lt
  have p2 := q2.below hb5 q2.lt
  have hsz := hb5.size
  rw [hs4] at hsz
  clear q0 q1 q2 hb5 hb4 hs4
  have y0 := p0.cell 0
  have y1 := p0.cell 1
  have z0 := p1.cell 0
  have z1 := p1.cell 1
  have z2 := p1.cell 2
  have z3 := p1.cell 3
  have y2 := p2.cell 0
  have y3 := p2.cell 1
  have y4 := p2.frozen 0
  have y5 := p2.frozen 1
  rw [hv]
  have hzr := Lib.hid ((p2.set 0 (.slice none 0 0)).set 1 (.slice none 0 0))
  go_wp2_with fail
  refine bodyPost_ret (v := .tuple #[.agg #[.slice none 0 0, .slice none 0 0], .int .i64 1]) (results_ct Tryd.results11 _ _ (w.heap.size + 2) 26 _ _ rfl hzr.out Tryd.underlying26 rfl info_grid) rfl ?_
  rw [hfin.out]
  exact GRes.err (by decide) (bset2 (r := w.heap.size + 2) hbw5 (by omega))

set_option maxHeartbeats 1000000 in
theorem apply_kind (vx vo : Value) (X O : List Int) (k : Int) (rows : Bool) (a v : Int) (w : World) (hX : Ints w vx X) (hO : Ints w vo O) (hl : X.length ≤ 1000) (hl' : O.length ≤ 1000) (hv : validB X O = true) (hk : limAt k X.length = 0) :
    Calls Tryd.prog 11 #[.agg #[vx, vo], .agg #[.int .i64 k, .bool rows, .int .i64 a, .int .i64 v]] w (GRes w.heap.size w (applyM X O k rows a v)) := by
  have hfin := Lib.hid (show applyM X O k rows a v = (11, [], []) by simp only [applyM]; rw [if_neg (by simp [hv]), if_pos hk])
  have HK := Lib.hid hk
  clear hk
  have hX0 := hX
  have hO0 := hO
  obtain ⟨A, c, rfl, hc, hh⟩ := hX
  obtain ⟨A', c', rfl, hc', hh'⟩ := hO
  clear hh hh'
  go_enter Tryd.func11, Tryd.ntmps11
  go_wp2_with fail
  have hW : Arr (((w.alloc (.cells #[.slice A X.length c, .slice A' O.length c'] 26)).alloc (.cells #[.int .i64 k, .bool rows, .int .i64 a, .int .i64 v] 37)).alloc (.cells #[.slice none 0 0, .slice none 0 0] 26)) w.heap.size 26 [.slice A X.length c, .slice A' O.length c'] ∧ Arr (((w.alloc (.cells #[.slice A X.length c, .slice A' O.length c'] 26)).alloc (.cells #[.int .i64 k, .bool rows, .int .i64 a, .int .i64 v] 37)).alloc (.cells #[.slice none 0 0, .slice none 0 0] 26)) (w.heap.size + 1) 37 [.int .i64 k, .bool rows, .int .i64 a, .int .i64 v] ∧ Arr (((w.alloc (.cells #[.slice A X.length c, .slice A' O.length c'] 26)).alloc (.cells #[.int .i64 k, .bool rows, .int .i64 a, .int .i64 v] 37)).alloc (.cells #[.slice none 0 0, .slice none 0 0] 26)) (w.heap.size + 2) 26 [.slice none 0 0, .slice none 0 0] ∧ Below w.heap.size w (((w.alloc (.cells #[.slice A X.length c, .slice A' O.length c'] 26)).alloc (.cells #[.int .i64 k, .bool rows, .int .i64 a, .int .i64 v] 37)).alloc (.cells #[.slice none 0 0, .slice none 0 0] 26)) ∧ (((w.alloc (.cells #[.slice A X.length c, .slice A' O.length c'] 26)).alloc (.cells #[.int .i64 k, .bool rows, .int .i64 a, .int .i64 v] 37)).alloc (.cells #[.slice none 0 0, .slice none 0 0] 26)).heap.size = w.heap.size + 3 :=
    ⟨((Arr.new _ _ [_, _]).alloc _).alloc _, (Arr.newAt (w.alloc _) _ [_, _, _, _] _ (by simp)).alloc _, Arr.newAt ((w.alloc _).alloc _) _ [_, _] _ (by simp),
      (((Below.refl _ _).alloc (Nat.le_refl _) _).alloc (by simp) _).alloc (by simp <;> omega) _, by simp⟩
  generalize (((w.alloc (.cells #[.slice A X.length c, .slice A' O.length c'] 26)).alloc (.cells #[.int .i64 k, .bool rows, .int .i64 a, .int .i64 v] 37)).alloc (.cells #[.slice none 0 0, .slice none 0 0] 26)) = w4 at hW ⊢
  obtain ⟨q0, q1, q2, hb4, hs4⟩ := hW
  refine (valid_any _ _ X O _ (hX0.below hb4) (hO0.below hb4) hl hl').mono ?_
  rintro e w5 ⟨rfl, hb5⟩
  have hbw5 := hb4.trans (hb5.mono hb4.size)
  have p0 := q0.below hb5 q0.lt
  have p1 := q1.below hb5 q1.lt
  have p2 := q2.below hb5 q2.lt
  have hsz := hb5.size
  rw [hs4] at hsz
  clear q0 q1 q2 hb5 hb4 hs4
  have y0 := p0.cell 0
  have y1 := p0.cell 1
  have z0 := p1.cell 0
  have z1 := p1.cell 1
  have z2 := p1.cell 2
  have z3 := p1.cell 3
  have y2 := p2.cell 0
  have y3 := p2.cell 1
  have y4 := p2.frozen 0
  have y5 := p2.frozen 1
  rw [hv]
  have hzr := Lib.hid ((p2.set 0 (.slice none 0 0)).set 1 (.slice none 0 0))
  go_wp2_with fail
  refine (limits_any k X.length _ (by omega) (by have := (validB_facts hv).2.1; omega)).mono ?_
  rintro e w6 ⟨rfl, rfl⟩
  rw [HK.out]
  go_wp2_with fail
  refine bodyPost_ret (v := .tuple #[.agg #[.slice none 0 0, .slice none 0 0], .int .i64 11]) (results_ct Tryd.results11 _ _ (w.heap.size + 2) 26 _ _ rfl hzr.out Tryd.underlying26 rfl info_grid) rfl ?_
  rw [hfin.out]
  exact GRes.err (by decide) (bset2 (r := w.heap.size + 2) hbw5 (by omega))

set_option maxHeartbeats 1000000 in
theorem apply_range (vx vo : Value) (X O : List Int) (k : Int) (rows : Bool) (a v : Int) (w : World) (hX : Ints w vx X) (hO : Ints w vo O) (hl : X.length ≤ 1000) (hl' : O.length ≤ 1000) (hv : validB X O = true) (hk : ¬ limAt k X.length = 0) (hr : a < 0 ∨ limAt k X.length ≤ a ∨ v < 0 ∨ limVar k X.length ≤ v) :
    Calls Tryd.prog 11 #[.agg #[vx, vo], .agg #[.int .i64 k, .bool rows, .int .i64 a, .int .i64 v]] w (GRes w.heap.size w (applyM X O k rows a v)) := by
  have hfin := Lib.hid (show applyM X O k rows a v = (2, [], []) by simp only [applyM]; rw [if_neg (by simp [hv]), if_neg hk, if_pos hr])
  have hd : (limAt k X.length == 0) = false := by simpa using hk
  clear hk
  have hX0 := hX
  have hO0 := hO
  obtain ⟨A, c, rfl, hc, hh⟩ := hX
  obtain ⟨A', c', rfl, hc', hh'⟩ := hO
  clear hh hh'
  go_enter Tryd.func11, Tryd.ntmps11
  go_wp2_with fail
  have hW : Arr (((w.alloc (.cells #[.slice A X.length c, .slice A' O.length c'] 26)).alloc (.cells #[.int .i64 k, .bool rows, .int .i64 a, .int .i64 v] 37)).alloc (.cells #[.slice none 0 0, .slice none 0 0] 26)) w.heap.size 26 [.slice A X.length c, .slice A' O.length c'] ∧ Arr (((w.alloc (.cells #[.slice A X.length c, .slice A' O.length c'] 26)).alloc (.cells #[.int .i64 k, .bool rows, .int .i64 a, .int .i64 v] 37)).alloc (.cells #[.slice none 0 0, .slice none 0 0] 26)) (w.heap.size + 1) 37 [.int .i64 k, .bool rows, .int .i64 a, .int .i64 v] ∧ Arr (((w.alloc (.cells #[.slice A X.length c, .slice A' O.length c'] 26)).alloc (.cells #[.int .i64 k, .bool rows, .int .i64 a, .int .i64 v] 37)).alloc (.cells #[.slice none 0 0, .slice none 0 0] 26)) (w.heap.size + 2) 26 [.slice none 0 0, .slice none 0 0] ∧ Below w.heap.size w (((w.alloc (.cells #[.slice A X.length c, .slice A' O.length c'] 26)).alloc (.cells #[.int .i64 k, .bool rows, .int .i64 a, .int .i64 v] 37)).alloc (.cells #[.slice none 0 0, .slice none 0 0] 26)) ∧ (((w.alloc (.cells #[.slice A X.length c, .slice A' O.length c'] 26)).alloc (.cells #[.int .i64 k, .bool rows, .int .i64 a, .int .i64 v] 37)).alloc (.cells #[.slice none 0 0, .slice none 0 0] 26)).heap.size = w.heap.size + 3 :=
    ⟨((Arr.new _ _ [_, _]).alloc _).alloc _, (Arr.newAt (w.alloc _) _ [_, _, _, _] _ (by simp)).alloc _, Arr.newAt ((w.alloc _).alloc _) _ [_, _] _ (by simp),
      (((Below.refl _ _).alloc (Nat.le_refl _) _).alloc (by simp) _).alloc (by simp <;> omega) _, by simp⟩
  generalize (((w.alloc (.cells #[.slice A X.length c, .slice A' O.length c'] 26)).alloc (.cells #[.int .i64 k, .bool rows, .int .i64 a, .int .i64 v] 37)).alloc (.cells #[.slice none 0 0, .slice none 0 0] 26)) = w4 at hW ⊢
  obtain ⟨q0, q1, q2, hb4, hs4⟩ := hW
  refine (valid_any _ _ X O _ (hX0.below hb4) (hO0.below hb4) hl hl').mono ?_
  rintro e w5 ⟨rfl, hb5⟩
  have hbw5 := hb4.trans (hb5.mono hb4.size)
  have p0 := q0.below hb5 q0.lt
  have p1 := q1.below hb5 q1.lt
  have p2 := q2.below hb5 q2.lt
  have hsz := hb5.size
  rw [hs4] at hsz
  clear q0 q1 q2 hb5 hb4 hs4
  have y0 := p0.cell 0
  have y1 := p0.cell 1
  have z0 := p1.cell 0
  have z1 := p1.cell 1
  have z2 := p1.cell 2
  have z3 := p1.cell 3
  have y2 := p2.cell 0
  have y3 := p2.cell 1
  have y4 := p2.frozen 0
  have y5 := p2.frozen 1
  rw [hv]
  have hzr := Lib.hid ((p2.set 0 (.slice none 0 0)).set 1 (.slice none 0 0))
  go_wp2_with fail
  refine (limits_any k X.length _ (by omega) (by have := (validB_facts hv).2.1; omega)).mono ?_
  rintro e w6 ⟨rfl, rfl⟩
  generalize limAt k X.length = la at *
  generalize limVar k X.length = lv at *
  by_cases t1 : a < 0
  · go_wp2_with fail
    refine bodyPost_ret (v := .tuple #[.agg #[.slice none 0 0, .slice none 0 0], .int .i64 2]) (results_ct Tryd.results11 _ _ (w.heap.size + 2) 26 _ _ rfl hzr.out Tryd.underlying26 rfl info_grid) rfl ?_
    rw [hfin.out]
    exact GRes.err (by decide) (bset2 (r := w.heap.size + 2) hbw5 (by omega))
  by_cases t2 : la ≤ a
  · have t1' : 0 ≤ a := by omega
    clear t1
    go_wp2_with fail
    refine bodyPost_ret (v := .tuple #[.agg #[.slice none 0 0, .slice none 0 0], .int .i64 2]) (results_ct Tryd.results11 _ _ (w.heap.size + 2) 26 _ _ rfl hzr.out Tryd.underlying26 rfl info_grid) rfl ?_
    rw [hfin.out]
    exact GRes.err (by decide) (bset2 (r := w.heap.size + 2) hbw5 (by omega))
  by_cases t3 : v < 0
  · have t1' : 0 ≤ a := by omega
    have t2' : a < la := by omega
    clear t1 t2
    go_wp2_with fail
    refine bodyPost_ret (v := .tuple #[.agg #[.slice none 0 0, .slice none 0 0], .int .i64 2]) (results_ct Tryd.results11 _ _ (w.heap.size + 2) 26 _ _ rfl hzr.out Tryd.underlying26 rfl info_grid) rfl ?_
    rw [hfin.out]
    exact GRes.err (by decide) (bset2 (r := w.heap.size + 2) hbw5 (by omega))
  have t1' : 0 ≤ a := by omega
  have t2' : a < la := by omega
  have t3' : 0 ≤ v := by omega
  have t4 : lv ≤ v := by omega
  have u1 : decide (a < 0) = false := by simp; omega
  have u2 : decide (la ≤ a) = false := by simp; omega
  have u3 : decide (v < 0) = false := by simp; omega
  have u4 : decide (lv ≤ v) = true := by simp; omega
  clear t1 t2 t3 hr
  go_wp2_with fail
  refine bodyPost_ret (v := .tuple #[.agg #[.slice none 0 0, .slice none 0 0], .int .i64 2]) (results_ct Tryd.results11 _ _ (w.heap.size + 2) 26 _ _ rfl hzr.out Tryd.underlying26 rfl info_grid) rfl ?_
  rw [hfin.out]
  exact GRes.err (by decide) (bset2 (r := w.heap.size + 2) hbw5 (by omega))

set_option maxHeartbeats 1000000 in
theorem apply_cols (vx vo : Value) (X O : List Int) (k : Int) (rows : Bool) (a v : Int) (w : World) (hX : Ints w vx X) (hO : Ints w vo O) (hl : X.length ≤ 1000) (hl' : O.length ≤ 1000) (hv : validB X O = true) (hk : ¬ limAt k X.length = 0) (hr : ¬ (a < 0 ∨ limAt k X.length ≤ a ∨ v < 0 ∨ limVar k X.length ≤ v)) :
    Calls Tryd.prog 11 #[.agg #[vx, vo], .agg #[.int .i64 k, .bool false, .int .i64 a, .int .i64 v]] w (GRes w.heap.size w (applyM X O k false a v)) := by
  have hfin := Lib.hid (show applyM X O k false a v = colsM X O k a.toNat v.toNat by simp only [applyM]; rw [if_neg (by simp [hv]), if_neg hk, if_neg hr, if_pos trivial])
  have hd : (limAt k X.length == 0) = false := by simpa using hk
  have vf := Lib.hid (validB_facts hv)
  have hkk := (not_congr (limAt_zero (k := k) (n := X.length) (by have := vf.out.1; omega))).1 hk
  have HK := Lib.hid (Decidable.not_not.1 hkk)
  have HR := Lib.hid hr
  have r1 : 0 ≤ a := by omega
  have r2 : a < limAt k X.length := by omega
  have r3 : 0 ≤ v := by omega
  have r4 : v < limVar k X.length := by omega
  clear hk hkk hr
  obtain ⟨a, rfl⟩ := Int.eq_ofNat_of_zero_le r1
  obtain ⟨v, rfl⟩ := Int.eq_ofNat_of_zero_le r3
  rw [Int.toNat_natCast, Int.toNat_natCast] at hfin
  have hX0 := hX
  have hO0 := hO
  obtain ⟨A, c, rfl, hc, hh⟩ := hX
  obtain ⟨A', c', rfl, hc', hh'⟩ := hO
  clear hh hh'
  go_enter Tryd.func11, Tryd.ntmps11
  go_wp2_with fail
  have hW : Arr (((w.alloc (.cells #[.slice A X.length c, .slice A' O.length c'] 26)).alloc (.cells #[.int .i64 k, .bool false, .int .i64 (a : Int), .int .i64 (v : Int)] 37)).alloc (.cells #[.slice none 0 0, .slice none 0 0] 26)) w.heap.size 26 [.slice A X.length c, .slice A' O.length c'] ∧ Arr (((w.alloc (.cells #[.slice A X.length c, .slice A' O.length c'] 26)).alloc (.cells #[.int .i64 k, .bool false, .int .i64 (a : Int), .int .i64 (v : Int)] 37)).alloc (.cells #[.slice none 0 0, .slice none 0 0] 26)) (w.heap.size + 1) 37 [.int .i64 k, .bool false, .int .i64 (a : Int), .int .i64 (v : Int)] ∧ Arr (((w.alloc (.cells #[.slice A X.length c, .slice A' O.length c'] 26)).alloc (.cells #[.int .i64 k, .bool false, .int .i64 (a : Int), .int .i64 (v : Int)] 37)).alloc (.cells #[.slice none 0 0, .slice none 0 0] 26)) (w.heap.size + 2) 26 [.slice none 0 0, .slice none 0 0] ∧ Below w.heap.size w (((w.alloc (.cells #[.slice A X.length c, .slice A' O.length c'] 26)).alloc (.cells #[.int .i64 k, .bool false, .int .i64 (a : Int), .int .i64 (v : Int)] 37)).alloc (.cells #[.slice none 0 0, .slice none 0 0] 26)) ∧ (((w.alloc (.cells #[.slice A X.length c, .slice A' O.length c'] 26)).alloc (.cells #[.int .i64 k, .bool false, .int .i64 (a : Int), .int .i64 (v : Int)] 37)).alloc (.cells #[.slice none 0 0, .slice none 0 0] 26)).heap.size = w.heap.size + 3 :=
    ⟨((Arr.new _ _ [_, _]).alloc _).alloc _, (Arr.newAt (w.alloc _) _ [_, _, _, _] _ (by simp)).alloc _, Arr.newAt ((w.alloc _).alloc _) _ [_, _] _ (by simp),
      (((Below.refl _ _).alloc (Nat.le_refl _) _).alloc (by simp) _).alloc (by simp <;> omega) _, by simp⟩
  generalize (((w.alloc (.cells #[.slice A X.length c, .slice A' O.length c'] 26)).alloc (.cells #[.int .i64 k, .bool false, .int .i64 (a : Int), .int .i64 (v : Int)] 37)).alloc (.cells #[.slice none 0 0, .slice none 0 0] 26)) = w4 at hW ⊢
  obtain ⟨q0, q1, q2, hb4, hs4⟩ := hW
  refine (valid_any _ _ X O _ (hX0.below hb4) (hO0.below hb4) hl hl').mono ?_
  rintro e w5 ⟨rfl, hb5⟩
  have hbw5 := hb4.trans (hb5.mono hb4.size)
  have p0 := q0.below hb5 q0.lt
  have p1 := q1.below hb5 q1.lt
  have p2 := q2.below hb5 q2.lt
  have hsz := hb5.size
  rw [hs4] at hsz
  clear q0 q1 q2 hb5 hb4 hs4
  have y0 := p0.cell 0
  have y1 := p0.cell 1
  have z0 := p1.cell 0
  have z1 := p1.cell 1
  have z2 := p1.cell 2
  have z3 := p1.cell 3
  have y2 := p2.cell 0
  have y3 := p2.cell 1
  have y4 := p2.frozen 0
  have y5 := p2.frozen 1
  rw [hv]
  go_wp2_with fail
  refine (limits_any k X.length _ (by omega) (by have := (validB_facts hv).2.1; omega)).mono ?_
  rintro e w6 ⟨rfl, rfl⟩
  have HC := Lib.hid (columns_any (.slice A X.length c) (.slice A' O.length c') X O false a v w5 (hX0.below hbw5) (hO0.below hbw5) vf.out.2.1 vf.out.1 vf.out.2.2.1 vf.out.2.2.2.1 vf.out.2.2.2.2 k HK.out r2 r4)
  generalize limAt k X.length = la at *
  generalize limVar k X.length = lv at *
  have u1 : decide ((a : Int) < 0) = false := by simp
  have u2 : decide (la ≤ (a : Int)) = false := by simp; omega
  have u3 : decide ((v : Int) < 0) = false := by simp
  have u4 : decide (lv ≤ (v : Int)) = false := by simp; omega
  go_wp2_with fail
  clear u1 u2 u3 u4
  refine HC.out.mono ?_
  rintro e w6 ⟨hb6, v6, rfl, hres⟩
  have hr := p2.below hb6 p2.lt
  have hbw6 := hbw5.trans (hb6.mono hbw5.size)
  have hlt6 := p2.lt
  clear y0 y1 y2 y3 y4 y5 z0 z1 z2 z3 HC
  have s0 := hr.cell 0
  have s1 := hr.cell 1
  have s2 := hr.frozen 0
  have s3 := hr.frozen 1
  generalize colsM X O k a v = R at *
  obtain ⟨R1, R2, R3⟩ := R
  by_cases h0 : R1 = 0
  · subst h0
    rw [if_pos rfl] at hres
    obtain ⟨gx, go, rfl, e1, e2, e3, a1, a2⟩ := hres
    have hres := Lib.hid ((hr.set 0 (.slice (some ⟨gx, 0, none⟩) R2.length R2.length)).set 1 (.slice (some ⟨go, 0, none⟩) R3.length R3.length))
    go_wp2_with fail
    refine bodyPost_ret (v := .tuple #[.agg #[.slice (some ⟨gx, 0, none⟩) R2.length R2.length, .slice (some ⟨go, 0, none⟩) R3.length R3.length], .int .i64 0]) (results_ct Tryd.results11 _ _ (w.heap.size + 2) 26 _ _ rfl hres.out Tryd.underlying26 rfl info_grid) rfl ?_
    rw [hfin.out]
    exact GRes.ok (bset2 (r := w.heap.size + 2) hbw6 (by omega)) ⟨gx, go, rfl, e1, by omega, by omega, a1.far2 (r := w.heap.size + 2) (by omega), a2.far2 (r := w.heap.size + 2) (by omega)⟩
  · rw [if_neg h0] at hres
    subst hres
    have hres := Lib.hid ((hr.set 0 (.slice none 0 0)).set 1 (.slice none 0 0))
    go_wp2_with fail
    refine bodyPost_ret (v := .tuple #[.agg #[.slice none 0 0, .slice none 0 0], .int .i64 R1]) (results_ct Tryd.results11 _ _ (w.heap.size + 2) 26 _ _ rfl hres.out Tryd.underlying26 rfl info_grid) rfl ?_
    rw [hfin.out]
    exact ⟨bset2 (r := w.heap.size + 2) hbw6 (by omega), _, rfl, by rw [if_neg h0]⟩
end Go.Proofs.YteigjfdgijaifaaDoor

namespace Go.Proofs.YteigjfdgijaifaaDoor
open Go.RowKit
set_option linter.unusedVariables false

theorem reloc_mvT (b : Bool) (n : Nat) (l : List Int) : reloc mvT b n l = reloc mvT true n l := by
  have h : ∀ (l : List Int) (i : Nat) (acc : List Int), relTo mvT b i l acc = relTo mvT true i l acc := by
    intro l
    induction l with
    | nil => intro i acc; rfl
    | cons x xs ih => intro i acc; simp only [relTo, relStep, mvT]; exact ih _ _
  exact h l 0 _
theorem tr_length (l : List Int) : (tr l).length = l.length := reloc_length _ _ _ _
theorem tr_rows {l : List Int} (h : 1 ≤ l.length) : Rows l.length (tr l) := reloc_rows (by omega) (fun k hk => by simp only [mvT]; omega)

def RowMid (B : Nat) (w : World) (s8 s9 : Value) (R : Int × List Int × List Int) : Prop :=
  ∃ g v0 v1, s8 = .pointer (some ⟨g, 0, none⟩) ∧ s9 = .int .i64 R.1 ∧ Arr w g 26 [v0, v1] ∧ Arr w (B + 2) 26 [.slice none 0 0, .slice none 0 0] ∧ (R.1 = 0 → Ints w v0 R.2.1 ∧ Ints w v1 R.2.2)

theorem transpose_tr (vx vo : Value) (X O : List Int) (w : World) (hX : Ints w vx X) (hO : Ints w vo O) (hlen : X.length = O.length) (hn : X.length ≤ 1000) (rX : Rows X.length X) (rO : Rows X.length O) :
    Calls Tryd.prog 23 #[.agg #[vx, vo]] w fun e w' => ∃ v, e = .returned v ∧ NewGrid w.heap.size w' v (tr X) (tr O) ∧ Below w.heap.size w w' := by
  have h := transpose_any vx vo X O w hX hO hlen hn rX rO
  have e : reloc mvT false X.length O = tr O := by rw [reloc_mvT, hlen]; rfl
  rw [e] at h
  exact h
theorem allocked {W : World} {w : World} {t : TypeId} {a b : Value} (hb : Below (W.alloc (.cells #[a, b] t)).heap.size (W.alloc (.cells #[a, b] t)) w) : Arr w W.heap.size t [a, b] := (Arr.new W t [a, b]).below hb (by simp)
theorem allockedD {W : World} {w : World} {t : TypeId} {a b : Value} (hb : Below (W.alloc (.cells #[a, b] t)).drew.heap.size (W.alloc (.cells #[a, b] t)).drew w) : Arr w W.heap.size t [a, b] := (Arr.new W t [a, b]).below (w := (W.alloc (.cells #[a, b] t)).drew) hb (by show W.heap.size < (W.alloc _).heap.size; simp)
theorem gres_parts {B : Nat} {w : World} {R : Int × List Int × List Int} {v : Value} (h : if R.1 = 0 then NewGrid B w v R.2.1 R.2.2 else v = .agg #[.slice none 0 0, .slice none 0 0]) :
    ∃ A0 n0 c0 A1 n1 c1, v = .agg #[.slice A0 n0 c0, .slice A1 n1 c1] ∧ (R.1 = 0 → ∀ W : World, (∀ b, B ≤ b → b < w.heap.size → W.heap[b]? = w.heap[b]?) → Ints W (.slice A0 n0 c0) R.2.1 ∧ Ints W (.slice A1 n1 c1) R.2.2) := by
  by_cases h0 : R.1 = 0
  · rw [if_pos h0] at h
    obtain ⟨gx, go, rfl, _, b1, b2, h1, h2⟩ := h
    refine ⟨_, _, _, _, _, _, rfl, fun _ W hW => ⟨Ints.of_arr (t := 3) ?_, Ints.of_arr (t := 3) ?_⟩⟩
    · exact (hW gx b1 h1.lt).trans h1
    · exact (hW go b2 h2.lt).trans h2
  · rw [if_neg h0] at h
    exact ⟨_, _, _, _, _, _, h, fun h' => absurd h' h0⟩
theorem heap_set2 (w : World) (r i j b : Nat) (u v : Value) (h : b ≠ r) : ((w.setCell ⟨r, i, none⟩ u).setCell ⟨r, j, none⟩ v).heap[b]? = w.heap[b]? := by
  rw [Below.heap_setCell _ _ _ _ h, Below.heap_setCell _ _ _ _ h]

set_option maxHeartbeats 1000000 in
theorem apply_rows (vx vo : Value) (X O : List Int) (k : Int) (rows : Bool) (a v : Int) (w : World) (hX : Ints w vx X) (hO : Ints w vo O) (hl : X.length ≤ 1000) (hl' : O.length ≤ 1000) (hv : validB X O = true) (hk : ¬ limAt k X.length = 0) (hr : ¬ (a < 0 ∨ limAt k X.length ≤ a ∨ v < 0 ∨ limVar k X.length ≤ v)) :
    Calls Tryd.prog 11 #[.agg #[vx, vo], .agg #[.int .i64 k, .bool true, .int .i64 a, .int .i64 v]] w (GRes w.heap.size w (applyM X O k true a v)) := by
  have hfin := Lib.hid (show applyM X O k true a v = if (colsM (tr X) (tr O) k a.toNat v.toNat).1 = 0 then (0, tr (colsM (tr X) (tr O) k a.toNat v.toNat).2.1, tr (colsM (tr X) (tr O) k a.toNat v.toNat).2.2) else ((colsM (tr X) (tr O) k a.toNat v.toNat).1, [], []) by simp only [applyM]; rw [if_neg (by simp [hv]), if_neg hk, if_neg hr, if_neg (by simp)])
  have hd : (limAt k X.length == 0) = false := by simpa using hk
  have vf := Lib.hid (validB_facts hv)
  have hkk := (not_congr (limAt_zero (k := k) (n := X.length) (by have := vf.out.1; omega))).1 hk
  have HK := Lib.hid (Decidable.not_not.1 hkk)
  have HR := Lib.hid hr
  have r1 : 0 ≤ a := by omega
  have r2 : a < limAt k X.length := by omega
  have r3 : 0 ≤ v := by omega
  have r4 : v < limVar k X.length := by omega
  clear hk hkk hr
  obtain ⟨a, rfl⟩ := Int.eq_ofNat_of_zero_le r1
  obtain ⟨v, rfl⟩ := Int.eq_ofNat_of_zero_le r3
  rw [Int.toNat_natCast, Int.toNat_natCast] at hfin
  have HRR := Lib.hid (fun h0 => colsM_rows (X := tr X) (O := tr O) (a := a) (v := v) HK.out (by rw [tr_length]; exact r2) (by rw [tr_length]; exact r4) (by rw [tr_length]; exact vf.out.1) (by rw [tr_length, tr_length]; exact vf.out.2.2.1) (by rw [tr_length]; exact tr_rows (by have := vf.out.1; omega)) (by rw [tr_length]; have := tr_rows (l := O) (by have := vf.out; omega); rw [← vf.out.2.2.1] at this; exact this) h0)
  have hX0 := hX
  have hO0 := hO
  obtain ⟨A, c, rfl, hc, hh⟩ := hX
  obtain ⟨A', c', rfl, hc', hh'⟩ := hO
  clear hh hh'
  go_enter Tryd.func11, Tryd.ntmps11
  go_wp2_with fail
  have hW : Arr (((w.alloc (.cells #[.slice A X.length c, .slice A' O.length c'] 26)).alloc (.cells #[.int .i64 k, .bool true, .int .i64 (a : Int), .int .i64 (v : Int)] 37)).alloc (.cells #[.slice none 0 0, .slice none 0 0] 26)) w.heap.size 26 [.slice A X.length c, .slice A' O.length c'] ∧ Arr (((w.alloc (.cells #[.slice A X.length c, .slice A' O.length c'] 26)).alloc (.cells #[.int .i64 k, .bool true, .int .i64 (a : Int), .int .i64 (v : Int)] 37)).alloc (.cells #[.slice none 0 0, .slice none 0 0] 26)) (w.heap.size + 1) 37 [.int .i64 k, .bool true, .int .i64 (a : Int), .int .i64 (v : Int)] ∧ Arr (((w.alloc (.cells #[.slice A X.length c, .slice A' O.length c'] 26)).alloc (.cells #[.int .i64 k, .bool true, .int .i64 (a : Int), .int .i64 (v : Int)] 37)).alloc (.cells #[.slice none 0 0, .slice none 0 0] 26)) (w.heap.size + 2) 26 [.slice none 0 0, .slice none 0 0] ∧ Below w.heap.size w (((w.alloc (.cells #[.slice A X.length c, .slice A' O.length c'] 26)).alloc (.cells #[.int .i64 k, .bool true, .int .i64 (a : Int), .int .i64 (v : Int)] 37)).alloc (.cells #[.slice none 0 0, .slice none 0 0] 26)) ∧ (((w.alloc (.cells #[.slice A X.length c, .slice A' O.length c'] 26)).alloc (.cells #[.int .i64 k, .bool true, .int .i64 (a : Int), .int .i64 (v : Int)] 37)).alloc (.cells #[.slice none 0 0, .slice none 0 0] 26)).heap.size = w.heap.size + 3 :=
    ⟨((Arr.new _ _ [_, _]).alloc _).alloc _, (Arr.newAt (w.alloc _) _ [_, _, _, _] _ (by simp)).alloc _, Arr.newAt ((w.alloc _).alloc _) _ [_, _] _ (by simp),
      (((Below.refl _ _).alloc (Nat.le_refl _) _).alloc (by simp) _).alloc (by simp <;> omega) _, by simp⟩
  generalize (((w.alloc (.cells #[.slice A X.length c, .slice A' O.length c'] 26)).alloc (.cells #[.int .i64 k, .bool true, .int .i64 (a : Int), .int .i64 (v : Int)] 37)).alloc (.cells #[.slice none 0 0, .slice none 0 0] 26)) = w4 at hW ⊢
  obtain ⟨q0, q1, q2, hb4, hs4⟩ := hW
  refine (valid_any _ _ X O _ (hX0.below hb4) (hO0.below hb4) hl hl').mono ?_
  rintro e w5 ⟨rfl, hb5⟩
  have hbw5 := hb4.trans (hb5.mono hb4.size)
  have p0 := q0.below hb5 q0.lt
  have p1 := q1.below hb5 q1.lt
  have p2 := q2.below hb5 q2.lt
  have hsz := hb5.size
  rw [hs4] at hsz
  clear q0 q1 q2 hb5 hb4 hs4
  have y0 := p0.cell 0
  have y1 := p0.cell 1
  have z0 := p1.cell 0
  have z1 := p1.cell 1
  have z2 := p1.cell 2
  have z3 := p1.cell 3
  have y2 := p2.cell 0
  have y3 := p2.cell 1
  have y4 := p2.frozen 0
  have y5 := p2.frozen 1
  rw [hv]
  go_wp2_with fail
  refine (limits_any k X.length _ (by omega) (by have := (validB_facts hv).2.1; omega)).mono ?_
  rintro e w6 ⟨rfl, rfl⟩
  have HC := Lib.hid (fun vx vo W hx ho => columns_any vx vo (tr X) (tr O) true a v W hx ho (by rw [tr_length]; exact vf.out.2.1) (by rw [tr_length]; exact vf.out.1) (by rw [tr_length, tr_length]; exact vf.out.2.2.1) (by rw [tr_length]; exact tr_rows (by have := vf.out.1; omega)) (by rw [tr_length]; have := tr_rows (l := O) (by have := vf.out; omega); rw [← vf.out.2.2.1] at this; exact this) k HK.out (by rw [tr_length]; exact r2) (by rw [tr_length]; exact r4))
  have HT := Lib.hid (fun W (hS : W.cell? ⟨w.heap.size, 0, none⟩ = some (.slice A X.length c) ∧ W.cell? ⟨w.heap.size, 1, none⟩ = some (.slice A' O.length c') ∧ W.cell? ⟨w.heap.size + 1, 0, none⟩ = some (.int .i64 k) ∧ W.cell? ⟨w.heap.size + 1, 1, none⟩ = some (.bool true) ∧ W.cell? ⟨w.heap.size + 1, 2, none⟩ = some (.int .i64 (a : Int)) ∧ W.cell? ⟨w.heap.size + 1, 3, none⟩ = some (.int .i64 (v : Int)) ∧ Below w5.heap.size w5 W) => transpose_tr (.slice A X.length c) (.slice A' O.length c') X O W (hX0.below (hbw5.trans (Below.mono hS.2.2.2.2.2.2 hbw5.size))) (hO0.below (hbw5.trans (Below.mono hS.2.2.2.2.2.2 hbw5.size))) vf.out.2.2.1 (by omega) vf.out.2.2.2.1 vf.out.2.2.2.2)
  have HJ := Lib.hid (fun W W' (hS : W.cell? ⟨w.heap.size, 0, none⟩ = some (.slice A X.length c) ∧ W.cell? ⟨w.heap.size, 1, none⟩ = some (.slice A' O.length c') ∧ W.cell? ⟨w.heap.size + 1, 0, none⟩ = some (.int .i64 k) ∧ W.cell? ⟨w.heap.size + 1, 1, none⟩ = some (.bool true) ∧ W.cell? ⟨w.heap.size + 1, 2, none⟩ = some (.int .i64 (a : Int)) ∧ W.cell? ⟨w.heap.size + 1, 3, none⟩ = some (.int .i64 (v : Int)) ∧ Below w5.heap.size w5 W) (hb : Below W.heap.size W W') => Below.trans hS.2.2.2.2.2.2 (hb.mono hS.2.2.2.2.2.2.size))
  have KS := Lib.hid (fun W (hb : Below w5.heap.size w5 W) => (⟨(hb.cell p0.lt).trans y0, (hb.cell p0.lt).trans y1, (hb.cell p1.lt).trans z0, (hb.cell p1.lt).trans z1, (hb.cell p1.lt).trans z2, (hb.cell p1.lt).trans z3, hb⟩ : W.cell? ⟨w.heap.size, 0, none⟩ = some (.slice A X.length c) ∧ W.cell? ⟨w.heap.size, 1, none⟩ = some (.slice A' O.length c') ∧ W.cell? ⟨w.heap.size + 1, 0, none⟩ = some (.int .i64 k) ∧ W.cell? ⟨w.heap.size + 1, 1, none⟩ = some (.bool true) ∧ W.cell? ⟨w.heap.size + 1, 2, none⟩ = some (.int .i64 (a : Int)) ∧ W.cell? ⟨w.heap.size + 1, 3, none⟩ = some (.int .i64 (v : Int)) ∧ Below w5.heap.size w5 W))
  generalize limAt k X.length = la at *
  generalize limVar k X.length = lv at *
  have u1 : decide ((a : Int) < 0) = false := by simp
  have u2 : decide (la ≤ (a : Int)) = false := by simp; omega
  have u3 : decide ((v : Int) < 0) = false := by simp
  have u4 : decide (lv ≤ (v : Int)) = false := by simp; omega
  go_upto_region 10 with fail
  clear u1 u2 u3 u4
  go_cut [8, 9] (fun s8 s9 wx => RowMid w.heap.size wx s8 s9 (colsM (tr X) (tr O) k a v) ∧ Below w.heap.size w wx)
  case first =>
    go_region_held3 (fun w' => w'.cell? ⟨w.heap.size, 0, none⟩ = some (.slice A X.length c) ∧ w'.cell? ⟨w.heap.size, 1, none⟩ = some (.slice A' O.length c') ∧ w'.cell? ⟨w.heap.size + 1, 0, none⟩ = some (.int .i64 k) ∧ w'.cell? ⟨w.heap.size + 1, 1, none⟩ = some (.bool true) ∧ w'.cell? ⟨w.heap.size + 1, 2, none⟩ = some (.int .i64 (a : Int)) ∧ w'.cell? ⟨w.heap.size + 1, 3, none⟩ = some (.int .i64 (v : Int)) ∧ Below w5.heap.size w5 w') ((refine KS.out _ ?_; repeat (first | exact Below.refl _ _ | exact hb8 | exact hb10 | refine Below.drew ?_ | refine Below.alloc ?_ (by first | exact hb10.size | exact hb8.size | exact Nat.le_refl _) _ | refine Below.setCell ?_ (by first | exact hb8.size | exact Nat.le_refl _) _)))
      (first
        | (go_at_call 23; refine (HT.out _ (by assumption)).mono ?_; rintro e w7 ⟨v7, rfl, ⟨gx, go, rfl, e1, e2, e3, a1, a2⟩, hb7⟩; have hb8 := HJ.out _ _ (by assumption) hb7; (first | have hz7 := allocked hb7 | have hz7 := allockedD hb7 | skip); clear hb7; have hi1 := Ints.of_arr a1; have hi2 := Ints.of_arr a2; clear e1 e2 e3 a1 a2)
        | (go_at_call 22; refine (HC.out _ _ _ (by first | exact hi1 | exact hi1.alloc _) (by first | exact hi2 | exact hi2.alloc _)).mono ?_; rintro e w9 ⟨hb9, v9, rfl, hres⟩; obtain ⟨A0, n0, c0, A1, n1, c1, rfl, hin⟩ := gres_parts hres; have hb10 := HJ.out _ _ (by assumption) hb9; (first | have hz9 := Arr.below hz7 hb9 hz7.lt | have hz9 := allocked hb9 | skip); (first | (have x0 := Arr.cell hz9 0; have x1 := Arr.cell hz9 1; have x2 := Arr.frozen hz9 0; have x3 := Arr.frozen hz9 1) | skip); clear hb9 hres))
    · go_wp2_with fail
      go_meet
      exact ⟨⟨w9.heap.size, _, _, rfl, rfl, Arr.new w9 _ [_, _], (p2.below hb10 p2.lt).alloc _, fun h0 => hin h0 _ (fun b _ hb => Below.heap_alloc _ _ _ hb)⟩, hbw5.trans ((hb10.alloc hb10.size _).mono hbw5.size)⟩
    · go_wp2_with fail
      go_meet
      exact ⟨⟨w7.heap.size, _, _, rfl, rfl, (hz9.set 0 _).set 1 _, (p2.below hb10 p2.lt).far2 (r := w7.heap.size) (by have := p2.lt; have := hb8.size; omega), fun h0 => hin h0 _ (fun b hb _ => heap_set2 _ _ _ _ _ _ _ (by simp at hb; omega))⟩, hbw5.trans ((bset2 (r := w7.heap.size) hb10 hb8.size).mono hbw5.size)⟩
    · go_wp2_with fail
      go_meet
      exact ⟨⟨w5.heap.size, _, _, rfl, rfl, (hz9.set 0 _).set 1 _, (p2.below hb10 p2.lt).far2 (r := w5.heap.size) (by have := p2.lt; omega), fun h0 => hin h0 _ (fun b hb _ => heap_set2 _ _ _ _ _ _ _ (by have := hz7.lt; omega))⟩, hbw5.trans ((bset2 (r := w5.heap.size) hb10 (Nat.le_refl _)).mono hbw5.size)⟩
  case rest =>
    clear y0 y1 z0 z1 z2 z3 y2 y3 y4 y5 p0 p1 p2 HC HT HJ KS hd
    obtain ⟨⟨g, v0, v1, rfl, rfl, hg, hr, hin⟩, hbw⟩ := hcut
    generalize colsM (tr X) (tr O) k a v = R at *
    obtain ⟨R1, R2, R3⟩ := R
    simp only at hin HRR hfin
    have s0 := hr.cell 0
    have s1 := hr.cell 1
    have s2 := hr.frozen 0
    have s3 := hr.frozen 1
    have t0 := hg.cell 0
    have t1 := hg.cell 1
    by_cases h0 : R1 = 0
    · subst h0
      have hfin := Lib.hid (hfin.out.trans (if_pos rfl))
      obtain ⟨m, m1, m2, m3, m4, m5, m6⟩ := HRR.out rfl
      obtain ⟨i1, i2⟩ := hin rfl
      have M1 := Lib.hid m1
      have M2 := Lib.hid m2
      clear m1 m2
      go_wp2_with fail
      refine (transpose_tr _ _ R2 R3 _ i1 i2 (by rw [M1.out, M2.out]) (by have := M1.out; have := vf.out; rw [tr_length] at m4; omega) (by rw [M1.out]; exact m5) (by rw [M1.out]; exact m6)).mono ?_
      rintro e w7 ⟨v7, rfl, ⟨gx, go, rfl, e1, e2, e3, a1, a2⟩, hb7⟩
      have hr' := hr.below hb7 hr.lt
      have hbw' := hbw.trans (hb7.mono hbw.size)
      have hlt := hr.lt
      clear s0 s1 s2 s3
      have s0 := hr'.cell 0
      have s1 := hr'.cell 1
      have s2 := hr'.frozen 0
      have s3 := hr'.frozen 1
      have hres := Lib.hid ((hr'.set 0 (.slice (some ⟨gx, 0, none⟩) (tr R2).length (tr R2).length)).set 1 (.slice (some ⟨go, 0, none⟩) (tr R3).length (tr R3).length))
      go_wp2_with fail
      refine bodyPost_ret (v := .tuple #[.agg #[.slice (some ⟨gx, 0, none⟩) (tr R2).length (tr R2).length, .slice (some ⟨go, 0, none⟩) (tr R3).length (tr R3).length], .int .i64 0]) (results_ct Tryd.results11 _ _ (w.heap.size + 2) 26 _ _ rfl hres.out Tryd.underlying26 rfl info_grid) rfl ?_
      rw [hfin.out]
      exact GRes.ok (bset2 (r := w.heap.size + 2) hbw' (by omega)) ⟨gx, go, rfl, e1, by omega, by omega, a1.far2 (r := w.heap.size + 2) (by omega), a2.far2 (r := w.heap.size + 2) (by omega)⟩
    · have hfin := Lib.hid (hfin.out.trans (if_neg h0))
      have hb0 : (R1 != 0) = true := by simpa using h0
      have H0 := Lib.hid h0
      clear h0
      have hres := Lib.hid ((hr.set 0 (.slice none 0 0)).set 1 (.slice none 0 0))
      go_wp2_with fail
      refine bodyPost_ret (v := .tuple #[.agg #[.slice none 0 0, .slice none 0 0], .int .i64 R1]) (results_ct Tryd.results11 _ _ (w.heap.size + 2) 26 _ _ rfl hres.out Tryd.underlying26 rfl info_grid) rfl ?_
      rw [hfin.out]
      exact ⟨bset2 (r := w.heap.size + 2) hbw (by omega), _, rfl, by rw [if_neg H0.out]⟩
end Go.Proofs.YteigjfdgijaifaaDoor

namespace Go.Proofs.YteigjfdgijaifaaDoor
set_option linter.unusedVariables false
open Go.RowKit

/-- each number from 0 on below the length, once -/
def Pm (l : List Int) : Prop := Rows l.length l ∧ l.Nodup

theorem permFrom_iff (n : Nat) : ∀ (l s : List Int), permFrom n s l = true ↔ (Rows n l ∧ (∀ x ∈ l, x ∉ s) ∧ l.Nodup) := by
  intro l
  induction l with
  | nil => intro s; simp [permFrom, Rows]
  | cons y ys ih =>
    intro s
    simp only [permFrom, Bool.and_eq_true, decide_eq_true_eq, Bool.not_eq_true', ih]
    constructor
    · rintro ⟨⟨⟨h1, h2⟩, h3⟩, h4, h5, h6⟩
      refine ⟨fun x hx => ?_, fun x hx => ?_, List.nodup_cons.2 ⟨fun hy => ?_, h6⟩⟩
      · rcases List.mem_cons.1 hx with rfl | hx
        · exact ⟨h1, h2⟩
        · exact h4 x hx
      · rcases List.mem_cons.1 hx with rfl | hx
        · simpa using h3
        · intro hs; exact h5 x hx (List.mem_append.2 (.inl hs))
      · exact h5 y hy (by simp)
    · rintro ⟨h1, h2, h3⟩
      obtain ⟨h4, h5⟩ := List.nodup_cons.1 h3
      refine ⟨⟨h1 y (by simp), by simpa using h2 y (by simp)⟩, fun x hx => h1 x (by simp [hx]), fun x hx hs => ?_, h5⟩
      rcases List.mem_append.1 hs with hs | hs
      · exact h2 x (by simp [hx]) hs
      · rw [List.mem_singleton.1 hs] at hx; exact h4 hx
theorem permB_iff (l : List Int) : permB l = true ↔ Pm l := by
  unfold permB Pm
  rw [permFrom_iff]
  simp

theorem neqB_iff : ∀ (X O : List Int), X.length = O.length → (neqB X O = true ↔ ∀ k (h : k < X.length) (h' : k < O.length), X[k] ≠ O[k]) := by
  intro X
  induction X with
  | nil => intro O h; simp [neqB]
  | cons x xs ih =>
    intro O h
    cases O with
    | nil => simp at h
    | cons o os =>
      have ih' := ih os (by simpa using h)
      simp only [neqB, List.zip_cons_cons, List.all_cons, Bool.and_eq_true] at ih' ⊢
      rw [ih']
      constructor
      · rintro ⟨h1, h2⟩ k hk hk'
        cases k with
        | zero => simpa using h1
        | succ k => simpa using h2 k (by simpa using hk) (by simpa using hk')
      · intro hh
        exact ⟨bne_iff_ne.2 (show x ≠ o from hh 0 (by simp) (by simp)), fun k hk hk' => (show xs[k] ≠ os[k] from hh (k + 1) (by simpa using hk) (by simpa using hk'))⟩

/-- a valid grid -/
structure Vd (X O : List Int) : Prop where
  two : 2 ≤ X.length
  most : X.length ≤ 40
  len : X.length = O.length
  pX : Pm X
  pO : Pm O
  ne : ∀ k (h : k < X.length) (h' : k < O.length), X[k] ≠ O[k]
theorem validB_iff (X O : List Int) : validB X O = true ↔ Vd X O := by
  simp only [validB, Bool.and_eq_true, decide_eq_true_eq, permB_iff]
  constructor
  · rintro ⟨⟨⟨⟨⟨h1, h2⟩, h3⟩, h4⟩, h5⟩, h6⟩
    exact ⟨h1, h2, h3.symm, h5, h6, (neqB_iff X O h3.symm).1 h4⟩
  · rintro ⟨h1, h2, h3, h4, h5, h6⟩
    exact ⟨⟨⟨⟨⟨h1, h2⟩, h3.symm⟩, (neqB_iff X O h3).2 h6⟩, h4⟩, h5⟩

theorem Pm.inj {l : List Int} (h : Pm l) {i j : Nat} (hi : i < l.length) (hj : j < l.length) (e : l[i] = l[j]) : i = j := (List.getElem_inj h.2).1 e
theorem Pm.get {l : List Int} (h : Pm l) {i : Nat} (hi : i < l.length) : 0 ≤ l[i] ∧ l[i] < l.length := h.1.get hi
/-- every row occurs -/
theorem Pm.surj {l : List Int} (h : Pm l) {j : Nat} (hj : j < l.length) : ∃ k, ∃ hk : k < l.length, l[k] = (j : Int) := by
  have hm : (j : Int) ∈ l := by
    apply Classical.byContradiction
    intro hn
    have h1 : ((j : Int) :: l).Nodup := List.nodup_cons.2 ⟨hn, h.2⟩
    have h2 : ((j : Int) :: l) ⊆ (List.range l.length).map (fun i : Nat => (i : Int)) := by
      intro x hx
      rcases List.mem_cons.1 hx with rfl | hx
      · exact List.mem_map.2 ⟨j, List.mem_range.2 hj, rfl⟩
      · obtain ⟨h3, h4⟩ := h.1 x hx
        exact List.mem_map.2 ⟨x.toNat, List.mem_range.2 (by omega), by omega⟩
    have h3 := h1.length_le_of_subset h2
    simp at h3
    omega
  obtain ⟨k, hk, e⟩ := List.mem_iff_getElem.1 hm
  exact ⟨k, hk, e⟩
theorem Pm.mk_inj {l : List Int} (h : Rows l.length l) (hi : ∀ i j (hi : i < l.length) (hj : j < l.length), l[i] = l[j] → i = j) : Pm l := by
  refine ⟨h, ?_⟩
  rw [List.nodup_iff_pairwise_ne, List.pairwise_iff_getElem]
  intro i j hi' hj' hlt e
  have := hi i j hi' hj' e
  omega

section
variable {mv : Int → Int → Bool → Int × Int} {b : Bool}
theorem relStep_other {i : Nat} {x : Int} {acc : List Int} {j : Nat} (h : (mv i x b).1 ≠ (j : Int)) : (relStep mv b i x acc)[j]? = acc[j]? := by
  unfold relStep
  split
  · rw [List.getElem?_set_ne (by omega)]
  · rfl
theorem relTo_other (xs : List Int) : ∀ (i : Nat) (acc : List Int) (j : Nat), (∀ k (h : k < xs.length), (mv (i + k : Nat) xs[k] b).1 ≠ (j : Int)) → (relTo mv b i xs acc)[j]? = acc[j]? := by
  induction xs with
  | nil => intro i acc j _; rfl
  | cons x xs ih =>
    intro i acc j h
    rw [relTo, ih (i + 1) _ j (fun k hk => by have := h (k + 1) (by simpa using hk); rw [show i + 1 + k = i + (k + 1) from by omega]; simpa using this)]
    exact relStep_other (by have := h 0 (by simp); simpa using this)
theorem relTo_get (xs : List Int) : ∀ (i : Nat) (acc : List Int) (j k : Nat) (hk : k < xs.length), j < acc.length → (mv (i + k : Nat) xs[k] b).1 = (j : Int) →
    (∀ k' (h : k' < xs.length), k' ≠ k → (mv (i + k' : Nat) xs[k'] b).1 ≠ (j : Int)) → (relTo mv b i xs acc)[j]? = some (mv (i + k : Nat) xs[k] b).2 := by
  induction xs with
  | nil => intro i acc j k hk; simp at hk
  | cons x xs ih =>
    intro i acc j k hk hj he hne
    rw [relTo]
    cases k with
    | zero =>
      rw [relTo_other xs (i + 1) _ j (fun k hk => by have := hne (k + 1) (by simpa using hk) (by omega); rw [show i + 1 + k = i + (k + 1) from by omega]; simpa using this)]
      simp only [Nat.add_zero, List.getElem_cons_zero] at he ⊢
      unfold relStep
      rw [if_pos (by omega), he]
      simp [hj]
    | succ k =>
      have := ih (i + 1) (relStep mv b i x acc) j k (by simpa using hk) (by rw [relStep_length]; exact hj) (by rw [show i + 1 + k = i + (k + 1) from by omega]; simpa using he)
        (fun k' h hk' => by have := hne (k' + 1) (by simpa using h) (by omega); rw [show i + 1 + k' = i + (k' + 1) from by omega]; simpa using this)
      rw [this, show i + 1 + k = i + (k + 1) from by omega]
      simp
/-- what stands at the place j: the mark of the one column that is led there -/
theorem reloc_get {xs : List Int} {n j k : Nat} (hk : k < xs.length) (hj : j < n) (he : (mv k xs[k] b).1 = (j : Int))
    (hne : ∀ k' (h : k' < xs.length), k' ≠ k → (mv k' xs[k'] b).1 ≠ (j : Int)) : (reloc mv b n xs)[j]? = some (mv k xs[k] b).2 := by
  have := relTo_get (mv := mv) (b := b) xs 0 (List.replicate n 0) j k hk (by simpa using hj) (by simpa using he) (fun k' h hk' => by simpa using hne k' h hk')
  simpa [reloc] using this
end

/-- the transposed list leads back -/
theorem tr_get {l : List Int} (h : Pm l) {k : Nat} (hk : k < l.length) : (tr l)[l[k].toNat]? = some (k : Int) := by
  have hg := h.get hk
  refine (reloc_get (mv := mvT) hk (by omega) (by simp only [mvT]; omega) (fun k' h' hne => ?_)).trans rfl
  simp only [mvT]
  intro e
  exact hne (h.inj h' hk (by omega))
theorem tr_get' {l : List Int} (h : Pm l) {j : Nat} (hj : j < l.length) : ∃ k, ∃ hk : k < l.length, l[k] = (j : Int) ∧ (tr l)[j]? = some (k : Int) := by
  obtain ⟨k, hk, e⟩ := h.surj hj
  refine ⟨k, hk, e, ?_⟩
  have := tr_get h hk
  rw [e] at this
  exact this
theorem tr_pm {l : List Int} (h : Pm l) : Pm (tr l) := by
  refine Pm.mk_inj ?_ (fun i j hi hj e => ?_)
  · rw [tr_length]
    intro x hx
    obtain ⟨j, hj, rfl⟩ := List.mem_iff_getElem.1 hx
    rw [tr_length] at hj
    obtain ⟨k, hk, _, e⟩ := tr_get' h hj
    have := (List.getElem?_eq_some_iff.1 e).2
    omega
  · rw [tr_length] at hi hj
    obtain ⟨k, hk, e1, e2⟩ := tr_get' h hi
    obtain ⟨k', hk', e3, e4⟩ := tr_get' h hj
    have e5 := (List.getElem?_eq_some_iff.1 e2).2
    have e6 := (List.getElem?_eq_some_iff.1 e4).2
    have : k = k' := by omega
    subst this
    omega
theorem tr_tr {l : List Int} (h : Pm l) : tr (tr l) = l := by
  apply List.ext_getElem?
  intro k
  by_cases hk : k < l.length
  · have hg := h.get hk
    have e1 := tr_get h hk
    have hlt : l[k].toNat < (tr l).length := by rw [tr_length]; omega
    have e2 := tr_get (tr_pm h) hlt
    have e3 := (List.getElem?_eq_some_iff.1 e1).2
    rw [e3] at e2
    simp only [Int.toNat_natCast] at e2
    rw [e2, List.getElem?_eq_getElem hk]
    congr 1
    omega
  · rw [List.getElem?_eq_none (by rw [tr_length, tr_length]; omega), List.getElem?_eq_none (by omega)]
theorem tr_vd {X O : List Int} (h : Vd X O) : Vd (tr X) (tr O) := by
  refine ⟨by rw [tr_length]; exact h.two, by rw [tr_length]; exact h.most, by rw [tr_length, tr_length]; exact h.len, tr_pm h.pX, tr_pm h.pO, fun j hj hj' e => ?_⟩
  rw [tr_length] at hj hj'
  obtain ⟨k, hk, e1, e2⟩ := tr_get' h.pX hj
  obtain ⟨k', hk', e3, e4⟩ := tr_get' h.pO hj'
  have e5 := (List.getElem?_eq_some_iff.1 e2).2
  have e6 := (List.getElem?_eq_some_iff.1 e4).2
  have : k = k' := by omega
  subst this
  exact h.ne k hk hk' (by omega)
end Go.Proofs.YteigjfdgijaifaaDoor
