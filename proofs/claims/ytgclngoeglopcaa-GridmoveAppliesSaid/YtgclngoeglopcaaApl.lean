/- GridmoveApplies returns true. -/
import Derived.Test.YtgclngoeglopcaaAwake
import Derived.Test.YtgclngoeglopcaaRap
import Derived.Test.YtgclngoeglopcaaRef3
namespace Go.Proofs.Ytgclngoeglopcaa
open Go.RowKit
set_option linter.unusedVariables false

theorem applyM_le {X O X1 O1 : List Int} {k a v : Int} {rows : Bool} {code : Int} (h : applyM X O k rows a v = (code, X1, O1)) : X1.length ≤ 1000000 ∧ O1.length ≤ 1000000 := by
  by_cases h0 : code = 0
  · subst h0
    have hv := applyM_res_vd h
    have := hv.most
    have := hv.len
    omega
  · have := applyM_err X O k rows a v (by rw [h]; exact h0)
    rw [h] at this
    injection this with e1 e2
    subst e1 e2
    simp

set_option maxHeartbeats 2000000 in
theorem applies_any (vx vo : Value) (X O : List Int) (k : Int) (rows : Bool) (a v : Int) (w : World) (hX : Ints w vx X) (hO : Ints w vo O) :
    Calls Try.prog 3 #[.agg #[vx, vo], .agg #[.int .i64 k, .bool rows, .int .i64 a, .int .i64 v]] w fun e w' => e = .returned (.bool true) ∧ Below w.heap.size w w' := by
  have hX0 := hX
  have hO0 := hO
  obtain ⟨A, c, rfl, hc, hh⟩ := hX
  obtain ⟨A', c', rfl, hc', hh'⟩ := hO
  clear hh hh'
  go_enter Try.func3, Try.ntmps3
  go_wp2_with fail
  have hW : Arr ((w.alloc (.cells #[.slice A X.length c, .slice A' O.length c'] 24)).alloc (.cells #[.int .i64 k, .bool rows, .int .i64 a, .int .i64 v] 26)) w.heap.size 24 [.slice A X.length c, .slice A' O.length c'] ∧ Arr ((w.alloc (.cells #[.slice A X.length c, .slice A' O.length c'] 24)).alloc (.cells #[.int .i64 k, .bool rows, .int .i64 a, .int .i64 v] 26)) (w.heap.size + 1) 26 [.int .i64 k, .bool rows, .int .i64 a, .int .i64 v] ∧ Below w.heap.size w ((w.alloc (.cells #[.slice A X.length c, .slice A' O.length c'] 24)).alloc (.cells #[.int .i64 k, .bool rows, .int .i64 a, .int .i64 v] 26)) :=
    ⟨(Arr.new _ _ [_, _]).alloc _, Arr.newAt (w.alloc _) _ [_, _, _, _] _ (by simp), ((Below.refl _ _).alloc (Nat.le_refl _) _).alloc (by simp) _⟩
  generalize ((w.alloc (.cells #[.slice A X.length c, .slice A' O.length c'] 24)).alloc (.cells #[.int .i64 k, .bool rows, .int .i64 a, .int .i64 v] 26)) = w4 at hW ⊢
  obtain ⟨q0, q1, hb4⟩ := hW
  refine (awake_any _).mono ?_
  rintro e w5 ⟨rfl, hb5⟩
  have hbw5 := hb4.trans (hb5.mono hb4.size)
  have p0 := q0.below hb5 q0.lt
  have p1 := q1.below hb5 q1.lt
  clear q0 q1 hb5 hb4
  have y0 := p0.cell 0
  have y1 := p0.cell 1
  go_wp2_with fail
  refine (great_any _ _ _ _ _ _ _).mono ?_
  rintro e w6 ⟨rfl, hb6⟩
  have hbw6 := hbw5.trans (hb6.mono hbw5.size)
  have r0 := p0.below hb6 p0.lt
  have r1 := p1.below hb6 p1.lt
  have hX6 := hX0.below hbw6
  have hO6 := hO0.below hbw6
  clear p0 p1 hb6 hbw5 y0 y1
  have y0 := r0.cell 0
  have y1 := r0.cell 1
  have z0 := r1.cell 0
  have z1 := r1.cell 1
  have z2 := r1.cell 2
  have z3 := r1.cell 3
  cases hg : greatB X.length O.length with
  | true =>
    clear hg
    go_wp2_with fail
    go_ret
    exact ⟨rfl, hbw6⟩
  | false =>
    have hg' : X.length ≤ 50 ∧ O.length ≤ 50 := by simp only [greatB, decide_eq_false_iff_not] at hg; omega
    clear hg
    obtain ⟨gl, gl'⟩ := hg'
    go_wp2_with fail
    refine (apply_rd _ _ X O k rows a v _ hX6 hO6 (by omega) (by omega)).mono ?_
    rintro e w7 ⟨hb7, A0, n0, c0, A1, n1, c1, rfl, i1, i2⟩
    have hbw7 := hbw6.trans (hb7.mono hbw6.size)
    have s0 := r0.below hb7 r0.lt
    have s1 := r1.below hb7 r1.lt
    have hX7 := hX6.below hb7
    have hO7 := hO6.below hb7
    clear y0 y1 z0 z1 z2 z3 r0 r1 hb7 hX6 hO6
    generalize hR : applyM X O k rows a v = R at *
    obtain ⟨code, X1, O1⟩ := R
    simp only at i1 i2
    have HR := Lib.hid hR
    clear hR
    have l0 := s0.lt
    have l1 := s1.lt
    have d0 := (s0.alloc (.cells #[.slice A0 n0 c0, .slice A1 n1 c1] 24)).cell 0
    have d1 := (s0.alloc (.cells #[.slice A0 n0 c0, .slice A1 n1 c1] 24)).cell 1
    go_wp2_with fail
    have hW : Arr (w7.alloc (.cells #[.slice A0 n0 c0, .slice A1 n1 c1] 24)) w7.heap.size 24 [.slice A0 n0 c0, .slice A1 n1 c1] ∧ Arr (w7.alloc (.cells #[.slice A0 n0 c0, .slice A1 n1 c1] 24)) w.heap.size 24 [.slice A X.length c, .slice A' O.length c'] ∧ Arr (w7.alloc (.cells #[.slice A0 n0 c0, .slice A1 n1 c1] 24)) (w.heap.size + 1) 26 [.int .i64 k, .bool rows, .int .i64 a, .int .i64 v] ∧ Below w.heap.size w (w7.alloc (.cells #[.slice A0 n0 c0, .slice A1 n1 c1] 24)) ∧ Ints (w7.alloc (.cells #[.slice A0 n0 c0, .slice A1 n1 c1] 24)) (.slice A0 n0 c0) X1 ∧ Ints (w7.alloc (.cells #[.slice A0 n0 c0, .slice A1 n1 c1] 24)) (.slice A1 n1 c1) O1 := ⟨Arr.new w7 _ [_, _], s0.alloc _, s1.alloc _, hbw7.alloc hbw7.size _, i1.alloc _, i2.alloc _⟩
    clear d0 d1
    generalize w7.alloc (.cells #[.slice A0 n0 c0, .slice A1 n1 c1] 24) = w8 at hW ⊢
    clear s0 s1 i1 i2 hbw7 hX7 hO7
    obtain ⟨g0, s0, s1, hbw8, i1, i2⟩ := hW
    refine (refValid_any _ _ X O _ (hX0.below hbw8) (hO0.below hbw8) (by omega) (by omega)).mono ?_
    rw [refValidB_eq]
    rintro e w9 ⟨rfl, hb9⟩
    have hbw9 := hbw8.trans (hb9.mono hbw8.size)
    have g0' := g0.below hb9 g0.lt
    have s0' := s0.below hb9 s0.lt
    have s1' := s1.below hb9 s1.lt
    have i1' := i1.below hb9
    have i2' := i2.below hb9
    clear g0 s0 s1 i1 i2 hb9 hbw8
    have d0 := s0'.cell 0
    have d1 := s0'.cell 1
    have f0 := s1'.cell 0
    have f1 := s1'.cell 1
    have f2 := s1'.cell 2
    have f3 := s1'.cell 3
    have x0 := g0'.cell 0
    have x1 := g0'.cell 1
    by_cases hv : validB X O = true
    rotate_left
    · have hv' : validB X O = false := by simpa using hv
      rw [hv']
      have hR : applyM X O k rows a v = (1, [], []) := by unfold applyM; rw [if_pos hv']
      have hR2 := HR.out
      rw [hR] at hR2
      injection hR2 with e1 e2
      injection e2 with e2 e3
      subst e1 e2 e3
      clear hv hv' hR HR
      go_wp2_with fail
      refine (same_any _ _ _ _ [] [] [] [] _ i1' i2' (Ints.nil _) (Ints.nil _) (by simp) (by simp)).mono ?_
      rintro e w10 ⟨rfl, hb10⟩
      go_wp2_with fail
      go_ret
      exact ⟨rfl, hbw9.trans (hb10.mono hbw9.size)⟩
    · rw [hv]
      have HV := Lib.hid ((validB_iff X O).1 hv)
      clear hv
      go_wp2_with fail
      refine (refApply_any _ _ X O k rows a v _ (hX0.below hbw9) (hO0.below hbw9) HV.out).mono ?_
      rw [HR.out]
      rintro e w10 ⟨hb10, C0, m0, e0, C1, m1, e1, rfl, j1, j2⟩
      simp only at j1 j2
      have hbw10 := hbw9.trans (hb10.mono hbw9.size)
      have hg := g0'.below hb10 g0'.lt
      have k1 := i1'.below hb10
      have k2 := i2'.below hb10
      have lg := hg.lt
      clear x0 x1 d0 d1 f0 f1 f2 f3
      have x0 := (hg.alloc (.cells #[.slice C0 m0 e0, .slice C1 m1 e1] 24)).cell 0
      have x1 := (hg.alloc (.cells #[.slice C0 m0 e0, .slice C1 m1 e1] 24)).cell 1
      have hl1 := Lib.hid (applyM_le (X := X) (O := O) (k := k) (rows := rows) (a := a) (v := v) HR.out)
      have lX1 : X1.length ≤ 1000000 := hl1.out.1
      have lO1 : O1.length ≤ 1000000 := hl1.out.2
      have hcc : (code == code) = true := by simp
      clear HR HV hl1
      go_wp2_with fail
      refine (same_any _ _ _ _ X1 O1 X1 O1 _ (k1.alloc _) (k2.alloc _) (j1.alloc _) (j2.alloc _) lX1 lO1).mono ?_
      rintro e w11 ⟨rfl, hb11⟩
      have hd : decide (X1 = X1 ∧ O1 = O1) = true := by simp
      rw [hd]
      clear hd
      go_wp2_with fail
      go_ret
      exact ⟨rfl, (hbw10.alloc hbw10.size _).trans (hb11.mono (Nat.le_trans hbw10.size (by simp)))⟩
end Go.Proofs.Ytgclngoeglopcaa
