/- GridmoveTranslates returns true. -/
import Derived.Test.YtgclngoeglopcaaAwake
import Derived.Test.YtgclngoeglopcaaLst
namespace Go.Proofs.Ytgclngoeglopcaa
open Go.RowKit
set_option linter.unusedVariables false

set_option maxRecDepth 100000 in
set_option maxHeartbeats 8000000 in
theorem translates_false (vx vo : Value) (X O : List Int) (at_ va : Int) (w : World) (hX : Ints w vx X) (hO : Ints w vo O) (ha : 0 ≤ at_ ∧ at_ ≤ 255) (hva : 0 ≤ va ∧ va ≤ 255) :
    Calls Try.prog 10 #[.agg #[vx, vo], .bool false, .int .u8 at_, .int .u8 va] w fun e w' => e = .returned (.bool true) ∧ Below w.heap.size w w' := by
  have hX0 := hX
  have hO0 := hO
  obtain ⟨A, c, rfl, hc, hh⟩ := hX
  obtain ⟨A', c', rfl, hc', hh'⟩ := hO
  clear hh hh'
  obtain ⟨ha0, ha1⟩ := ha
  obtain ⟨hv0, hv1⟩ := hva
  go_enter Try.func10, Try.ntmps10
  go_wp2_with fail
  have hW : Arr (w.alloc (.cells #[.slice A X.length c, .slice A' O.length c'] 24)) w.heap.size 24 [.slice A X.length c, .slice A' O.length c'] ∧ Below w.heap.size w (w.alloc (.cells #[.slice A X.length c, .slice A' O.length c'] 24)) := ⟨Arr.new _ _ [_, _], (Below.refl _ _).alloc (Nat.le_refl _) _⟩
  generalize w.alloc (.cells #[.slice A X.length c, .slice A' O.length c'] 24) = w4 at hW ⊢
  obtain ⟨q0, hb4⟩ := hW
  refine (awake_any _).mono ?_
  rintro e w5 ⟨rfl, hb5⟩
  have hbw5 := hb4.trans (hb5.mono hb4.size)
  have p0 := q0.below hb5 q0.lt
  clear q0 hb5 hb4
  have y0 := p0.cell 0
  have y1 := p0.cell 1
  go_wp2_with fail
  refine (great_any _ _ _ _ _ _ _).mono ?_
  rintro e w6 ⟨rfl, hb6⟩
  have hbw6 := hbw5.trans (hb6.mono hbw5.size)
  have r0 := p0.below hb6 p0.lt
  clear p0 hb6 hbw5 y0 y1
  have y0 := r0.cell 0
  have y1 := r0.cell 1
  cases hg : greatB X.length O.length with
  | true =>
    clear hg
    go_wp2_with fail
    go_ret
    exact ⟨rfl, hbw6⟩
  | false =>
  have hg' : X.length ≤ 50 ∧ O.length ≤ 50 := by simp only [greatB, decide_eq_false_iff_not] at hg; omega
  clear hg
  obtain ⟨gl, gl'⟩ := hg'
  by_cases t8 : 8 < X.length
  · have u8 : decide (8 < (X.length : Int)) = true := by simp; omega
    go_wp2_with fail
    go_ret
    exact ⟨rfl, hbw6⟩
  have u8 : decide (8 < (X.length : Int)) = false := by simp; omega
  have t8' : X.length ≤ 8 := by omega
  clear t8
  go_wp2_with fail
  refine (valid_any _ _ X O _ (hX0.below hbw6) (hO0.below hbw6) (by omega) (by omega)).mono ?_
  rintro e w7 ⟨rfl, hb7⟩
  have hbw7 := hbw6.trans (hb7.mono hbw6.size)
  have s0 := r0.below hb7 r0.lt
  clear r0 hb7 hbw6 y0 y1 u8
  have y0 := s0.cell 0
  have y1 := s0.cell 1
  cases hvB : validB X O with
  | false =>
    clear hvB
    go_wp2_with fail
    go_ret
    exact ⟨rfl, hbw7⟩
  | true =>
  have HV := Lib.hid ((validB_iff X O).1 hvB)
  have HL := Lib.hid HV.out.len
  have h2 := HV.out.two
  clear hvB
  have HR := Lib.hid (shift_eq (rows := false) HV.out)
  obtain ⟨c0, r0, hc0, hr0, HS⟩ : ∃ c0 r0 : Nat, c0 < X.length ∧ r0 < X.length ∧ Hid (shiftM X O (-1) 0 = (0, trl c0 r0 X, trl c0 r0 O)) := by
    refine ⟨_, _, ?_, ?_, by show shiftM X O (-1) 0 = _; unfold shiftM; rw [if_neg (by rw [(validB_iff X O).2 HV.out]; simp)]⟩
    · have := Int.emod_lt_of_pos (-1) (show (0 : Int) < X.length by omega); have := Int.emod_nonneg (-1) (show (X.length : Int) ≠ 0 by omega); omega
    · have := Int.emod_lt_of_pos 0 (show (0 : Int) < X.length by omega); have := Int.emod_nonneg 0 (show (X.length : Int) ≠ 0 by omega); omega
  have HA := Lib.hid (show applyM X O 1 false 0 0 = (0, trl c0 r0 X, trl c0 r0 O) by rw [HR.out]; simpa using HS.out)
  have HV1 := Lib.hid (applyM_res_vd HA.out)
  have ln1 : (trl c0 r0 X).length = X.length := trl_length _ _ _
  have HLN := Lib.hid ln1
  have HLE := Lib.hid (fun p q (h1 : IsL (trl c0 r0 X) (trl c0 r0 O) (trl c0 r0 X).length p) (h2 : IsL X O X.length q) => least_trl HV.out hc0 hr0 h2 (ln1 ▸ h1))
  clear ln1 hc0 hr0
  generalize trl c0 r0 X = X1 at *
  generalize trl c0 r0 O = O1 at *
  have l40 : X1.length ≤ 1000 := by have := HLN.out; omega
  have l40' : O1.length ≤ 1000 := by have := HLN.out; have := HV1.out.len; omega
  -- Apply
  go_wp2_with fail
  refine (apply_rd _ _ X O 1 false 0 0 _ (hX0.below hbw7) (hO0.below hbw7) (by omega) (by omega)).mono ?_
  rw [HA.out]
  rintro e w8 ⟨hb8, A0, n0, k0, A1, n1, k1, rfl, i0, i1⟩
  simp only at i0 i1
  have hbw8 := hbw7.trans (hb8.mono hbw7.size)
  have b0 := s0.below hb8 s0.lt
  have lb := b0.lt
  have hW : Arr (w8.alloc (.cells #[.slice A0 n0 k0, .slice A1 n1 k1] 24)) w8.heap.size 24 [.slice A0 n0 k0, .slice A1 n1 k1] ∧ Arr (w8.alloc (.cells #[.slice A0 n0 k0, .slice A1 n1 k1] 24)) w.heap.size 24 [.slice A X.length c, .slice A' O.length c'] ∧ Ints (w8.alloc (.cells #[.slice A0 n0 k0, .slice A1 n1 k1] 24)) (.slice A0 n0 k0) X1 ∧ Ints (w8.alloc (.cells #[.slice A0 n0 k0, .slice A1 n1 k1] 24)) (.slice A1 n1 k1) O1 ∧ Below w.heap.size w (w8.alloc (.cells #[.slice A0 n0 k0, .slice A1 n1 k1] 24)) := ⟨Arr.new _ _ [_, _], b0.alloc _, i0.alloc _, i1.alloc _, hbw8.alloc hbw8.size _⟩
  have dd0 := (b0.alloc (.cells #[.slice A0 n0 k0, .slice A1 n1 k1] 24)).cell 0
  have dd1 := (b0.alloc (.cells #[.slice A0 n0 k0, .slice A1 n1 k1] 24)).cell 1
  clear y0 y1 s0 b0 hb8 hbw7 hbw8 i0 i1
  go_wp2_with fail
  clear dd0 dd1
  generalize w8.heap.size = g11 at *
  generalize w8.alloc (.cells #[.slice A0 n0 k0, .slice A1 n1 k1] 24) = w9 at hW ⊢
  obtain ⟨ga, s0, i0, i1, hbw9⟩ := hW
  -- Shift
  refine (shift_any _ _ X O (-1) 0 _ (hX0.below hbw9) (hO0.below hbw9) (by omega) (by omega)).mono ?_
  rw [HS.out]
  rintro e w10 ⟨hb10, v10, rfl, hg10⟩
  rw [if_pos rfl] at hg10
  obtain ⟨gx, go, rfl, _, _, _, ax, ao⟩ := hg10
  have hbw10 := hbw9.trans (hb10.mono hbw9.size)
  have b0 := s0.below hb10 s0.lt
  have ga1 := ga.below hb10 ga.lt
  have i0' := i0.below hb10
  have i1' := i1.below hb10
  have lb := b0.lt
  have lg := ga1.lt
  have hW : Arr (w10.alloc (.cells #[.slice (some ⟨gx, 0, none⟩) X1.length X1.length, .slice (some ⟨go, 0, none⟩) O1.length O1.length] 24)) w10.heap.size 24 [.slice (some ⟨gx, 0, none⟩) X1.length X1.length, .slice (some ⟨go, 0, none⟩) O1.length O1.length] ∧ Arr (w10.alloc (.cells #[.slice (some ⟨gx, 0, none⟩) X1.length X1.length, .slice (some ⟨go, 0, none⟩) O1.length O1.length] 24)) w.heap.size 24 [.slice A X.length c, .slice A' O.length c'] ∧ Arr (w10.alloc (.cells #[.slice (some ⟨gx, 0, none⟩) X1.length X1.length, .slice (some ⟨go, 0, none⟩) O1.length O1.length] 24)) g11 24 [.slice A0 n0 k0, .slice A1 n1 k1] ∧ Ints (w10.alloc (.cells #[.slice (some ⟨gx, 0, none⟩) X1.length X1.length, .slice (some ⟨go, 0, none⟩) O1.length O1.length] 24)) (.slice A0 n0 k0) X1 ∧ Ints (w10.alloc (.cells #[.slice (some ⟨gx, 0, none⟩) X1.length X1.length, .slice (some ⟨go, 0, none⟩) O1.length O1.length] 24)) (.slice A1 n1 k1) O1 ∧ Ints (w10.alloc (.cells #[.slice (some ⟨gx, 0, none⟩) X1.length X1.length, .slice (some ⟨go, 0, none⟩) O1.length O1.length] 24)) (.slice (some ⟨gx, 0, none⟩) X1.length X1.length) X1 ∧ Ints (w10.alloc (.cells #[.slice (some ⟨gx, 0, none⟩) X1.length X1.length, .slice (some ⟨go, 0, none⟩) O1.length O1.length] 24)) (.slice (some ⟨go, 0, none⟩) O1.length O1.length) O1 ∧ Below w.heap.size w (w10.alloc (.cells #[.slice (some ⟨gx, 0, none⟩) X1.length X1.length, .slice (some ⟨go, 0, none⟩) O1.length O1.length] 24)) :=
    ⟨Arr.new _ _ [_, _], b0.alloc _, ga1.alloc _, i0'.alloc _, i1'.alloc _, (Ints.of_arr ax).alloc _, (Ints.of_arr ao).alloc _, hbw10.alloc hbw10.size _⟩
  have dd0 := (ga1.alloc (.cells #[.slice (some ⟨gx, 0, none⟩) X1.length X1.length, .slice (some ⟨go, 0, none⟩) O1.length O1.length] 24)).cell 0
  have dd1 := (ga1.alloc (.cells #[.slice (some ⟨gx, 0, none⟩) X1.length X1.length, .slice (some ⟨go, 0, none⟩) O1.length O1.length] 24)).cell 1
  clear s0 b0 ga ga1 i0 i1 i0' i1' hb10 hbw9 hbw10 ax ao
  go_wp2_with fail
  clear dd0 dd1
  generalize w10.heap.size = g13 at *
  generalize w10.alloc (.cells #[.slice (some ⟨gx, 0, none⟩) X1.length X1.length, .slice (some ⟨go, 0, none⟩) O1.length O1.length] 24) = w11 at hW ⊢
  obtain ⟨gb, s0, ga, i0, i1, j0, j1, hbw11⟩ := hW
  -- Least of a
  refine (least_any _ _ X1 O1 _ i0 i1 HV1.out).mono ?_
  rintro e w12 ⟨p, P0, m0, P1, m1, rfl, ⟨x0, x1⟩, hisl, hb12⟩
  have HI1 := Lib.hid hisl
  clear hisl
  have hbw12 := hbw11.trans (hb12.mono hbw11.size)
  have hW : Arr (w12.alloc (.cells #[.slice P0 X1.length m0, .slice P1 X1.length m1] 24)) w12.heap.size 24 [.slice P0 X1.length m0, .slice P1 X1.length m1] ∧ Arr (w12.alloc (.cells #[.slice P0 X1.length m0, .slice P1 X1.length m1] 24)) w.heap.size 24 [.slice A X.length c, .slice A' O.length c'] ∧ Arr (w12.alloc (.cells #[.slice P0 X1.length m0, .slice P1 X1.length m1] 24)) g11 24 [.slice A0 n0 k0, .slice A1 n1 k1] ∧ Arr (w12.alloc (.cells #[.slice P0 X1.length m0, .slice P1 X1.length m1] 24)) g13 24 [.slice (some ⟨gx, 0, none⟩) X1.length X1.length, .slice (some ⟨go, 0, none⟩) O1.length O1.length] ∧ Ints (w12.alloc (.cells #[.slice P0 X1.length m0, .slice P1 X1.length m1] 24)) (.slice A0 n0 k0) X1 ∧ Ints (w12.alloc (.cells #[.slice P0 X1.length m0, .slice P1 X1.length m1] 24)) (.slice A1 n1 k1) O1 ∧ Ints (w12.alloc (.cells #[.slice P0 X1.length m0, .slice P1 X1.length m1] 24)) (.slice (some ⟨gx, 0, none⟩) X1.length X1.length) X1 ∧ Ints (w12.alloc (.cells #[.slice P0 X1.length m0, .slice P1 X1.length m1] 24)) (.slice (some ⟨go, 0, none⟩) O1.length O1.length) O1 ∧ Ints (w12.alloc (.cells #[.slice P0 X1.length m0, .slice P1 X1.length m1] 24)) (.slice P0 X1.length m0) p.1 ∧ Ints (w12.alloc (.cells #[.slice P0 X1.length m0, .slice P1 X1.length m1] 24)) (.slice P1 X1.length m1) p.2 ∧ Below w.heap.size w (w12.alloc (.cells #[.slice P0 X1.length m0, .slice P1 X1.length m1] 24)) :=
    ⟨Arr.new _ _ [_, _], (s0.below hb12 s0.lt).alloc _, (ga.below hb12 ga.lt).alloc _, (gb.below hb12 gb.lt).alloc _, (i0.below hb12).alloc _, (i1.below hb12).alloc _, (j0.below hb12).alloc _, (j1.below hb12).alloc _, x0.alloc _, x1.alloc _, hbw12.alloc hbw12.size _⟩
  have lb := (s0.below hb12 s0.lt).lt
  have dd0 := ((s0.below hb12 s0.lt).alloc (.cells #[.slice P0 X1.length m0, .slice P1 X1.length m1] 24)).cell 0
  have dd1 := ((s0.below hb12 s0.lt).alloc (.cells #[.slice P0 X1.length m0, .slice P1 X1.length m1] 24)).cell 1
  clear s0 ga gb i0 i1 j0 j1 x0 x1 hb12 hbw11 hbw12
  go_wp2_with fail
  clear dd0 dd1
  generalize w12.heap.size = g15 at *
  generalize w12.alloc (.cells #[.slice P0 X1.length m0, .slice P1 X1.length m1] 24) = w13 at hW ⊢
  obtain ⟨gp, s0, ga, gb, i0, i1, j0, j1, x0, x1, hbw13⟩ := hW
  -- Least of g
  refine (least_any _ _ X O _ (hX0.below hbw13) (hO0.below hbw13) HV.out).mono ?_
  rintro e w14 ⟨q, Q0, d0, Q1, d1, rfl, ⟨z0, z1⟩, hisl, hb14⟩
  have HPQ := Lib.hid (HLE.out p q HI1.out hisl)
  clear hisl HI1
  rw [HPQ.out] at x0 x1
  have hbw14 := hbw13.trans (hb14.mono hbw13.size)
  have hW : Arr (w14.alloc (.cells #[.slice Q0 X.length d0, .slice Q1 X.length d1] 24)) w14.heap.size 24 [.slice Q0 X.length d0, .slice Q1 X.length d1] ∧ Arr (w14.alloc (.cells #[.slice Q0 X.length d0, .slice Q1 X.length d1] 24)) w.heap.size 24 [.slice A X.length c, .slice A' O.length c'] ∧ Arr (w14.alloc (.cells #[.slice Q0 X.length d0, .slice Q1 X.length d1] 24)) g11 24 [.slice A0 n0 k0, .slice A1 n1 k1] ∧ Arr (w14.alloc (.cells #[.slice Q0 X.length d0, .slice Q1 X.length d1] 24)) g13 24 [.slice (some ⟨gx, 0, none⟩) X1.length X1.length, .slice (some ⟨go, 0, none⟩) O1.length O1.length] ∧ Arr (w14.alloc (.cells #[.slice Q0 X.length d0, .slice Q1 X.length d1] 24)) g15 24 [.slice P0 X1.length m0, .slice P1 X1.length m1] ∧ Ints (w14.alloc (.cells #[.slice Q0 X.length d0, .slice Q1 X.length d1] 24)) (.slice A0 n0 k0) X1 ∧ Ints (w14.alloc (.cells #[.slice Q0 X.length d0, .slice Q1 X.length d1] 24)) (.slice A1 n1 k1) O1 ∧ Ints (w14.alloc (.cells #[.slice Q0 X.length d0, .slice Q1 X.length d1] 24)) (.slice (some ⟨gx, 0, none⟩) X1.length X1.length) X1 ∧ Ints (w14.alloc (.cells #[.slice Q0 X.length d0, .slice Q1 X.length d1] 24)) (.slice (some ⟨go, 0, none⟩) O1.length O1.length) O1 ∧ Ints (w14.alloc (.cells #[.slice Q0 X.length d0, .slice Q1 X.length d1] 24)) (.slice P0 X1.length m0) q.1 ∧ Ints (w14.alloc (.cells #[.slice Q0 X.length d0, .slice Q1 X.length d1] 24)) (.slice P1 X1.length m1) q.2 ∧ Ints (w14.alloc (.cells #[.slice Q0 X.length d0, .slice Q1 X.length d1] 24)) (.slice Q0 X.length d0) q.1 ∧ Ints (w14.alloc (.cells #[.slice Q0 X.length d0, .slice Q1 X.length d1] 24)) (.slice Q1 X.length d1) q.2 ∧ Below w.heap.size w (w14.alloc (.cells #[.slice Q0 X.length d0, .slice Q1 X.length d1] 24)) :=
    ⟨Arr.new _ _ [_, _], (s0.below hb14 s0.lt).alloc _, (ga.below hb14 ga.lt).alloc _, (gb.below hb14 gb.lt).alloc _, (gp.below hb14 gp.lt).alloc _, (i0.below hb14).alloc _, (i1.below hb14).alloc _, (j0.below hb14).alloc _, (j1.below hb14).alloc _, (x0.below hb14).alloc _, (x1.below hb14).alloc _, z0.alloc _, z1.alloc _, hbw14.alloc hbw14.size _⟩
  have la := (ga.below hb14 ga.lt).lt
  have lb' := (gb.below hb14 gb.lt).lt
  have da0 := ((ga.below hb14 ga.lt).alloc (.cells #[.slice Q0 X.length d0, .slice Q1 X.length d1] 24)).cell 0
  have da1 := ((ga.below hb14 ga.lt).alloc (.cells #[.slice Q0 X.length d0, .slice Q1 X.length d1] 24)).cell 1
  have db0 := ((gb.below hb14 gb.lt).alloc (.cells #[.slice Q0 X.length d0, .slice Q1 X.length d1] 24)).cell 0
  have db1 := ((gb.below hb14 gb.lt).alloc (.cells #[.slice Q0 X.length d0, .slice Q1 X.length d1] 24)).cell 1
  clear s0 ga gb gp i0 i1 j0 j1 x0 x1 z0 z1 hb14 hbw13 hbw14 HPQ HLE
  go_wp2_with fail
  clear da0 da1 db0 db1
  generalize w14.heap.size = g17 at *
  generalize w14.alloc (.cells #[.slice Q0 X.length d0, .slice Q1 X.length d1] 24) = w15 at hW ⊢
  obtain ⟨gq, s0, ga, gb, gp, i0, i1, j0, j1, x0, x1, z0, z1, hbw15⟩ := hW
  obtain ⟨lq1, lq2⟩ : q.1.length ≤ 1000000 ∧ q.2.length ≤ 1000000 := by
    obtain ⟨_, _, h1, _⟩ := z0
    injection h1 with _ h1 _
    obtain ⟨_, _, h2, _⟩ := z1
    injection h2 with _ h2 _
    omega
  refine (same_any _ _ _ _ X1 O1 X1 O1 _ i0 i1 j0 j1 (by omega) (by omega)).mono ?_
  rintro e w16 ⟨rfl, hb16⟩
  rw [show decide (X1 = X1 ∧ O1 = O1) = true by simp]
  have hbw16 := hbw15.trans (hb16.mono hbw15.size)
  have s1 := s0.below hb16 s0.lt
  have gp1 := gp.below hb16 gp.lt
  have gq1 := gq.below hb16 gq.lt
  have x0' := x0.below hb16
  have x1' := x1.below hb16
  have z0' := z0.below hb16
  have z1' := z1.below hb16
  clear hb16 hbw15 s0 ga gb gp gq i0 i1 j0 j1 x0 x1 z0 z1
  have dp0 := gp1.cell 0
  have dp1 := gp1.cell 1
  have dq0 := gq1.cell 0
  have dq1 := gq1.cell 1
  go_wp2_with fail
  refine (same_any _ _ _ _ q.1 q.2 q.1 q.2 _ x0' x1' z0' z1' lq1 lq2).mono ?_
  rintro e w17 ⟨rfl, hb17⟩
  rw [show decide (q.1 = q.1 ∧ q.2 = q.2) = true by simp]
  have hbw17 := hbw16.trans (hb17.mono hbw16.size)
  have s2 := s1.below hb17 s1.lt
  clear hb17 hbw16 s1 gp1 gq1 x0' x1' z0' z1' dp0 dp1 dq0 dq1 lq1 lq2 HLN HV1 HA HS HR
  have y0 := s2.cell 0
  have y1 := s2.cell 1
  have km : at_ % ((X.length : Int) + 1) < (X.length : Int) + 1 := Int.emod_lt_of_pos _ (by omega)
  have km0 : 0 ≤ at_ % ((X.length : Int) + 1) := Int.emod_nonneg _ (by omega)
  have vm : va % (2 * (X.length : Int)) < 2 * (X.length : Int) := Int.emod_lt_of_pos _ (by omega)
  have vm0 : 0 ≤ va % (2 * (X.length : Int)) := Int.emod_nonneg _ (by omega)
  obtain ⟨X2, O2, hst, hl2, hl2', hdiff⟩ := sta_ok (a := at_ % ((X.length : Int) + 1)) (v := va % (2 * (X.length : Int))) HV.out t8' ⟨km0, km⟩ ⟨vm0, vm⟩
  have HST := Lib.hid hst
  have HL2 := Lib.hid hl2
  have HL2' := Lib.hid hl2'
  have HDF := Lib.hid hdiff
  have HRG := Lib.hid (show 0 ≤ gt X2 (at_ % ((X.length : Int) + 1)).toNat ∧ gt X2 (at_ % ((X.length : Int) + 1)).toNat ≤ 1000 ∧ 0 ≤ gt O2 (at_ % ((X.length : Int) + 1)).toNat ∧ gt O2 (at_ % ((X.length : Int) + 1)).toNat ≤ 1000 by
    have hvd := applyM_res_vd hst
    have h1 := hvd.pX.gt_rng (i := (at_ % ((X.length : Int) + 1)).toNat) (by omega)
    have h2 := hvd.pO.gt_rng (i := (at_ % ((X.length : Int) + 1)).toNat) (by omega)
    omega)
  clear hst hl2 hl2' hdiff
  have nn1 : ((X.length : Int) + 1 == 0) = false := beq_eq_false_iff_ne.2 (by omega)
  go_wp2_with fail
  generalize at_ % ((X.length : Int) + 1) = kk at *
  obtain ⟨kk, rfl⟩ := Int.eq_ofNat_of_zero_le km0
  rw [Int.toNat_natCast] at HDF HRG
  have nz : ((2 * (X.length : Int)) == 0) = false := beq_eq_false_iff_ne.2 (by omega)
  have nz2 : ¬ (2 * (X.length : Int) = 0) := by omega
  have nz3 : ¬ (X = []) := by intro h; rw [h] at h2; simp at h2
  have nz4 : ¬ (X.length = 0) := by omega
  have e1 : va.tmod (2 * (X.length : Int)) = va % (2 * (X.length : Int)) := Int.tmod_eq_emod_of_nonneg (by omega)
  have hby17 := hbw17.size
  have HAP := Lib.hid (fun (W : World) (hS : W.cell? ⟨w.heap.size, 0, none⟩ = some (.slice A X.length c) ∧ W.cell? ⟨w.heap.size, 1, none⟩ = some (.slice A' O.length c') ∧ Below w17.heap.size w17 W) => apply_rf (.slice A X.length c) (.slice A' O.length c') X O 4 false kk (va % (2 * (X.length : Int))) W (hX0.below (hbw17.trans (Below.mono hS.2.2 hbw17.size))) (hO0.below (hbw17.trans (Below.mono hS.2.2 hbw17.size))) (by omega) (by omega))
  rw [HST.out] at HAP
  have KS := Lib.hid (fun (W : World) (hb : Below w17.heap.size w17 W) => (⟨(hb.cell s2.lt).trans y0, (hb.cell s2.lt).trans y1, hb⟩ : W.cell? ⟨w.heap.size, 0, none⟩ = some (.slice A X.length c) ∧ W.cell? ⟨w.heap.size, 1, none⟩ = some (.slice A' O.length c') ∧ Below w17.heap.size w17 W))
  have HJ := Lib.hid (fun (W W' : World) (hS : W.cell? ⟨w.heap.size, 0, none⟩ = some (.slice A X.length c) ∧ W.cell? ⟨w.heap.size, 1, none⟩ = some (.slice A' O.length c') ∧ Below w17.heap.size w17 W) (hb : Below W.heap.size W W') => Below.trans hS.2.2 (hb.mono hS.2.2.size))
  have HLL := Lib.hid (show X2.length = X.length + 1 ∧ O2.length = X.length + 1 from ⟨HL2.out, HL2'.out⟩)
  clear HST HL2 HL2' nn1
  have w1 : IntKind.i64.wrap (2 * (X.length : Int)) = 2 * (X.length : Int) := IntWalk.i64_in _ (by omega)
  have w2 : IntKind.i64.wrap va = va := IntWalk.i64_in _ (by omega)
  go_cut [21, 22] (fun s21 s22 wx => s22 = .int .i64 0 ∧ ∃ g A0 n0 c0 A1 n1 c1, s21 = .pointer (some ⟨g, 0, none⟩) ∧ Arr wx g 24 [.slice A0 n0 c0, .slice A1 n1 c1] ∧ Ints wx (.slice A0 n0 c0) X2 ∧ Ints wx (.slice A1 n1 c1) O2 ∧ Below w.heap.size w wx)
  case first =>
    go_region_held3 (fun w' => w'.cell? ⟨w.heap.size, 0, none⟩ = some (.slice A X.length c) ∧ w'.cell? ⟨w.heap.size, 1, none⟩ = some (.slice A' O.length c') ∧ Below w17.heap.size w17 w') ((refine KS.out _ ?_; repeat (first | exact Below.refl _ _ | exact hb19 | refine Below.drew ?_ | refine Below.alloc ?_ (by first | exact hb19.size | exact Nat.le_refl _) _ | refine Below.setCell ?_ (by first | exact hb19.size | exact Nat.le_refl _) _)))
      (first | (go_at_call 13; refine (HAP.out _ (by assumption)).mono ?_; rintro e w18 ⟨hb18, A0, n0, k0, A1, n1, k1, rfl, i0, i1⟩; have hb19 := HJ.out _ _ (by assumption) hb18; (first | have hz7 := allocked hb18 | have hz7 := allockedD hb18 | skip); (first | (have x0 := Arr.cell hz7 0; have x1 := Arr.cell hz7 1; have x2 := Arr.frozen hz7 0; have x3 := Arr.frozen hz7 1) | skip)))
    · go_wp2_with fail
      go_meet
      exact ⟨rfl, w18.heap.size, _, _, _, _, _, _, rfl, Arr.new w18 _ [_, _], i0.ints.alloc _, i1.ints.alloc _, hbw17.trans ((hb19.alloc hb19.size _).mono hby17)⟩
    · go_wp2_with fail
      go_meet
      exact ⟨rfl, w17.heap.size, _, _, _, _, _, _, rfl, (hz7.set 0 _).set 1 _, i0.set2 (by simp) _ _ _ _, i1.set2 (by simp) _ _ _ _, hbw17.trans ((bset2 (r := w17.heap.size) hb19 (Nat.le_refl _)).mono hby17)⟩
  case rest =>
    clear KS HJ HAP w1 w2 e1 nz nz2 nz3 nz4 y0 y1 s2
    obtain ⟨rfl, g, A2, n2, c2, A3, n3, c3, rfl, hg, i0, i1, hbw⟩ := hcut
    obtain ⟨hl1, hl2⟩ := HLL.out
    obtain ⟨_, _, e0, _, _⟩ := id i0
    injection e0 with ea e0 eb
    clear ea eb
    obtain ⟨_, _, e1, _, _⟩ := id i1
    injection e1 with ea e1 eb
    clear ea eb
    rw [hl1] at e0
    rw [hl2] at e1
    subst e0 e1
    have lk : kk < X2.length := by omega
    have lk' : kk < O2.length := by omega
    obtain ⟨b1, o1, rfl, _, c1⟩ := i0.at_ lk
    obtain ⟨b2, o2, rfl, _, c2'⟩ := i1.at_ lk'
    rw [← gt_get lk] at c1
    rw [← gt_get lk'] at c2'
    generalize gt X2 kk = x2 at *
    generalize gt O2 kk = y2 at *
    have hrng : 0 ≤ x2 ∧ x2 ≤ 1000 ∧ 0 ≤ y2 ∧ y2 ≤ 1000 := HRG.out
    obtain ⟨rg1, rg2, rg3, rg4⟩ := hrng
    have x0 := hg.cell 0
    have x1 := hg.cell 1
    have ne1 : (((X.length + 1 : Nat) : Int) != (X.length : Int) + 1) = false := by simp
    clear hl1 hl2
    have w3 : IntKind.i64.wrap (x2 - y2) = x2 - y2 := IntWalk.i64_in _ (by omega)
    go_wp2_with fail
    go_quiet (fail)
    clear w3 c1 c2' x0 x1
    generalize x2 - y2 = d at *
    rcases HDF.out with hd | hd
    · subst hd
      go_wp2_with fail
      go_ret
      exact ⟨rfl, bdrewN hbw _⟩
    · subst hd
      go_wp2_with fail
      go_ret
      exact ⟨rfl, bdrewN hbw _⟩

set_option maxRecDepth 100000 in
set_option maxHeartbeats 8000000 in
theorem translates_true (vx vo : Value) (X O : List Int) (at_ va : Int) (w : World) (hX : Ints w vx X) (hO : Ints w vo O) (ha : 0 ≤ at_ ∧ at_ ≤ 255) (hva : 0 ≤ va ∧ va ≤ 255) :
    Calls Try.prog 10 #[.agg #[vx, vo], .bool true, .int .u8 at_, .int .u8 va] w fun e w' => e = .returned (.bool true) ∧ Below w.heap.size w w' := by
  have hX0 := hX
  have hO0 := hO
  obtain ⟨A, c, rfl, hc, hh⟩ := hX
  obtain ⟨A', c', rfl, hc', hh'⟩ := hO
  clear hh hh'
  obtain ⟨ha0, ha1⟩ := ha
  obtain ⟨hv0, hv1⟩ := hva
  go_enter Try.func10, Try.ntmps10
  go_wp2_with fail
  have hW : Arr (w.alloc (.cells #[.slice A X.length c, .slice A' O.length c'] 24)) w.heap.size 24 [.slice A X.length c, .slice A' O.length c'] ∧ Below w.heap.size w (w.alloc (.cells #[.slice A X.length c, .slice A' O.length c'] 24)) := ⟨Arr.new _ _ [_, _], (Below.refl _ _).alloc (Nat.le_refl _) _⟩
  generalize w.alloc (.cells #[.slice A X.length c, .slice A' O.length c'] 24) = w4 at hW ⊢
  obtain ⟨q0, hb4⟩ := hW
  refine (awake_any _).mono ?_
  rintro e w5 ⟨rfl, hb5⟩
  have hbw5 := hb4.trans (hb5.mono hb4.size)
  have p0 := q0.below hb5 q0.lt
  clear q0 hb5 hb4
  have y0 := p0.cell 0
  have y1 := p0.cell 1
  go_wp2_with fail
  refine (great_any _ _ _ _ _ _ _).mono ?_
  rintro e w6 ⟨rfl, hb6⟩
  have hbw6 := hbw5.trans (hb6.mono hbw5.size)
  have r0 := p0.below hb6 p0.lt
  clear p0 hb6 hbw5 y0 y1
  have y0 := r0.cell 0
  have y1 := r0.cell 1
  cases hg : greatB X.length O.length with
  | true =>
    clear hg
    go_wp2_with fail
    go_ret
    exact ⟨rfl, hbw6⟩
  | false =>
  have hg' : X.length ≤ 50 ∧ O.length ≤ 50 := by simp only [greatB, decide_eq_false_iff_not] at hg; omega
  clear hg
  obtain ⟨gl, gl'⟩ := hg'
  by_cases t8 : 8 < X.length
  · have u8 : decide (8 < (X.length : Int)) = true := by simp; omega
    go_wp2_with fail
    go_ret
    exact ⟨rfl, hbw6⟩
  have u8 : decide (8 < (X.length : Int)) = false := by simp; omega
  have t8' : X.length ≤ 8 := by omega
  clear t8
  go_wp2_with fail
  refine (valid_any _ _ X O _ (hX0.below hbw6) (hO0.below hbw6) (by omega) (by omega)).mono ?_
  rintro e w7 ⟨rfl, hb7⟩
  have hbw7 := hbw6.trans (hb7.mono hbw6.size)
  have s0 := r0.below hb7 r0.lt
  clear r0 hb7 hbw6 y0 y1 u8
  have y0 := s0.cell 0
  have y1 := s0.cell 1
  cases hvB : validB X O with
  | false =>
    clear hvB
    go_wp2_with fail
    go_ret
    exact ⟨rfl, hbw7⟩
  | true =>
  have HV := Lib.hid ((validB_iff X O).1 hvB)
  have HL := Lib.hid HV.out.len
  have h2 := HV.out.two
  clear hvB
  have HR := Lib.hid (shift_eq (rows := true) HV.out)
  obtain ⟨c0, r0, hc0, hr0, HS⟩ : ∃ c0 r0 : Nat, c0 < X.length ∧ r0 < X.length ∧ Hid (shiftM X O 0 (-1) = (0, trl c0 r0 X, trl c0 r0 O)) := by
    refine ⟨_, _, ?_, ?_, by show shiftM X O 0 (-1) = _; unfold shiftM; rw [if_neg (by rw [(validB_iff X O).2 HV.out]; simp)]⟩
    · have := Int.emod_lt_of_pos 0 (show (0 : Int) < X.length by omega); have := Int.emod_nonneg 0 (show (X.length : Int) ≠ 0 by omega); omega
    · have := Int.emod_lt_of_pos (-1) (show (0 : Int) < X.length by omega); have := Int.emod_nonneg (-1) (show (X.length : Int) ≠ 0 by omega); omega
  have HA := Lib.hid (show applyM X O 1 true 0 0 = (0, trl c0 r0 X, trl c0 r0 O) by rw [HR.out]; simpa using HS.out)
  have HV1 := Lib.hid (applyM_res_vd HA.out)
  have ln1 : (trl c0 r0 X).length = X.length := trl_length _ _ _
  have HLN := Lib.hid ln1
  have HLE := Lib.hid (fun p q (h1 : IsL (trl c0 r0 X) (trl c0 r0 O) (trl c0 r0 X).length p) (h2 : IsL X O X.length q) => least_trl HV.out hc0 hr0 h2 (ln1 ▸ h1))
  clear ln1 hc0 hr0
  generalize trl c0 r0 X = X1 at *
  generalize trl c0 r0 O = O1 at *
  have l40 : X1.length ≤ 1000 := by have := HLN.out; omega
  have l40' : O1.length ≤ 1000 := by have := HLN.out; have := HV1.out.len; omega
  -- Apply
  go_wp2_with fail
  refine (apply_rd _ _ X O 1 true 0 0 _ (hX0.below hbw7) (hO0.below hbw7) (by omega) (by omega)).mono ?_
  rw [HA.out]
  rintro e w8 ⟨hb8, A0, n0, k0, A1, n1, k1, rfl, i0, i1⟩
  simp only at i0 i1
  have hbw8 := hbw7.trans (hb8.mono hbw7.size)
  have b0 := s0.below hb8 s0.lt
  have lb := b0.lt
  have hW : Arr (w8.alloc (.cells #[.slice A0 n0 k0, .slice A1 n1 k1] 24)) w8.heap.size 24 [.slice A0 n0 k0, .slice A1 n1 k1] ∧ Arr (w8.alloc (.cells #[.slice A0 n0 k0, .slice A1 n1 k1] 24)) w.heap.size 24 [.slice A X.length c, .slice A' O.length c'] ∧ Ints (w8.alloc (.cells #[.slice A0 n0 k0, .slice A1 n1 k1] 24)) (.slice A0 n0 k0) X1 ∧ Ints (w8.alloc (.cells #[.slice A0 n0 k0, .slice A1 n1 k1] 24)) (.slice A1 n1 k1) O1 ∧ Below w.heap.size w (w8.alloc (.cells #[.slice A0 n0 k0, .slice A1 n1 k1] 24)) := ⟨Arr.new _ _ [_, _], b0.alloc _, i0.alloc _, i1.alloc _, hbw8.alloc hbw8.size _⟩
  have dd0 := (b0.alloc (.cells #[.slice A0 n0 k0, .slice A1 n1 k1] 24)).cell 0
  have dd1 := (b0.alloc (.cells #[.slice A0 n0 k0, .slice A1 n1 k1] 24)).cell 1
  clear y0 y1 s0 b0 hb8 hbw7 hbw8 i0 i1
  go_wp2_with fail
  clear dd0 dd1
  generalize w8.heap.size = g11 at *
  generalize w8.alloc (.cells #[.slice A0 n0 k0, .slice A1 n1 k1] 24) = w9 at hW ⊢
  obtain ⟨ga, s0, i0, i1, hbw9⟩ := hW
  -- Shift
  refine (shift_any _ _ X O 0 (-1) _ (hX0.below hbw9) (hO0.below hbw9) (by omega) (by omega)).mono ?_
  rw [HS.out]
  rintro e w10 ⟨hb10, v10, rfl, hg10⟩
  rw [if_pos rfl] at hg10
  obtain ⟨gx, go, rfl, _, _, _, ax, ao⟩ := hg10
  have hbw10 := hbw9.trans (hb10.mono hbw9.size)
  have b0 := s0.below hb10 s0.lt
  have ga1 := ga.below hb10 ga.lt
  have i0' := i0.below hb10
  have i1' := i1.below hb10
  have lb := b0.lt
  have lg := ga1.lt
  have hW : Arr (w10.alloc (.cells #[.slice (some ⟨gx, 0, none⟩) X1.length X1.length, .slice (some ⟨go, 0, none⟩) O1.length O1.length] 24)) w10.heap.size 24 [.slice (some ⟨gx, 0, none⟩) X1.length X1.length, .slice (some ⟨go, 0, none⟩) O1.length O1.length] ∧ Arr (w10.alloc (.cells #[.slice (some ⟨gx, 0, none⟩) X1.length X1.length, .slice (some ⟨go, 0, none⟩) O1.length O1.length] 24)) w.heap.size 24 [.slice A X.length c, .slice A' O.length c'] ∧ Arr (w10.alloc (.cells #[.slice (some ⟨gx, 0, none⟩) X1.length X1.length, .slice (some ⟨go, 0, none⟩) O1.length O1.length] 24)) g11 24 [.slice A0 n0 k0, .slice A1 n1 k1] ∧ Ints (w10.alloc (.cells #[.slice (some ⟨gx, 0, none⟩) X1.length X1.length, .slice (some ⟨go, 0, none⟩) O1.length O1.length] 24)) (.slice A0 n0 k0) X1 ∧ Ints (w10.alloc (.cells #[.slice (some ⟨gx, 0, none⟩) X1.length X1.length, .slice (some ⟨go, 0, none⟩) O1.length O1.length] 24)) (.slice A1 n1 k1) O1 ∧ Ints (w10.alloc (.cells #[.slice (some ⟨gx, 0, none⟩) X1.length X1.length, .slice (some ⟨go, 0, none⟩) O1.length O1.length] 24)) (.slice (some ⟨gx, 0, none⟩) X1.length X1.length) X1 ∧ Ints (w10.alloc (.cells #[.slice (some ⟨gx, 0, none⟩) X1.length X1.length, .slice (some ⟨go, 0, none⟩) O1.length O1.length] 24)) (.slice (some ⟨go, 0, none⟩) O1.length O1.length) O1 ∧ Below w.heap.size w (w10.alloc (.cells #[.slice (some ⟨gx, 0, none⟩) X1.length X1.length, .slice (some ⟨go, 0, none⟩) O1.length O1.length] 24)) :=
    ⟨Arr.new _ _ [_, _], b0.alloc _, ga1.alloc _, i0'.alloc _, i1'.alloc _, (Ints.of_arr ax).alloc _, (Ints.of_arr ao).alloc _, hbw10.alloc hbw10.size _⟩
  have dd0 := (ga1.alloc (.cells #[.slice (some ⟨gx, 0, none⟩) X1.length X1.length, .slice (some ⟨go, 0, none⟩) O1.length O1.length] 24)).cell 0
  have dd1 := (ga1.alloc (.cells #[.slice (some ⟨gx, 0, none⟩) X1.length X1.length, .slice (some ⟨go, 0, none⟩) O1.length O1.length] 24)).cell 1
  clear s0 b0 ga ga1 i0 i1 i0' i1' hb10 hbw9 hbw10 ax ao
  go_wp2_with fail
  clear dd0 dd1
  generalize w10.heap.size = g13 at *
  generalize w10.alloc (.cells #[.slice (some ⟨gx, 0, none⟩) X1.length X1.length, .slice (some ⟨go, 0, none⟩) O1.length O1.length] 24) = w11 at hW ⊢
  obtain ⟨gb, s0, ga, i0, i1, j0, j1, hbw11⟩ := hW
  -- Least of a
  refine (least_any _ _ X1 O1 _ i0 i1 HV1.out).mono ?_
  rintro e w12 ⟨p, P0, m0, P1, m1, rfl, ⟨x0, x1⟩, hisl, hb12⟩
  have HI1 := Lib.hid hisl
  clear hisl
  have hbw12 := hbw11.trans (hb12.mono hbw11.size)
  have hW : Arr (w12.alloc (.cells #[.slice P0 X1.length m0, .slice P1 X1.length m1] 24)) w12.heap.size 24 [.slice P0 X1.length m0, .slice P1 X1.length m1] ∧ Arr (w12.alloc (.cells #[.slice P0 X1.length m0, .slice P1 X1.length m1] 24)) w.heap.size 24 [.slice A X.length c, .slice A' O.length c'] ∧ Arr (w12.alloc (.cells #[.slice P0 X1.length m0, .slice P1 X1.length m1] 24)) g11 24 [.slice A0 n0 k0, .slice A1 n1 k1] ∧ Arr (w12.alloc (.cells #[.slice P0 X1.length m0, .slice P1 X1.length m1] 24)) g13 24 [.slice (some ⟨gx, 0, none⟩) X1.length X1.length, .slice (some ⟨go, 0, none⟩) O1.length O1.length] ∧ Ints (w12.alloc (.cells #[.slice P0 X1.length m0, .slice P1 X1.length m1] 24)) (.slice A0 n0 k0) X1 ∧ Ints (w12.alloc (.cells #[.slice P0 X1.length m0, .slice P1 X1.length m1] 24)) (.slice A1 n1 k1) O1 ∧ Ints (w12.alloc (.cells #[.slice P0 X1.length m0, .slice P1 X1.length m1] 24)) (.slice (some ⟨gx, 0, none⟩) X1.length X1.length) X1 ∧ Ints (w12.alloc (.cells #[.slice P0 X1.length m0, .slice P1 X1.length m1] 24)) (.slice (some ⟨go, 0, none⟩) O1.length O1.length) O1 ∧ Ints (w12.alloc (.cells #[.slice P0 X1.length m0, .slice P1 X1.length m1] 24)) (.slice P0 X1.length m0) p.1 ∧ Ints (w12.alloc (.cells #[.slice P0 X1.length m0, .slice P1 X1.length m1] 24)) (.slice P1 X1.length m1) p.2 ∧ Below w.heap.size w (w12.alloc (.cells #[.slice P0 X1.length m0, .slice P1 X1.length m1] 24)) :=
    ⟨Arr.new _ _ [_, _], (s0.below hb12 s0.lt).alloc _, (ga.below hb12 ga.lt).alloc _, (gb.below hb12 gb.lt).alloc _, (i0.below hb12).alloc _, (i1.below hb12).alloc _, (j0.below hb12).alloc _, (j1.below hb12).alloc _, x0.alloc _, x1.alloc _, hbw12.alloc hbw12.size _⟩
  have lb := (s0.below hb12 s0.lt).lt
  have dd0 := ((s0.below hb12 s0.lt).alloc (.cells #[.slice P0 X1.length m0, .slice P1 X1.length m1] 24)).cell 0
  have dd1 := ((s0.below hb12 s0.lt).alloc (.cells #[.slice P0 X1.length m0, .slice P1 X1.length m1] 24)).cell 1
  clear s0 ga gb i0 i1 j0 j1 x0 x1 hb12 hbw11 hbw12
  go_wp2_with fail
  clear dd0 dd1
  generalize w12.heap.size = g15 at *
  generalize w12.alloc (.cells #[.slice P0 X1.length m0, .slice P1 X1.length m1] 24) = w13 at hW ⊢
  obtain ⟨gp, s0, ga, gb, i0, i1, j0, j1, x0, x1, hbw13⟩ := hW
  -- Least of g
  refine (least_any _ _ X O _ (hX0.below hbw13) (hO0.below hbw13) HV.out).mono ?_
  rintro e w14 ⟨q, Q0, d0, Q1, d1, rfl, ⟨z0, z1⟩, hisl, hb14⟩
  have HPQ := Lib.hid (HLE.out p q HI1.out hisl)
  clear hisl HI1
  rw [HPQ.out] at x0 x1
  have hbw14 := hbw13.trans (hb14.mono hbw13.size)
  have hW : Arr (w14.alloc (.cells #[.slice Q0 X.length d0, .slice Q1 X.length d1] 24)) w14.heap.size 24 [.slice Q0 X.length d0, .slice Q1 X.length d1] ∧ Arr (w14.alloc (.cells #[.slice Q0 X.length d0, .slice Q1 X.length d1] 24)) w.heap.size 24 [.slice A X.length c, .slice A' O.length c'] ∧ Arr (w14.alloc (.cells #[.slice Q0 X.length d0, .slice Q1 X.length d1] 24)) g11 24 [.slice A0 n0 k0, .slice A1 n1 k1] ∧ Arr (w14.alloc (.cells #[.slice Q0 X.length d0, .slice Q1 X.length d1] 24)) g13 24 [.slice (some ⟨gx, 0, none⟩) X1.length X1.length, .slice (some ⟨go, 0, none⟩) O1.length O1.length] ∧ Arr (w14.alloc (.cells #[.slice Q0 X.length d0, .slice Q1 X.length d1] 24)) g15 24 [.slice P0 X1.length m0, .slice P1 X1.length m1] ∧ Ints (w14.alloc (.cells #[.slice Q0 X.length d0, .slice Q1 X.length d1] 24)) (.slice A0 n0 k0) X1 ∧ Ints (w14.alloc (.cells #[.slice Q0 X.length d0, .slice Q1 X.length d1] 24)) (.slice A1 n1 k1) O1 ∧ Ints (w14.alloc (.cells #[.slice Q0 X.length d0, .slice Q1 X.length d1] 24)) (.slice (some ⟨gx, 0, none⟩) X1.length X1.length) X1 ∧ Ints (w14.alloc (.cells #[.slice Q0 X.length d0, .slice Q1 X.length d1] 24)) (.slice (some ⟨go, 0, none⟩) O1.length O1.length) O1 ∧ Ints (w14.alloc (.cells #[.slice Q0 X.length d0, .slice Q1 X.length d1] 24)) (.slice P0 X1.length m0) q.1 ∧ Ints (w14.alloc (.cells #[.slice Q0 X.length d0, .slice Q1 X.length d1] 24)) (.slice P1 X1.length m1) q.2 ∧ Ints (w14.alloc (.cells #[.slice Q0 X.length d0, .slice Q1 X.length d1] 24)) (.slice Q0 X.length d0) q.1 ∧ Ints (w14.alloc (.cells #[.slice Q0 X.length d0, .slice Q1 X.length d1] 24)) (.slice Q1 X.length d1) q.2 ∧ Below w.heap.size w (w14.alloc (.cells #[.slice Q0 X.length d0, .slice Q1 X.length d1] 24)) :=
    ⟨Arr.new _ _ [_, _], (s0.below hb14 s0.lt).alloc _, (ga.below hb14 ga.lt).alloc _, (gb.below hb14 gb.lt).alloc _, (gp.below hb14 gp.lt).alloc _, (i0.below hb14).alloc _, (i1.below hb14).alloc _, (j0.below hb14).alloc _, (j1.below hb14).alloc _, (x0.below hb14).alloc _, (x1.below hb14).alloc _, z0.alloc _, z1.alloc _, hbw14.alloc hbw14.size _⟩
  have la := (ga.below hb14 ga.lt).lt
  have lb' := (gb.below hb14 gb.lt).lt
  have da0 := ((ga.below hb14 ga.lt).alloc (.cells #[.slice Q0 X.length d0, .slice Q1 X.length d1] 24)).cell 0
  have da1 := ((ga.below hb14 ga.lt).alloc (.cells #[.slice Q0 X.length d0, .slice Q1 X.length d1] 24)).cell 1
  have db0 := ((gb.below hb14 gb.lt).alloc (.cells #[.slice Q0 X.length d0, .slice Q1 X.length d1] 24)).cell 0
  have db1 := ((gb.below hb14 gb.lt).alloc (.cells #[.slice Q0 X.length d0, .slice Q1 X.length d1] 24)).cell 1
  clear s0 ga gb gp i0 i1 j0 j1 x0 x1 z0 z1 hb14 hbw13 hbw14 HPQ HLE
  go_wp2_with fail
  clear da0 da1 db0 db1
  generalize w14.heap.size = g17 at *
  generalize w14.alloc (.cells #[.slice Q0 X.length d0, .slice Q1 X.length d1] 24) = w15 at hW ⊢
  obtain ⟨gq, s0, ga, gb, gp, i0, i1, j0, j1, x0, x1, z0, z1, hbw15⟩ := hW
  obtain ⟨lq1, lq2⟩ : q.1.length ≤ 1000000 ∧ q.2.length ≤ 1000000 := by
    obtain ⟨_, _, h1, _⟩ := z0
    injection h1 with _ h1 _
    obtain ⟨_, _, h2, _⟩ := z1
    injection h2 with _ h2 _
    omega
  refine (same_any _ _ _ _ X1 O1 X1 O1 _ i0 i1 j0 j1 (by omega) (by omega)).mono ?_
  rintro e w16 ⟨rfl, hb16⟩
  rw [show decide (X1 = X1 ∧ O1 = O1) = true by simp]
  have hbw16 := hbw15.trans (hb16.mono hbw15.size)
  have s1 := s0.below hb16 s0.lt
  have gp1 := gp.below hb16 gp.lt
  have gq1 := gq.below hb16 gq.lt
  have x0' := x0.below hb16
  have x1' := x1.below hb16
  have z0' := z0.below hb16
  have z1' := z1.below hb16
  clear hb16 hbw15 s0 ga gb gp gq i0 i1 j0 j1 x0 x1 z0 z1
  have dp0 := gp1.cell 0
  have dp1 := gp1.cell 1
  have dq0 := gq1.cell 0
  have dq1 := gq1.cell 1
  go_wp2_with fail
  refine (same_any _ _ _ _ q.1 q.2 q.1 q.2 _ x0' x1' z0' z1' lq1 lq2).mono ?_
  rintro e w17 ⟨rfl, hb17⟩
  rw [show decide (q.1 = q.1 ∧ q.2 = q.2) = true by simp]
  have hbw17 := hbw16.trans (hb17.mono hbw16.size)
  have s2 := s1.below hb17 s1.lt
  clear hb17 hbw16 s1 gp1 gq1 x0' x1' z0' z1' dp0 dp1 dq0 dq1 lq1 lq2 HLN HV1 HA HS HR
  have y0 := s2.cell 0
  have y1 := s2.cell 1
  have km : at_ % ((X.length : Int) + 1) < (X.length : Int) + 1 := Int.emod_lt_of_pos _ (by omega)
  have km0 : 0 ≤ at_ % ((X.length : Int) + 1) := Int.emod_nonneg _ (by omega)
  have vm : va % (2 * (X.length : Int)) < 2 * (X.length : Int) := Int.emod_lt_of_pos _ (by omega)
  have vm0 : 0 ≤ va % (2 * (X.length : Int)) := Int.emod_nonneg _ (by omega)
  obtain ⟨X2, O2, hst, hl2, hl2', hdiff⟩ := sta_ok (a := at_ % ((X.length : Int) + 1)) (v := va % (2 * (X.length : Int))) HV.out t8' ⟨km0, km⟩ ⟨vm0, vm⟩
  have HST := Lib.hid hst
  have HL2 := Lib.hid hl2
  have HL2' := Lib.hid hl2'
  have HDF := Lib.hid hdiff
  have HRG := Lib.hid (show 0 ≤ gt X2 (at_ % ((X.length : Int) + 1)).toNat ∧ gt X2 (at_ % ((X.length : Int) + 1)).toNat ≤ 1000 ∧ 0 ≤ gt O2 (at_ % ((X.length : Int) + 1)).toNat ∧ gt O2 (at_ % ((X.length : Int) + 1)).toNat ≤ 1000 by
    have hvd := applyM_res_vd hst
    have h1 := hvd.pX.gt_rng (i := (at_ % ((X.length : Int) + 1)).toNat) (by omega)
    have h2 := hvd.pO.gt_rng (i := (at_ % ((X.length : Int) + 1)).toNat) (by omega)
    omega)
  clear hst hl2 hl2' hdiff
  have nn1 : ((X.length : Int) + 1 == 0) = false := beq_eq_false_iff_ne.2 (by omega)
  go_wp2_with fail
  generalize at_ % ((X.length : Int) + 1) = kk at *
  obtain ⟨kk, rfl⟩ := Int.eq_ofNat_of_zero_le km0
  rw [Int.toNat_natCast] at HDF HRG
  have nz : ((2 * (X.length : Int)) == 0) = false := beq_eq_false_iff_ne.2 (by omega)
  have nz2 : ¬ (2 * (X.length : Int) = 0) := by omega
  have nz3 : ¬ (X = []) := by intro h; rw [h] at h2; simp at h2
  have nz4 : ¬ (X.length = 0) := by omega
  have e1 : va.tmod (2 * (X.length : Int)) = va % (2 * (X.length : Int)) := Int.tmod_eq_emod_of_nonneg (by omega)
  have hby17 := hbw17.size
  have HAP := Lib.hid (fun (W : World) (hS : W.cell? ⟨w.heap.size, 0, none⟩ = some (.slice A X.length c) ∧ W.cell? ⟨w.heap.size, 1, none⟩ = some (.slice A' O.length c') ∧ Below w17.heap.size w17 W) => apply_rf (.slice A X.length c) (.slice A' O.length c') X O 4 false kk (va % (2 * (X.length : Int))) W (hX0.below (hbw17.trans (Below.mono hS.2.2 hbw17.size))) (hO0.below (hbw17.trans (Below.mono hS.2.2 hbw17.size))) (by omega) (by omega))
  rw [HST.out] at HAP
  have KS := Lib.hid (fun (W : World) (hb : Below w17.heap.size w17 W) => (⟨(hb.cell s2.lt).trans y0, (hb.cell s2.lt).trans y1, hb⟩ : W.cell? ⟨w.heap.size, 0, none⟩ = some (.slice A X.length c) ∧ W.cell? ⟨w.heap.size, 1, none⟩ = some (.slice A' O.length c') ∧ Below w17.heap.size w17 W))
  have HJ := Lib.hid (fun (W W' : World) (hS : W.cell? ⟨w.heap.size, 0, none⟩ = some (.slice A X.length c) ∧ W.cell? ⟨w.heap.size, 1, none⟩ = some (.slice A' O.length c') ∧ Below w17.heap.size w17 W) (hb : Below W.heap.size W W') => Below.trans hS.2.2 (hb.mono hS.2.2.size))
  have HLL := Lib.hid (show X2.length = X.length + 1 ∧ O2.length = X.length + 1 from ⟨HL2.out, HL2'.out⟩)
  clear HST HL2 HL2' nn1
  have w1 : IntKind.i64.wrap (2 * (X.length : Int)) = 2 * (X.length : Int) := IntWalk.i64_in _ (by omega)
  have w2 : IntKind.i64.wrap va = va := IntWalk.i64_in _ (by omega)
  go_cut [21, 22] (fun s21 s22 wx => s22 = .int .i64 0 ∧ ∃ g A0 n0 c0 A1 n1 c1, s21 = .pointer (some ⟨g, 0, none⟩) ∧ Arr wx g 24 [.slice A0 n0 c0, .slice A1 n1 c1] ∧ Ints wx (.slice A0 n0 c0) X2 ∧ Ints wx (.slice A1 n1 c1) O2 ∧ Below w.heap.size w wx)
  case first =>
    go_region_held3 (fun w' => w'.cell? ⟨w.heap.size, 0, none⟩ = some (.slice A X.length c) ∧ w'.cell? ⟨w.heap.size, 1, none⟩ = some (.slice A' O.length c') ∧ Below w17.heap.size w17 w') ((refine KS.out _ ?_; repeat (first | exact Below.refl _ _ | exact hb19 | refine Below.drew ?_ | refine Below.alloc ?_ (by first | exact hb19.size | exact Nat.le_refl _) _ | refine Below.setCell ?_ (by first | exact hb19.size | exact Nat.le_refl _) _)))
      (first | (go_at_call 13; refine (HAP.out _ (by assumption)).mono ?_; rintro e w18 ⟨hb18, A0, n0, k0, A1, n1, k1, rfl, i0, i1⟩; have hb19 := HJ.out _ _ (by assumption) hb18; (first | have hz7 := allocked hb18 | have hz7 := allockedD hb18 | skip); (first | (have x0 := Arr.cell hz7 0; have x1 := Arr.cell hz7 1; have x2 := Arr.frozen hz7 0; have x3 := Arr.frozen hz7 1) | skip)))
    · go_wp2_with fail
      go_meet
      exact ⟨rfl, w18.heap.size, _, _, _, _, _, _, rfl, Arr.new w18 _ [_, _], i0.ints.alloc _, i1.ints.alloc _, hbw17.trans ((hb19.alloc hb19.size _).mono hby17)⟩
    · go_wp2_with fail
      go_meet
      exact ⟨rfl, w17.heap.size, _, _, _, _, _, _, rfl, (hz7.set 0 _).set 1 _, i0.set2 (by simp) _ _ _ _, i1.set2 (by simp) _ _ _ _, hbw17.trans ((bset2 (r := w17.heap.size) hb19 (Nat.le_refl _)).mono hby17)⟩
  case rest =>
    clear KS HJ HAP w1 w2 e1 nz nz2 nz3 nz4 y0 y1 s2
    obtain ⟨rfl, g, A2, n2, c2, A3, n3, c3, rfl, hg, i0, i1, hbw⟩ := hcut
    obtain ⟨hl1, hl2⟩ := HLL.out
    obtain ⟨_, _, e0, _, _⟩ := id i0
    injection e0 with ea e0 eb
    clear ea eb
    obtain ⟨_, _, e1, _, _⟩ := id i1
    injection e1 with ea e1 eb
    clear ea eb
    rw [hl1] at e0
    rw [hl2] at e1
    subst e0 e1
    have lk : kk < X2.length := by omega
    have lk' : kk < O2.length := by omega
    obtain ⟨b1, o1, rfl, _, c1⟩ := i0.at_ lk
    obtain ⟨b2, o2, rfl, _, c2'⟩ := i1.at_ lk'
    rw [← gt_get lk] at c1
    rw [← gt_get lk'] at c2'
    generalize gt X2 kk = x2 at *
    generalize gt O2 kk = y2 at *
    have hrng : 0 ≤ x2 ∧ x2 ≤ 1000 ∧ 0 ≤ y2 ∧ y2 ≤ 1000 := HRG.out
    obtain ⟨rg1, rg2, rg3, rg4⟩ := hrng
    have x0 := hg.cell 0
    have x1 := hg.cell 1
    have ne1 : (((X.length + 1 : Nat) : Int) != (X.length : Int) + 1) = false := by simp
    clear hl1 hl2
    have w3 : IntKind.i64.wrap (x2 - y2) = x2 - y2 := IntWalk.i64_in _ (by omega)
    go_wp2_with fail
    go_quiet (fail)
    clear w3 c1 c2' x0 x1
    generalize x2 - y2 = d at *
    rcases HDF.out with hd | hd
    · subst hd
      go_wp2_with fail
      go_ret
      exact ⟨rfl, bdrewN hbw _⟩
    · subst hd
      go_wp2_with fail
      go_ret
      exact ⟨rfl, bdrewN hbw _⟩

theorem translates_any (vx vo : Value) (X O : List Int) (rows : Bool) (at_ va : Int) (w : World) (hX : Ints w vx X) (hO : Ints w vo O) (ha : 0 ≤ at_ ∧ at_ ≤ 255) (hva : 0 ≤ va ∧ va ≤ 255) :
    Calls Try.prog 10 #[.agg #[vx, vo], .bool rows, .int .u8 at_, .int .u8 va] w fun e w' => e = .returned (.bool true) ∧ Below w.heap.size w w' := by
  cases rows
  · exact translates_false vx vo X O at_ va w hX hO ha hva
  · exact translates_true vx vo X O at_ va w hX hO ha hva
end Go.Proofs.Ytgclngoeglopcaa
