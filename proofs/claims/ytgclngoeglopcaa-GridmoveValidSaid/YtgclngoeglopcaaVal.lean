/- GridmoveValid returns true. -/
import Derived.Test.YtgclngoeglopcaaAwake
import Derived.Test.YtgclngoeglopcaaCmp
import Derived.Deep.RegionHeld3
namespace Go.Proofs.Ytgclngoeglopcaa
open Go.RowKit
set_option linter.unusedVariables false

theorem applyM_len {X O X1 O1 : List Int} {k a v : Int} {rows : Bool} (h : applyM X O k rows a v = (0, X1, O1)) :
    (X1.length : Int) = if k = 3 then (X.length : Int) - 1 else if k = 4 then (X.length : Int) + 1 else X.length := by
  obtain ⟨hv, hr, Y, P, hc, rfl, rfl⟩ := applyM_inv h
  have ha := hr.2.1
  have hk := hr.1
  have hl := vw_length rows X
  have h2 := hv.two
  rw [vw_length]
  generalize vw rows X = X' at *
  generalize vw rows O = O' at *
  unfold colsL at hc
  by_cases k1 : k = 1
  · subst k1
    simp at hc
    rw [← hc.1, rotL_length, hl]; simp
  rw [if_neg k1] at hc
  by_cases k2 : k = 2
  · subst k2
    simp only [if_pos] at hc
    split at hc
    · injection hc with _ hc
      injection hc with e1 e2
      subst e1
      rw [swapL_length, hl]; simp
    · cases hc
  rw [if_neg k2] at hc
  by_cases k3 : k = 3
  · subst k3
    simp only [if_pos] at hc
    split at hc
    · injection hc with _ hc
      injection hc with e1 e2
      subst e1
      simp [limAt] at ha
      rw [delL_length _ _ _ (by omega), hl]
      simp; omega
    · cases hc
  rw [if_neg k3] at hc
  have k4 : k = 4 := by omega
  subst k4
  split at hc
  · cases hc
  · injection hc with _ hc
    injection hc with e1 e2
    subst e1
    simp [limAt] at ha
    rw [addL_length _ _ _ _ _ (by omega), hl]
    simp

set_option maxHeartbeats 4000000 in
theorem valid43_any (vx vo : Value) (X O : List Int) (k : Int) (rows : Bool) (a v : Int) (w : World) (hX : Ints w vx X) (hO : Ints w vo O) :
    Calls Try.prog 6 #[.agg #[vx, vo], .agg #[.int .i64 k, .bool rows, .int .i64 a, .int .i64 v]] w fun e w' => e = .returned (.bool true) ∧ Below w.heap.size w w' := by
  have hX0 := hX
  have hO0 := hO
  obtain ⟨A, c, rfl, hc, hh⟩ := hX
  obtain ⟨A', c', rfl, hc', hh'⟩ := hO
  clear hh hh'
  go_enter Try.func6, Try.ntmps6
  go_wp2_with fail
  have hW : Arr ((w.alloc (.cells #[.slice A X.length c, .slice A' O.length c'] 24)).alloc (.cells #[.int .i64 k, .bool rows, .int .i64 a, .int .i64 v] 26)) w.heap.size 24 [.slice A X.length c, .slice A' O.length c'] ∧ Arr ((w.alloc (.cells #[.slice A X.length c, .slice A' O.length c'] 24)).alloc (.cells #[.int .i64 k, .bool rows, .int .i64 a, .int .i64 v] 26)) (w.heap.size + 1) 26 [.int .i64 k, .bool rows, .int .i64 a, .int .i64 v] ∧ Below w.heap.size w ((w.alloc (.cells #[.slice A X.length c, .slice A' O.length c'] 24)).alloc (.cells #[.int .i64 k, .bool rows, .int .i64 a, .int .i64 v] 26)) :=
    ⟨(Arr.new _ _ [_, _]).alloc _, Arr.newAt (w.alloc _) _ [_, _, _, _] _ (by simp), ((Below.refl _ _).alloc (Nat.le_refl _) _).alloc (by simp) _⟩
  generalize ((w.alloc (.cells #[.slice A X.length c, .slice A' O.length c'] 24)).alloc (.cells #[.int .i64 k, .bool rows, .int .i64 a, .int .i64 v] 26)) = w4 at hW ⊢
  obtain ⟨q0, q1, hb4⟩ := hW
  refine (awake_any _).mono ?_
  rintro e w5 ⟨rfl, hb5⟩
  have hbw5 := hb4.trans (hb5.mono hb4.size)
  have p0 := q0.below hb5 q0.lt
  have p1 := q1.below hb5 q1.lt
  clear q0 q1 hb5 hb4
  have y0 := p0.cell 0
  have y1 := p0.cell 1
  go_wp2_with fail
  refine (great_any _ _ _ _ _ _ _).mono ?_
  rintro e w6 ⟨rfl, hb6⟩
  have hbw6 := hbw5.trans (hb6.mono hbw5.size)
  have r0 := p0.below hb6 p0.lt
  have r1 := p1.below hb6 p1.lt
  have hX6 := hX0.below hbw6
  have hO6 := hO0.below hbw6
  clear p0 p1 hb6 hbw5 y0 y1
  have y0 := r0.cell 0
  have y1 := r0.cell 1
  have z0 := r1.cell 0
  have z1 := r1.cell 1
  have z2 := r1.cell 2
  have z3 := r1.cell 3
  cases hg : greatB X.length O.length with
  | true =>
    clear hg
    go_wp2_with fail
    go_ret
    exact ⟨rfl, hbw6⟩
  | false =>
    have hg' : X.length ≤ 50 ∧ O.length ≤ 50 := by simp only [greatB, decide_eq_false_iff_not] at hg; omega
    clear hg
    obtain ⟨gl, gl'⟩ := hg'
    go_wp2_with fail
    refine (apply_rd _ _ X O k rows a v _ hX6 hO6 (by omega) (by omega)).mono ?_
    rintro e w7 ⟨hb7, A0, n0, c0, A1, n1, c1, rfl, i1, i2⟩
    have hbw7 := hbw6.trans (hb7.mono hbw6.size)
    have s0 := r0.below hb7 r0.lt
    have s1 := r1.below hb7 r1.lt
    clear y0 y1 z0 z1 z2 z3 r0 r1 hb7 hX6 hO6
    generalize hR : applyM X O k rows a v = R at *
    obtain ⟨code, X1, O1⟩ := R
    simp only at i1 i2
    have HR := Lib.hid hR
    clear hR
    by_cases h0 : code = 0
    rotate_left
    · have hb0 : (code != 0) = true := by simpa using h0
      clear h0
      go_wp2_with fail
      go_ret
      exact ⟨rfl, hbw7.alloc hbw7.size _⟩
    subst h0
    obtain ⟨D0, d0, e0, hd0, _⟩ := id i1
    injection e0 with e0 e0' e0''
    obtain ⟨D1, d1, e1, hd1, _⟩ := id i2
    injection e1 with e1 e1' e1''
    subst e0 e0' e0'' e1 e1' e1''
    have l0 := s0.lt
    have l1 := s1.lt
    have hW : ∃ g, g = w7.heap.size ∧ Arr (w7.alloc (.cells #[.slice A0 X1.length c0, .slice A1 O1.length c1] 24)) g 24 [.slice A0 X1.length c0, .slice A1 O1.length c1] ∧ Arr (w7.alloc (.cells #[.slice A0 X1.length c0, .slice A1 O1.length c1] 24)) w.heap.size 24 [.slice A X.length c, .slice A' O.length c'] ∧ Arr (w7.alloc (.cells #[.slice A0 X1.length c0, .slice A1 O1.length c1] 24)) (w.heap.size + 1) 26 [.int .i64 k, .bool rows, .int .i64 a, .int .i64 v] ∧ Below w.heap.size w (w7.alloc (.cells #[.slice A0 X1.length c0, .slice A1 O1.length c1] 24)) ∧ Ints (w7.alloc (.cells #[.slice A0 X1.length c0, .slice A1 O1.length c1] 24)) (.slice A0 X1.length c0) X1 ∧ Ints (w7.alloc (.cells #[.slice A0 X1.length c0, .slice A1 O1.length c1] 24)) (.slice A1 O1.length c1) O1 := ⟨_, rfl, Arr.new w7 _ [_, _], s0.alloc _, s1.alloc _, hbw7.alloc hbw7.size _, i1.alloc _, i2.alloc _⟩
    have dd0 := (s0.alloc (.cells #[.slice A0 X1.length c0, .slice A1 O1.length c1] 24)).cell 0
    have dd1 := (s1.alloc (.cells #[.slice A0 X1.length c0, .slice A1 O1.length c1] 24)).cell 0
    have HVD := Lib.hid (applyM_inv HR.out).1
    have HV1 := Lib.hid (applyM_res_vd HR.out)
    have HLN := Lib.hid (applyM_len HR.out)
    have HCC := Lib.hid (comp_apply HR.out)
    have lX1 : X1.length ≤ 40 := HV1.out.most
    have lO1 : O1.length ≤ 40 := by have := HV1.out.len; omega
    go_upto_region 8 with fail
    clear dd0 dd1
    obtain ⟨g, hgw, hW⟩ := hW
    rw [← hgw]
    clear hgw
    generalize w7.alloc (.cells #[.slice A0 X1.length c0, .slice A1 O1.length c1] 24) = w8 at hW ⊢
    clear s0 s1 i1 i2 hbw7
    obtain ⟨g0, s0, s1, hbw8, i1, i2⟩ := hW
    have y0 := s0.cell 0
    have y1 := s0.cell 1
    have y2 := g0.cell 0
    have y3 := g0.cell 1
    have m0 := s1.cell 0
    have KS := Lib.hid (fun W (hb : Below w8.heap.size w8 W) => (⟨(hb.cell s0.lt).trans y0, (hb.cell s0.lt).trans y1, (hb.cell g0.lt).trans y2, (hb.cell g0.lt).trans y3, hb⟩ : W.cell? ⟨w.heap.size, 0, none⟩ = some (.slice A X.length c) ∧ W.cell? ⟨w.heap.size, 1, none⟩ = some (.slice A' O.length c') ∧ W.cell? ⟨g, 0, none⟩ = some (.slice A0 X1.length c0) ∧ W.cell? ⟨g, 1, none⟩ = some (.slice A1 O1.length c1) ∧ Below w8.heap.size w8 W))
    have HJ := Lib.hid (fun W W' (hS : W.cell? ⟨w.heap.size, 0, none⟩ = some (.slice A X.length c) ∧ W.cell? ⟨w.heap.size, 1, none⟩ = some (.slice A' O.length c') ∧ W.cell? ⟨g, 0, none⟩ = some (.slice A0 X1.length c0) ∧ W.cell? ⟨g, 1, none⟩ = some (.slice A1 O1.length c1) ∧ Below w8.heap.size w8 W) (hb : Below W.heap.size W W') => Below.trans hS.2.2.2.2 (hb.mono hS.2.2.2.2.size))
    have HVA := Lib.hid (fun W (hS : W.cell? ⟨w.heap.size, 0, none⟩ = some (.slice A X.length c) ∧ W.cell? ⟨w.heap.size, 1, none⟩ = some (.slice A' O.length c') ∧ W.cell? ⟨g, 0, none⟩ = some (.slice A0 X1.length c0) ∧ W.cell? ⟨g, 1, none⟩ = some (.slice A1 O1.length c1) ∧ Below w8.heap.size w8 W) => valid_any (.slice A0 X1.length c0) (.slice A1 O1.length c1) X1 O1 W (i1.below hS.2.2.2.2) (i2.below hS.2.2.2.2) (by omega) (by omega))
    rw [(validB_iff X1 O1).2 HV1.out] at HVA
    have HC1 := Lib.hid (fun W (hS : W.cell? ⟨w.heap.size, 0, none⟩ = some (.slice A X.length c) ∧ W.cell? ⟨w.heap.size, 1, none⟩ = some (.slice A' O.length c') ∧ W.cell? ⟨g, 0, none⟩ = some (.slice A0 X1.length c0) ∧ W.cell? ⟨g, 1, none⟩ = some (.slice A1 O1.length c1) ∧ Below w8.heap.size w8 W) => components_any (.slice A0 X1.length c0) (.slice A1 O1.length c1) X1 O1 W (i1.below hS.2.2.2.2) (i2.below hS.2.2.2.2) HV1.out)
    rw [HCC.out] at HC1
    have HC2 := Lib.hid (fun W (hS : W.cell? ⟨w.heap.size, 0, none⟩ = some (.slice A X.length c) ∧ W.cell? ⟨w.heap.size, 1, none⟩ = some (.slice A' O.length c') ∧ W.cell? ⟨g, 0, none⟩ = some (.slice A0 X1.length c0) ∧ W.cell? ⟨g, 1, none⟩ = some (.slice A1 O1.length c1) ∧ Below w8.heap.size w8 W) => components_any (.slice A X.length c) (.slice A' O.length c') X O W (hX0.below (hbw8.trans (Below.mono hS.2.2.2.2 hbw8.size))) (hO0.below (hbw8.trans (Below.mono hS.2.2.2.2 hbw8.size))) HVD.out)
    clear HR i1 i2 HCC
    generalize comp X O = cc at *
    have zc : ((cc : Int) == (cc : Int)) = true := by simp
    by_cases k3 : k = 3
    · subst k3
      have z7 : ((X1.length : Int) == ((X.length : Int) - 1)) = true := by simp; have := HLN.out; omega
      go_wp2_with fail
      go_region_held3 (fun w' => w'.cell? ⟨w.heap.size, 0, none⟩ = some (.slice A X.length c) ∧ w'.cell? ⟨w.heap.size, 1, none⟩ = some (.slice A' O.length c') ∧ w'.cell? ⟨g, 0, none⟩ = some (.slice A0 X1.length c0) ∧ w'.cell? ⟨g, 1, none⟩ = some (.slice A1 O1.length c1) ∧ Below w8.heap.size w8 w') ((refine KS.out _ ?_; repeat (first | exact Below.refl _ _ | exact hB1 | exact hB2 | exact hB3 | refine Below.drew ?_)))
        (first
          | (go_at_call 17; refine (HVA.out _ (by assumption)).mono ?_; rintro e w11 ⟨rfl, hb11⟩; have hB1 := HJ.out _ _ (by assumption) hb11; clear hb11)
          | (go_at_call_of 19 (Value.agg #[.slice A0 X1.length c0, .slice A1 O1.length c1]); refine (HC1.out _ (by assumption)).mono ?_; rintro e w12 ⟨rfl, hb12⟩; have hB2 := HJ.out _ _ (by assumption) hb12; clear hb12)
          | (go_at_call_of 19 (Value.agg #[.slice A X.length c, .slice A' O.length c']); refine (HC2.out _ (by assumption)).mono ?_; rintro e w13 ⟨rfl, hb13⟩; have hB3 := HJ.out _ _ (by assumption) hb13; clear hb13))
      go_wp2_with fail
      go_ret
      exact ⟨rfl, hbw8.trans (hB3.mono hbw8.size)⟩

    · have t3 : (k == 3) = false := by simpa using k3
      by_cases k4 : k = 4
      · subst k4
        have z7 : ((X1.length : Int) == ((X.length : Int) + 1)) = true := by simp; have := HLN.out; omega
        go_wp2_with fail
        go_region_held3 (fun w' => w'.cell? ⟨w.heap.size, 0, none⟩ = some (.slice A X.length c) ∧ w'.cell? ⟨w.heap.size, 1, none⟩ = some (.slice A' O.length c') ∧ w'.cell? ⟨g, 0, none⟩ = some (.slice A0 X1.length c0) ∧ w'.cell? ⟨g, 1, none⟩ = some (.slice A1 O1.length c1) ∧ Below w8.heap.size w8 w') ((refine KS.out _ ?_; repeat (first | exact Below.refl _ _ | exact hB1 | exact hB2 | exact hB3 | refine Below.drew ?_)))
          (first
            | (go_at_call 17; refine (HVA.out _ (by assumption)).mono ?_; rintro e w11 ⟨rfl, hb11⟩; have hB1 := HJ.out _ _ (by assumption) hb11; clear hb11)
            | (go_at_call_of 19 (Value.agg #[.slice A0 X1.length c0, .slice A1 O1.length c1]); refine (HC1.out _ (by assumption)).mono ?_; rintro e w12 ⟨rfl, hb12⟩; have hB2 := HJ.out _ _ (by assumption) hb12; clear hb12)
            | (go_at_call_of 19 (Value.agg #[.slice A X.length c, .slice A' O.length c']); refine (HC2.out _ (by assumption)).mono ?_; rintro e w13 ⟨rfl, hb13⟩; have hB3 := HJ.out _ _ (by assumption) hb13; clear hb13))
        go_wp2_with fail
        go_ret
        exact ⟨rfl, hbw8.trans (hB3.mono hbw8.size)⟩

      · have t4 : (k == 4) = false := by simpa using k4
        have z7 : ((X1.length : Int) == (X.length : Int)) = true := by simp; have := HLN.out; omega
        go_wp2_with fail
        go_region_held3 (fun w' => w'.cell? ⟨w.heap.size, 0, none⟩ = some (.slice A X.length c) ∧ w'.cell? ⟨w.heap.size, 1, none⟩ = some (.slice A' O.length c') ∧ w'.cell? ⟨g, 0, none⟩ = some (.slice A0 X1.length c0) ∧ w'.cell? ⟨g, 1, none⟩ = some (.slice A1 O1.length c1) ∧ Below w8.heap.size w8 w') ((refine KS.out _ ?_; repeat (first | exact Below.refl _ _ | exact hB1 | exact hB2 | exact hB3 | refine Below.drew ?_)))
          (first
            | (go_at_call 17; refine (HVA.out _ (by assumption)).mono ?_; rintro e w11 ⟨rfl, hb11⟩; have hB1 := HJ.out _ _ (by assumption) hb11; clear hb11)
            | (go_at_call_of 19 (Value.agg #[.slice A0 X1.length c0, .slice A1 O1.length c1]); refine (HC1.out _ (by assumption)).mono ?_; rintro e w12 ⟨rfl, hb12⟩; have hB2 := HJ.out _ _ (by assumption) hb12; clear hb12)
            | (go_at_call_of 19 (Value.agg #[.slice A X.length c, .slice A' O.length c']); refine (HC2.out _ (by assumption)).mono ?_; rintro e w13 ⟨rfl, hb13⟩; have hB3 := HJ.out _ _ (by assumption) hb13; clear hb13))
        go_wp2_with fail
        go_ret
        exact ⟨rfl, hbw8.trans (hB3.mono hbw8.size)⟩

end Go.Proofs.Ytgclngoeglopcaa
