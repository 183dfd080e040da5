/- cmp.Compare, slices.Compare and grid.compare. -/
import Derived.Test.YtgclngoeglopcaaTls
import Derived.Test.YtgclngoeglopcaaLawC
namespace Go.Proofs.Ytgclngoeglopcaa
open Go.RowKit
set_option linter.unusedVariables false

theorem isNaN_any (x : Int) (w : World) : Calls Try.prog 64 #[.int .i64 x] w fun e w' => e = .returned (.bool false) ∧ w = w' := by
  have h : (x != x) = false := by simp
  go_enter Try.func64, Try.ntmps64
  go_wp2_with fail
  go_ret
  exact ⟨rfl, rfl⟩
def cmpI (x y : Int) : Int := if x < y then -1 else if y < x then 1 else 0
set_option maxHeartbeats 400000 in
theorem cmpCompare_any (x y : Int) (w : World) : Calls Try.prog 63 #[.int .i64 x, .int .i64 y] w fun e w' => e = .returned (.int .i64 (cmpI x y)) ∧ w = w' := by
  by_cases h1 : x < y
  · have hfin := Lib.hid (show cmpI x y = -1 by simp [cmpI, h1])
    go_enter Try.func63, Try.ntmps63
    go_wp2_with fail
    refine (isNaN_any _ _).mono ?_
    rintro e w' ⟨rfl, rfl⟩
    go_wp2_with fail
    refine (isNaN_any _ _).mono ?_
    rintro e w' ⟨rfl, rfl⟩
    go_wp2_with fail
    go_ret
    exact ⟨by rw [hfin.out]; rfl, rfl⟩
  · by_cases h2 : y < x
    · have hfin := Lib.hid (show cmpI x y = 1 by simp [cmpI, h1, h2])
      go_enter Try.func63, Try.ntmps63
      go_wp2_with fail
      refine (isNaN_any _ _).mono ?_
      rintro e w' ⟨rfl, rfl⟩
      go_wp2_with fail
      refine (isNaN_any _ _).mono ?_
      rintro e w' ⟨rfl, rfl⟩
      go_wp2_with fail
      go_ret
      exact ⟨by rw [hfin.out]; rfl, rfl⟩
    · have hfin := Lib.hid (show cmpI x y = 0 by simp [cmpI, h1, h2])
      go_enter Try.func63, Try.ntmps63
      go_wp2_with fail
      refine (isNaN_any _ _).mono ?_
      rintro e w' ⟨rfl, rfl⟩
      go_wp2_with fail
      refine (isNaN_any _ _).mono ?_
      rintro e w' ⟨rfl, rfl⟩
      go_wp2_with fail
      go_ret
      exact ⟨by rw [hfin.out]; rfl, rfl⟩
theorem cmpL_drop (X Y : List Int) (k : Nat) (h : k < X.length) (h' : k < Y.length) : cmpL (X.drop k) (Y.drop k) = if cmpI X[k] Y[k] ≠ 0 then cmpI X[k] Y[k] else cmpL (X.drop (k + 1)) (Y.drop (k + 1)) := by
  rw [List.drop_eq_getElem_cons h, List.drop_eq_getElem_cons h', cmpL]
  unfold cmpI
  by_cases h1 : X[k] < Y[k]
  · simp [h1]
  · by_cases h2 : Y[k] < X[k] <;> simp [h1, h2]

set_option maxHeartbeats 1000000 in
theorem slicesCompare_any (vx vy : Value) (X Y : List Int) (w : World) (hX : Ints w vx X) (hY : Ints w vy Y) (hl : X.length ≤ 1000000) (hl' : Y.length ≤ 1000000) :
    Calls Try.prog 55 #[vx, vy] w fun e w' => e = .returned (.int .i64 (cmpL X Y)) ∧ w = w' := by
  have hX0 := hX
  have hY0 := hY
  obtain ⟨A, c, rfl, hc, hh⟩ := hX
  obtain ⟨A', c', rfl, hc', hh'⟩ := hY
  clear hh hh'
  go_enter Try.func55, Try.ntmps55
  go_wp2_with fail
  go_loop [11] (fun i => ∃ k : Nat, k ≤ X.length ∧ k ≤ Y.length ∧ i = .int .i64 k ∧ Hid (cmpL X Y = cmpL (X.drop k) (Y.drop k))) (fun i => X.length - (intOf i).toNat)
  case atStart => exact ⟨0, Nat.zero_le _, Nat.zero_le _, rfl, rfl⟩
  case round =>
    obtain ⟨k, hk, hk', rfl, H⟩ := hrel
    by_cases hlt : k < X.length
    · obtain ⟨b, o, rfl, hbl, hcell⟩ := hX0.at_ hlt
      by_cases hlt' : k < Y.length
      · obtain ⟨b', o', rfl, hbl', hcell'⟩ := hY0.at_ hlt'
        rw [cmpL_drop X Y k hlt hlt'] at H
        generalize X[k] = x at *
        generalize Y[k] = y at *
        have u : ¬ (Y.length : Int) ≤ (k : Int) := by omega
        go_wp2_with fail
        refine (cmpCompare_any x y _).mono ?_
        rintro e w' ⟨rfl, rfl⟩
        generalize cmpI x y = d at *
        by_cases hd : d = 0
        · have u2 : (d != 0) = false := by simpa using hd
          rw [if_neg (by simpa using hd)] at H
          clear hd
          go_wp2_with fail
          go_round
          case rel => exact ⟨k + 1, by omega, by omega, by go_num, H⟩
          case measure => simp [intOf]; omega
        · have u2 : (d != 0) = true := by simpa using hd
          rw [if_pos hd] at H
          clear hd
          go_wp2_with fail
          go_ret
          exact ⟨by rw [H.out]; rfl, rfl⟩
      · have u : (Y.length : Int) ≤ (k : Int) := by omega
        have hfin := Lib.hid (show cmpL X Y = 1 by rw [H.out, List.drop_eq_getElem_cons hlt, List.drop_eq_nil_of_le (by omega : Y.length ≤ k)]; rfl)
        go_wp2_with fail
        go_ret
        exact ⟨by rw [hfin.out]; rfl, rfl⟩
    · by_cases hlt' : X.length < Y.length
      · have u : (X.length : Int) < (Y.length : Int) := by omega
        have hfin := Lib.hid (show cmpL X Y = -1 by rw [H.out, List.drop_eq_nil_of_le (by omega : X.length ≤ k), List.drop_eq_getElem_cons (by omega : k < Y.length)]; rfl)
        go_wp2_with fail
        go_ret
        exact ⟨by rw [hfin.out]; rfl, rfl⟩
      · have u : ¬ (X.length : Int) < (Y.length : Int) := by omega
        have hfin := Lib.hid (show cmpL X Y = 0 by rw [H.out, List.drop_eq_nil_of_le (by omega : X.length ≤ k), List.drop_eq_nil_of_le (by omega : Y.length ≤ k)]; rfl)
        go_wp2_with fail
        go_ret
        exact ⟨by rw [hfin.out]; rfl, rfl⟩

set_option maxHeartbeats 1000000 in
theorem gridCompare_any (vx vo vx2 vo2 : Value) (X O X2 O2 : List Int) (w : World) (hX : Ints w vx X) (hO : Ints w vo O) (hX2 : Ints w vx2 X2) (hO2 : Ints w vo2 O2) (l1 : X.length ≤ 1000) (l2 : O.length ≤ 1000) (l3 : X2.length ≤ 1000) (l4 : O2.length ≤ 1000) :
    Calls Try.prog 40 #[.agg #[vx, vo], .agg #[vx2, vo2]] w fun e w' => e = .returned (.int .i64 (cmpP (X, O) (X2, O2))) ∧ Below w.heap.size w w' := by
  have hX0 := hX
  have hO0 := hO
  have hX3 := hX2
  have hO3 := hO2
  obtain ⟨A, c, rfl, hc, hh⟩ := hX
  obtain ⟨A', c', rfl, hc', hh'⟩ := hO
  obtain ⟨A2, c2, rfl, hc2, hh2⟩ := hX2
  obtain ⟨A2', c2', rfl, hc2', hh2'⟩ := hO2
  clear hh hh' hh2 hh2'
  by_cases h0 : cmpL X X2 = 0
  · have hfin := Lib.hid (show cmpP (X, O) (X2, O2) = cmpL O O2 by unfold cmpP; rw [if_neg (by simpa using h0)])
    have H0 := Lib.hid h0
    clear h0
    go_enter Try.func40, Try.ntmps40
    go_wp2_with fail
    refine (slicesCompare_any _ _ X X2 _ ((hX0.alloc _).alloc _) ((hX3.alloc _).alloc _) (by omega) (by omega)).mono ?_
    rw [H0.out]
    rintro e w1 ⟨rfl, rfl⟩
    go_wp2_with fail
    refine (slicesCompare_any _ _ O O2 _ ((hO0.alloc _).alloc _) ((hO3.alloc _).alloc _) (by omega) (by omega)).mono ?_
    rintro e w1 ⟨rfl, rfl⟩
    go_wp2_with fail
    go_ret
    exact ⟨by rw [hfin.out]; rfl, by repeat (first | exact Below.refl _ _ | refine Below.alloc ?_ (by simp <;> omega) _)⟩
  · have hfin := Lib.hid (show cmpP (X, O) (X2, O2) = cmpL X X2 by unfold cmpP; rw [if_pos (by simpa using h0)])
    obtain ⟨d, hd⟩ : ∃ d, cmpL X X2 = d := ⟨_, rfl⟩
    rw [hd] at h0 hfin
    have HD := Lib.hid hd
    clear hd
    have u : (d != 0) = true := by simpa using h0
    clear h0
    go_enter Try.func40, Try.ntmps40
    go_wp2_with fail
    refine (slicesCompare_any _ _ X X2 _ ((hX0.alloc _).alloc _) ((hX3.alloc _).alloc _) (by omega) (by omega)).mono ?_
    rw [HD.out]
    rintro e w1 ⟨rfl, rfl⟩
    go_wp2_with fail
    go_ret
    exact ⟨by rw [hfin.out]; rfl, by repeat (first | exact Below.refl _ _ | refine Below.alloc ?_ (by simp <;> omega) _)⟩
end Go.Proofs.Ytgclngoeglopcaa
