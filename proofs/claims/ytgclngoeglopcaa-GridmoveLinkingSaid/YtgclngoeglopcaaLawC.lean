/- What all laws of this seat call: slices.Equal, same, great, awake. -/
import Derived.Test.YtgclngoeglopcaaAppA
import Derived.Outline
namespace Go.Proofs.Ytgclngoeglopcaa
open Go.RowKit
set_option linter.unusedVariables false

theorem list_eq_drop (X Y : List Int) (k : Nat) (h : k < X.length) (h' : k < Y.length) : (X.drop k = Y.drop k) ↔ (X[k] = Y[k] ∧ X.drop (k + 1) = Y.drop (k + 1)) := by
  rw [List.drop_eq_getElem_cons h, List.drop_eq_getElem_cons h', List.cons.injEq]

set_option maxHeartbeats 400000 in
theorem equal_any (vx vy : Value) (X Y : List Int) (w : World) (hX : Ints w vx X) (hY : Ints w vy Y) (hl : X.length ≤ 1000000) :
    Calls Try.prog 26 #[vx, vy] w fun e w' => e = .returned (.bool (decide (X = Y))) ∧ ∃ n, w' = w.drewN n := by
  have hX0 := hX
  have hY0 := hY
  obtain ⟨A, c, rfl, hc, hh⟩ := hX
  obtain ⟨A', c', rfl, hc', hh'⟩ := hY
  clear hh hh'
  by_cases hlen : X.length = Y.length
  rotate_left
  · have t : ((X.length : Int) != (Y.length : Int)) = true := by simp; omega
    have hfin := Lib.hid (show decide (X = Y) = false by simp; intro h; exact hlen (by rw [h]))
    clear hlen
    go_enter Try.func26, Try.ntmps26
    go_wp2
    go_ret
    exact ⟨by rw [hfin.out]; rfl, 0, rfl⟩
  have t : ((X.length : Int) != (Y.length : Int)) = false := by simp; omega
  have HL := Lib.hid hlen
  clear hlen
  go_enter Try.func26, Try.ntmps26
  go_wp2_with fail
  clear t
  go_loopw [13] (fun i wr => ∃ k : Nat, k ≤ X.length ∧ i = .int .i64 k ∧ (∃ n, wr = w.drewN n) ∧ Hid (X = Y ↔ X.drop k = Y.drop k)) (fun i _ => X.length - (intOf i).toNat)
  case atStart => exact ⟨0, Nat.zero_le _, rfl, ⟨0, rfl⟩, Iff.rfl⟩
  case round =>
    obtain ⟨k, hk, rfl, ⟨n, rfl⟩, hv⟩ := hrel
    by_cases hlt : k < X.length
    · have hlt' : k < Y.length := by rw [← HL.out]; exact hlt
      obtain ⟨b, o, rfl, hbl, hcell⟩ := hX0.at_ hlt
      obtain ⟨b', o', rfl, hbl', hcell'⟩ := hY0.at_ hlt'
      rw [list_eq_drop X Y k hlt hlt'] at hv
      generalize X[k] = x at *
      generalize Y[k] = y at *
      by_cases hxy : x = y
      · have h1 : (x != y) = false := by simpa using hxy
        have hv' := Lib.hid (show X = Y ↔ X.drop (k + 1) = Y.drop (k + 1) from hv.out.trans ⟨fun h => h.2, fun h => ⟨hxy, h⟩⟩)
        clear hxy
        go_wp2_with fail
        go_quiet (fail)
        go_wp2_with fail
        go_roundw
        case rel => exact ⟨k + 1, by omega, by go_num, ⟨_, by first | rfl | rw [World.drewN_drewN]⟩, hv'⟩
        case measure => simp [intOf]; omega
      · have h1 : (x != y) = true := by simpa using hxy
        have hfin := Lib.hid (show decide (X = Y) = false by simp; intro h; exact hxy (hv.out.1 h).1)
        clear hxy
        go_wp2_with fail
        go_quiet (fail)
        go_wp2_with fail
        go_ret
        exact ⟨by rw [hfin.out]; rfl, _, by first | rfl | rw [World.drewN_drewN]⟩
    · have hk2 : k = X.length := by omega
      have hfin := Lib.hid (show decide (X = Y) = true by
        simp; apply hv.out.2; rw [hk2, List.drop_length, HL.out, List.drop_length])
      clear hk2
      go_wp2_with fail
      go_ret
      exact ⟨by rw [hfin.out]; rfl, _, rfl⟩

set_option maxHeartbeats 400000 in
theorem same_any (vx vo vx2 vo2 : Value) (X O X2 O2 : List Int) (w : World) (hX : Ints w vx X) (hO : Ints w vo O) (hX2 : Ints w vx2 X2) (hO2 : Ints w vo2 O2) (hl : X.length ≤ 1000000) (hl' : O.length ≤ 1000000) :
    Calls Try.prog 15 #[.agg #[vx, vo], .agg #[vx2, vo2]] w fun e w' => e = .returned (.bool (decide (X = X2 ∧ O = O2))) ∧ Below w.heap.size w w' := by
  have hX0 := hX
  have hO0 := hO
  have hX3 := hX2
  have hO3 := hO2
  obtain ⟨A, c, rfl, hc, hh⟩ := hX
  obtain ⟨A', c', rfl, hc', hh'⟩ := hO
  obtain ⟨A2, c2, rfl, hc2, hh2⟩ := hX2
  obtain ⟨A2', c2', rfl, hc2', hh2'⟩ := hO2
  clear hh hh' hh2 hh2'
  go_enter Try.func15, Try.ntmps15
  go_wp2_with fail
  refine (equal_any _ _ X X2 _ ((hX0.alloc _).alloc _) ((hX3.alloc _).alloc _) hl).mono ?_
  rintro e w1 ⟨rfl, n, rfl⟩
  by_cases h1 : X = X2
  · have d1 : decide (X = X2) = true := by simpa using h1
    rw [d1]
    have hfin := Lib.hid (show decide (X = X2 ∧ O = O2) = decide (O = O2) by simp [h1])
    clear d1 h1
    go_wp2_with fail
    refine (equal_any _ _ O O2 _ (((hO0.alloc _).alloc _).drewN _) (((hO3.alloc _).alloc _).drewN _) hl').mono ?_
    rintro e w1 ⟨rfl, n, rfl⟩
    go_wp2_with fail
    go_ret
    exact ⟨by rw [hfin.out]; rfl, by repeat (first | exact Below.refl _ _ | refine bdrewN ?_ _ | refine Below.alloc ?_ (by simp <;> omega) _)⟩
  · have d1 : decide (X = X2) = false := by simpa using h1
    rw [d1]
    have hfin := Lib.hid (show decide (X = X2 ∧ O = O2) = false by simp [h1])
    clear d1 h1
    go_wp2_with fail
    go_ret
    exact ⟨by rw [hfin.out]; rfl, by repeat (first | exact Below.refl _ _ | refine bdrewN ?_ _ | refine Below.alloc ?_ (by simp <;> omega) _)⟩

def greatB (n m : Nat) : Bool := decide ((8 < n ∧ n ≠ 40) ∨ 50 < n ∨ 50 < m)
set_option maxHeartbeats 400000 in
theorem great_any (A A' : Option Addr) (n n' c c' : Nat) (w : World) :
    Calls Try.prog 12 #[.agg #[.slice A n c, .slice A' n' c']] w fun e w' => e = .returned (.bool (greatB n n')) ∧ Below w.heap.size w w' := by
  by_cases t1 : 8 < n
  · have u1 : decide (8 < (n : Int)) = true := by simp; omega
    by_cases t2 : n = 40
    · have u2 : ((n : Int) != 40) = false := by simp; omega
      by_cases t4 : 50 < n'
      · have hfin := Lib.hid (show greatB n n' = true by simp [greatB]; omega)
        have u4 : decide (50 < (n' : Int)) = true := by simp; omega
        subst t2
        go_enter Try.func12, Try.ntmps12
        go_wp2
        go_ret
        exact ⟨by rw [hfin.out]; rfl, (Below.refl _ _).alloc (Nat.le_refl _) _⟩
      · have hfin := Lib.hid (show greatB n n' = false by simp [greatB]; omega)
        have u4 : decide (50 < (n' : Int)) = false := by simp; omega
        subst t2
        go_enter Try.func12, Try.ntmps12
        go_wp2
        go_ret
        exact ⟨by rw [hfin.out]; rfl, (Below.refl _ _).alloc (Nat.le_refl _) _⟩
    · have u2 : ((n : Int) != 40) = true := by simp; omega
      have hfin := Lib.hid (show greatB n n' = true by simp [greatB]; omega)
      clear t2
      go_enter Try.func12, Try.ntmps12
      go_wp2
      go_ret
      exact ⟨by rw [hfin.out]; rfl, (Below.refl _ _).alloc (Nat.le_refl _) _⟩
  · have u1 : decide (8 < (n : Int)) = false := by simp; omega
    have u3 : decide (50 < (n : Int)) = false := by simp; omega
    by_cases t4 : 50 < n'
    · have hfin := Lib.hid (show greatB n n' = true by simp [greatB]; omega)
      have u4 : decide (50 < (n' : Int)) = true := by simp; omega
      go_enter Try.func12, Try.ntmps12
      go_wp2
      go_ret
      exact ⟨by rw [hfin.out]; rfl, (Below.refl _ _).alloc (Nat.le_refl _) _⟩
    · have hfin := Lib.hid (show greatB n n' = false by simp [greatB]; omega)
      have u4 : decide (50 < (n' : Int)) = false := by simp; omega
      go_enter Try.func12, Try.ntmps12
      go_wp2
      go_ret
      exact ⟨by rw [hfin.out]; rfl, (Below.refl _ _).alloc (Nat.le_refl _) _⟩

/-- what Apply returns, said alike for errors and for grids -/
def GRd (B : Nat) (w : World) (r : Int × List Int × List Int) (e : Ending) (w' : World) : Prop :=
  Below B w w' ∧ ∃ A0 n0 c0 A1 n1 c1, e = .returned (.tuple #[.agg #[.slice A0 n0 c0, .slice A1 n1 c1], .int .i64 r.1]) ∧ Ints w' (.slice A0 n0 c0) r.2.1 ∧ Ints w' (.slice A1 n1 c1) r.2.2

theorem colsM_err (X O : List Int) (k : Int) (a v : Nat) (h : (colsM X O k a v).1 ≠ 0) : (colsM X O k a v).2 = ([], []) := by
  unfold colsM swapM desM staM rotM at *
  revert h
  repeat' split
  all_goals simp
theorem applyM_err (X O : List Int) (k : Int) (rows : Bool) (a v : Int) (h : (applyM X O k rows a v).1 ≠ 0) : (applyM X O k rows a v).2 = ([], []) := by
  unfold applyM at *
  split
  · rfl
  split
  · rfl
  split
  · rfl
  rename_i h1 h2 h3
  rw [if_neg h1, if_neg h2, if_neg h3] at h
  split
  · rename_i h4
    rw [if_pos h4] at h
    exact colsM_err _ _ _ _ _ h
  · rename_i h4
    rw [if_neg h4] at h
    split
    · rename_i h5
      rw [if_pos h5] at h
      simp at h
    · rfl
theorem apply_rd (vx vo : Value) (X O : List Int) (k : Int) (rows : Bool) (a v : Int) (w : World) (hX : Ints w vx X) (hO : Ints w vo O) (hl : X.length ≤ 1000) (hl' : O.length ≤ 1000) :
    Calls Try.prog 13 #[.agg #[vx, vo], .agg #[.int .i64 k, .bool rows, .int .i64 a, .int .i64 v]] w (GRd w.heap.size w (applyM X O k rows a v)) := by
  refine (apply_any vx vo X O k rows a v w hX hO hl hl').mono ?_
  rintro e w' ⟨hb, u, rfl, h⟩
  refine ⟨hb, ?_⟩
  by_cases h0 : (applyM X O k rows a v).1 = 0
  · rw [if_pos h0] at h
    obtain ⟨gx, go, rfl, _, _, _, h1, h2⟩ := h
    exact ⟨_, _, _, _, _, _, rfl, Ints.of_arr h1, Ints.of_arr h2⟩
  · rw [if_neg h0] at h
    subst h
    rw [applyM_err _ _ _ _ _ _ h0]
    exact ⟨_, _, _, _, _, _, rfl, Ints.nil _, Ints.nil _⟩
end Go.Proofs.Ytgclngoeglopcaa
