/- The reference's columns: the errors, and the kinds 2, 3, 4. -/
import Derived.Test.YteliflcbegcdlaaGreatDoorZFac2
import Derived.Test.YteliflcbegcdlaaGreatDoorZAdd
import Derived.Test.YteliflcbegcdlaaGreatDoorZSwp
import Derived.Test.YteliflcbegcdlaaGreatDoorZRef4
namespace Go.Proofs.YteliflcbegcdlaaGreatDoor
open Go.RowKit
set_option linter.unusedVariables false
set_option maxRecDepth 100000 in
set_option maxHeartbeats 4000000 in
theorem refColsR1 (vx vo : Value) (X O : List Int) (rows : Bool) (a v : Int) (w : World) (hX : Ints w vx X) (hO : Ints w vo O) (hv : Vd X O) (hr : a < 0 ∨ 1 ≤ a ∨ v < 0 ∨ 1 ≤ v) :
    Calls Tryz.prog 66 #[.agg #[vx, vo], .agg #[.int .i64 1, .bool rows, .int .i64 a, .int .i64 v]] w (GRf w.heap.size w (2, [], [])) := by
  have hX0 := hX
  have hO0 := hO
  obtain ⟨A, c, rfl, hc, hh⟩ := hX
  obtain ⟨A', c', rfl, hc', hh'⟩ := hO
  clear hh hh'
  have h2 := hv.two
  have h40 := hv.most
  go_enter Tryz.func66, Tryz.ntmps66
  go_upto_region 6 with fail
  have hW : Arr (((((w.alloc (.cells #[.slice A X.length c, .slice A' O.length c'] 24)).alloc (.cells #[.int .i64 1, .bool rows, .int .i64 a, .int .i64 v] 85)).alloc (.cells #[.slice none 0 0, .slice none 0 0] 24)).alloc (.cells #[.int .i64 1, .int .i64 ((X.length : Int) - 1), .int .i64 (X.length : Int), .int .i64 ((X.length : Int) + 1)] 3)).alloc (.cells #[.int .i64 1, .int .i64 1, .int .i64 1, .int .i64 (2 * (X.length : Int))] 3)) w.heap.size 24 [.slice A X.length c, .slice A' O.length c'] ∧ Arr (((((w.alloc (.cells #[.slice A X.length c, .slice A' O.length c'] 24)).alloc (.cells #[.int .i64 1, .bool rows, .int .i64 a, .int .i64 v] 85)).alloc (.cells #[.slice none 0 0, .slice none 0 0] 24)).alloc (.cells #[.int .i64 1, .int .i64 ((X.length : Int) - 1), .int .i64 (X.length : Int), .int .i64 ((X.length : Int) + 1)] 3)).alloc (.cells #[.int .i64 1, .int .i64 1, .int .i64 1, .int .i64 (2 * (X.length : Int))] 3)) (w.heap.size + 1) 85 [.int .i64 1, .bool rows, .int .i64 a, .int .i64 v] ∧ Arr (((((w.alloc (.cells #[.slice A X.length c, .slice A' O.length c'] 24)).alloc (.cells #[.int .i64 1, .bool rows, .int .i64 a, .int .i64 v] 85)).alloc (.cells #[.slice none 0 0, .slice none 0 0] 24)).alloc (.cells #[.int .i64 1, .int .i64 ((X.length : Int) - 1), .int .i64 (X.length : Int), .int .i64 ((X.length : Int) + 1)] 3)).alloc (.cells #[.int .i64 1, .int .i64 1, .int .i64 1, .int .i64 (2 * (X.length : Int))] 3)) (w.heap.size + 2) 24 [.slice none 0 0, .slice none 0 0] ∧ Arr (((((w.alloc (.cells #[.slice A X.length c, .slice A' O.length c'] 24)).alloc (.cells #[.int .i64 1, .bool rows, .int .i64 a, .int .i64 v] 85)).alloc (.cells #[.slice none 0 0, .slice none 0 0] 24)).alloc (.cells #[.int .i64 1, .int .i64 ((X.length : Int) - 1), .int .i64 (X.length : Int), .int .i64 ((X.length : Int) + 1)] 3)).alloc (.cells #[.int .i64 1, .int .i64 1, .int .i64 1, .int .i64 (2 * (X.length : Int))] 3)) (w.heap.size + 3) 3 [.int .i64 1, .int .i64 ((X.length : Int) - 1), .int .i64 (X.length : Int), .int .i64 ((X.length : Int) + 1)] ∧ Arr (((((w.alloc (.cells #[.slice A X.length c, .slice A' O.length c'] 24)).alloc (.cells #[.int .i64 1, .bool rows, .int .i64 a, .int .i64 v] 85)).alloc (.cells #[.slice none 0 0, .slice none 0 0] 24)).alloc (.cells #[.int .i64 1, .int .i64 ((X.length : Int) - 1), .int .i64 (X.length : Int), .int .i64 ((X.length : Int) + 1)] 3)).alloc (.cells #[.int .i64 1, .int .i64 1, .int .i64 1, .int .i64 (2 * (X.length : Int))] 3)) (w.heap.size + 4) 3 [.int .i64 1, .int .i64 1, .int .i64 1, .int .i64 (2 * (X.length : Int))] ∧ Below w.heap.size w (((((w.alloc (.cells #[.slice A X.length c, .slice A' O.length c'] 24)).alloc (.cells #[.int .i64 1, .bool rows, .int .i64 a, .int .i64 v] 85)).alloc (.cells #[.slice none 0 0, .slice none 0 0] 24)).alloc (.cells #[.int .i64 1, .int .i64 ((X.length : Int) - 1), .int .i64 (X.length : Int), .int .i64 ((X.length : Int) + 1)] 3)).alloc (.cells #[.int .i64 1, .int .i64 1, .int .i64 1, .int .i64 (2 * (X.length : Int))] 3)) :=
    ⟨((((Arr.new _ _ [_, _]).alloc _).alloc _).alloc _).alloc _, (((Arr.newAt _ _ [_, _, _, _] _ (by simp)).alloc _).alloc _).alloc _, ((Arr.newAt _ _ [_, _] _ (by simp)).alloc _).alloc _, (Arr.newAt _ _ [_, _, _, _] _ (by simp)).alloc _, Arr.newAt _ _ [_, _, _, _] _ (by simp), by repeat (first | exact Below.refl _ _ | refine Below.alloc ?_ (by simp <;> omega) _)⟩
  generalize (((((w.alloc (.cells #[.slice A X.length c, .slice A' O.length c'] 24)).alloc (.cells #[.int .i64 1, .bool rows, .int .i64 a, .int .i64 v] 85)).alloc (.cells #[.slice none 0 0, .slice none 0 0] 24)).alloc (.cells #[.int .i64 1, .int .i64 ((X.length : Int) - 1), .int .i64 (X.length : Int), .int .i64 ((X.length : Int) + 1)] 3)).alloc (.cells #[.int .i64 1, .int .i64 1, .int .i64 1, .int .i64 (2 * (X.length : Int))] 3)) = w4 at hW ⊢
  obtain ⟨p0, p1, p2, p3, p4, hbw⟩ := hW
  have y0 := p0.cell 0
  have y1 := p0.cell 1
  have m0 := p1.cell 0
  have m2 := p1.cell 2
  have m3 := p1.cell 3
  have P0 := p3.cell 0
  have V0 := p4.cell 0
  by_cases u0 : a < 0
  · have t0 : decide (a < 0) = true := by simpa using u0
    clear u0
    go_quiet (fail)
    have hW : Arr (w4.drewN nq) (w.heap.size + 2) 24 [.slice none 0 0, .slice none 0 0] ∧ Below w.heap.size w (w4.drewN nq) := ⟨p2.drewN _, bdrewN hbw _⟩
    clear p0 p1 p2 p3 p4 hbw y0 y1 m0 m2 m3 P0 V0
    generalize w4.drewN nq = w5 at hW ⊢
    obtain ⟨p2, hbw⟩ := hW
    have s0 := p2.cell 0
    have s1 := p2.cell 1
    have s2 := p2.frozen 0
    have s3 := p2.frozen 1
    have hres := Lib.hid ((p2.set 0 (.slice none 0 0)).set 1 (.slice none 0 0))
    go_wp2_with fail
    refine bodyPost_ret (v := .tuple #[.agg #[.slice none 0 0, .slice none 0 0], .int .i64 2]) (results_ct Tryz.results66 _ _ (w.heap.size + 2) 24 _ _ rfl hres.out Tryz.underlying24 rfl info_grid) rfl ?_
    exact ⟨bset2 (r := w.heap.size + 2) hbw (by omega), _, _, _, _, _, _, rfl, (fun W _ => Ints.nil W), (fun W _ => Ints.nil W)⟩
  have t0 : decide (a < 0) = false := by simpa using u0
  by_cases u1 : 1 ≤ a
  · have t1 : decide (1 ≤ a) = true := by simpa using u1
    clear u1
    go_quiet (fail)
    have hW : Arr (w4.drewN nq) (w.heap.size + 2) 24 [.slice none 0 0, .slice none 0 0] ∧ Below w.heap.size w (w4.drewN nq) := ⟨p2.drewN _, bdrewN hbw _⟩
    clear p0 p1 p2 p3 p4 hbw y0 y1 m0 m2 m3 P0 V0
    generalize w4.drewN nq = w5 at hW ⊢
    obtain ⟨p2, hbw⟩ := hW
    have s0 := p2.cell 0
    have s1 := p2.cell 1
    have s2 := p2.frozen 0
    have s3 := p2.frozen 1
    have hres := Lib.hid ((p2.set 0 (.slice none 0 0)).set 1 (.slice none 0 0))
    go_wp2_with fail
    refine bodyPost_ret (v := .tuple #[.agg #[.slice none 0 0, .slice none 0 0], .int .i64 2]) (results_ct Tryz.results66 _ _ (w.heap.size + 2) 24 _ _ rfl hres.out Tryz.underlying24 rfl info_grid) rfl ?_
    exact ⟨bset2 (r := w.heap.size + 2) hbw (by omega), _, _, _, _, _, _, rfl, (fun W _ => Ints.nil W), (fun W _ => Ints.nil W)⟩
  have t1 : decide (1 ≤ a) = false := by simpa using u1
  by_cases u2 : v < 0
  · have t2 : decide (v < 0) = true := by simpa using u2
    clear u2
    go_quiet (fail)
    have hW : Arr (w4.drewN nq) (w.heap.size + 2) 24 [.slice none 0 0, .slice none 0 0] ∧ Below w.heap.size w (w4.drewN nq) := ⟨p2.drewN _, bdrewN hbw _⟩
    clear p0 p1 p2 p3 p4 hbw y0 y1 m0 m2 m3 P0 V0
    generalize w4.drewN nq = w5 at hW ⊢
    obtain ⟨p2, hbw⟩ := hW
    have s0 := p2.cell 0
    have s1 := p2.cell 1
    have s2 := p2.frozen 0
    have s3 := p2.frozen 1
    have hres := Lib.hid ((p2.set 0 (.slice none 0 0)).set 1 (.slice none 0 0))
    go_wp2_with fail
    refine bodyPost_ret (v := .tuple #[.agg #[.slice none 0 0, .slice none 0 0], .int .i64 2]) (results_ct Tryz.results66 _ _ (w.heap.size + 2) 24 _ _ rfl hres.out Tryz.underlying24 rfl info_grid) rfl ?_
    exact ⟨bset2 (r := w.heap.size + 2) hbw (by omega), _, _, _, _, _, _, rfl, (fun W _ => Ints.nil W), (fun W _ => Ints.nil W)⟩
  have t2 : decide (v < 0) = false := by simpa using u2
  have u3 : 1 ≤ v := by omega
  clear u0
  clear u1
  clear u2
  clear hr
  have t3 : decide (1 ≤ v) = true := by simpa using u3
  clear u3
  go_quiet (fail)
  have hW : Arr (w4.drewN nq) (w.heap.size + 2) 24 [.slice none 0 0, .slice none 0 0] ∧ Below w.heap.size w (w4.drewN nq) := ⟨p2.drewN _, bdrewN hbw _⟩
  clear p0 p1 p2 p3 p4 hbw y0 y1 m0 m2 m3 P0 V0
  generalize w4.drewN nq = w5 at hW ⊢
  obtain ⟨p2, hbw⟩ := hW
  have s0 := p2.cell 0
  have s1 := p2.cell 1
  have s2 := p2.frozen 0
  have s3 := p2.frozen 1
  have hres := Lib.hid ((p2.set 0 (.slice none 0 0)).set 1 (.slice none 0 0))
  go_wp2_with fail
  refine bodyPost_ret (v := .tuple #[.agg #[.slice none 0 0, .slice none 0 0], .int .i64 2]) (results_ct Tryz.results66 _ _ (w.heap.size + 2) 24 _ _ rfl hres.out Tryz.underlying24 rfl info_grid) rfl ?_
  exact ⟨bset2 (r := w.heap.size + 2) hbw (by omega), _, _, _, _, _, _, rfl, (fun W _ => Ints.nil W), (fun W _ => Ints.nil W)⟩
set_option maxRecDepth 100000 in
set_option maxHeartbeats 4000000 in
theorem refColsR2 (vx vo : Value) (X O : List Int) (rows : Bool) (a v : Int) (w : World) (hX : Ints w vx X) (hO : Ints w vo O) (hv : Vd X O) (hr : a < 0 ∨ (X.length : Int) - 1 ≤ a ∨ v < 0 ∨ 1 ≤ v) :
    Calls Tryz.prog 66 #[.agg #[vx, vo], .agg #[.int .i64 2, .bool rows, .int .i64 a, .int .i64 v]] w (GRf w.heap.size w (2, [], [])) := by
  have hX0 := hX
  have hO0 := hO
  obtain ⟨A, c, rfl, hc, hh⟩ := hX
  obtain ⟨A', c', rfl, hc', hh'⟩ := hO
  clear hh hh'
  have h2 := hv.two
  have h40 := hv.most
  go_enter Tryz.func66, Tryz.ntmps66
  go_upto_region 6 with fail
  have hW : Arr (((((w.alloc (.cells #[.slice A X.length c, .slice A' O.length c'] 24)).alloc (.cells #[.int .i64 2, .bool rows, .int .i64 a, .int .i64 v] 85)).alloc (.cells #[.slice none 0 0, .slice none 0 0] 24)).alloc (.cells #[.int .i64 1, .int .i64 ((X.length : Int) - 1), .int .i64 (X.length : Int), .int .i64 ((X.length : Int) + 1)] 3)).alloc (.cells #[.int .i64 1, .int .i64 1, .int .i64 1, .int .i64 (2 * (X.length : Int))] 3)) w.heap.size 24 [.slice A X.length c, .slice A' O.length c'] ∧ Arr (((((w.alloc (.cells #[.slice A X.length c, .slice A' O.length c'] 24)).alloc (.cells #[.int .i64 2, .bool rows, .int .i64 a, .int .i64 v] 85)).alloc (.cells #[.slice none 0 0, .slice none 0 0] 24)).alloc (.cells #[.int .i64 1, .int .i64 ((X.length : Int) - 1), .int .i64 (X.length : Int), .int .i64 ((X.length : Int) + 1)] 3)).alloc (.cells #[.int .i64 1, .int .i64 1, .int .i64 1, .int .i64 (2 * (X.length : Int))] 3)) (w.heap.size + 1) 85 [.int .i64 2, .bool rows, .int .i64 a, .int .i64 v] ∧ Arr (((((w.alloc (.cells #[.slice A X.length c, .slice A' O.length c'] 24)).alloc (.cells #[.int .i64 2, .bool rows, .int .i64 a, .int .i64 v] 85)).alloc (.cells #[.slice none 0 0, .slice none 0 0] 24)).alloc (.cells #[.int .i64 1, .int .i64 ((X.length : Int) - 1), .int .i64 (X.length : Int), .int .i64 ((X.length : Int) + 1)] 3)).alloc (.cells #[.int .i64 1, .int .i64 1, .int .i64 1, .int .i64 (2 * (X.length : Int))] 3)) (w.heap.size + 2) 24 [.slice none 0 0, .slice none 0 0] ∧ Arr (((((w.alloc (.cells #[.slice A X.length c, .slice A' O.length c'] 24)).alloc (.cells #[.int .i64 2, .bool rows, .int .i64 a, .int .i64 v] 85)).alloc (.cells #[.slice none 0 0, .slice none 0 0] 24)).alloc (.cells #[.int .i64 1, .int .i64 ((X.length : Int) - 1), .int .i64 (X.length : Int), .int .i64 ((X.length : Int) + 1)] 3)).alloc (.cells #[.int .i64 1, .int .i64 1, .int .i64 1, .int .i64 (2 * (X.length : Int))] 3)) (w.heap.size + 3) 3 [.int .i64 1, .int .i64 ((X.length : Int) - 1), .int .i64 (X.length : Int), .int .i64 ((X.length : Int) + 1)] ∧ Arr (((((w.alloc (.cells #[.slice A X.length c, .slice A' O.length c'] 24)).alloc (.cells #[.int .i64 2, .bool rows, .int .i64 a, .int .i64 v] 85)).alloc (.cells #[.slice none 0 0, .slice none 0 0] 24)).alloc (.cells #[.int .i64 1, .int .i64 ((X.length : Int) - 1), .int .i64 (X.length : Int), .int .i64 ((X.length : Int) + 1)] 3)).alloc (.cells #[.int .i64 1, .int .i64 1, .int .i64 1, .int .i64 (2 * (X.length : Int))] 3)) (w.heap.size + 4) 3 [.int .i64 1, .int .i64 1, .int .i64 1, .int .i64 (2 * (X.length : Int))] ∧ Below w.heap.size w (((((w.alloc (.cells #[.slice A X.length c, .slice A' O.length c'] 24)).alloc (.cells #[.int .i64 2, .bool rows, .int .i64 a, .int .i64 v] 85)).alloc (.cells #[.slice none 0 0, .slice none 0 0] 24)).alloc (.cells #[.int .i64 1, .int .i64 ((X.length : Int) - 1), .int .i64 (X.length : Int), .int .i64 ((X.length : Int) + 1)] 3)).alloc (.cells #[.int .i64 1, .int .i64 1, .int .i64 1, .int .i64 (2 * (X.length : Int))] 3)) :=
    ⟨((((Arr.new _ _ [_, _]).alloc _).alloc _).alloc _).alloc _, (((Arr.newAt _ _ [_, _, _, _] _ (by simp)).alloc _).alloc _).alloc _, ((Arr.newAt _ _ [_, _] _ (by simp)).alloc _).alloc _, (Arr.newAt _ _ [_, _, _, _] _ (by simp)).alloc _, Arr.newAt _ _ [_, _, _, _] _ (by simp), by repeat (first | exact Below.refl _ _ | refine Below.alloc ?_ (by simp <;> omega) _)⟩
  generalize (((((w.alloc (.cells #[.slice A X.length c, .slice A' O.length c'] 24)).alloc (.cells #[.int .i64 2, .bool rows, .int .i64 a, .int .i64 v] 85)).alloc (.cells #[.slice none 0 0, .slice none 0 0] 24)).alloc (.cells #[.int .i64 1, .int .i64 ((X.length : Int) - 1), .int .i64 (X.length : Int), .int .i64 ((X.length : Int) + 1)] 3)).alloc (.cells #[.int .i64 1, .int .i64 1, .int .i64 1, .int .i64 (2 * (X.length : Int))] 3)) = w4 at hW ⊢
  obtain ⟨p0, p1, p2, p3, p4, hbw⟩ := hW
  have y0 := p0.cell 0
  have y1 := p0.cell 1
  have m0 := p1.cell 0
  have m2 := p1.cell 2
  have m3 := p1.cell 3
  have P0 := p3.cell 1
  have V0 := p4.cell 1
  by_cases u0 : a < 0
  · have t0 : decide (a < 0) = true := by simpa using u0
    clear u0
    go_quiet (fail)
    have hW : Arr (w4.drewN nq) (w.heap.size + 2) 24 [.slice none 0 0, .slice none 0 0] ∧ Below w.heap.size w (w4.drewN nq) := ⟨p2.drewN _, bdrewN hbw _⟩
    clear p0 p1 p2 p3 p4 hbw y0 y1 m0 m2 m3 P0 V0
    generalize w4.drewN nq = w5 at hW ⊢
    obtain ⟨p2, hbw⟩ := hW
    have s0 := p2.cell 0
    have s1 := p2.cell 1
    have s2 := p2.frozen 0
    have s3 := p2.frozen 1
    have hres := Lib.hid ((p2.set 0 (.slice none 0 0)).set 1 (.slice none 0 0))
    go_wp2_with fail
    refine bodyPost_ret (v := .tuple #[.agg #[.slice none 0 0, .slice none 0 0], .int .i64 2]) (results_ct Tryz.results66 _ _ (w.heap.size + 2) 24 _ _ rfl hres.out Tryz.underlying24 rfl info_grid) rfl ?_
    exact ⟨bset2 (r := w.heap.size + 2) hbw (by omega), _, _, _, _, _, _, rfl, (fun W _ => Ints.nil W), (fun W _ => Ints.nil W)⟩
  have t0 : decide (a < 0) = false := by simpa using u0
  by_cases u1 : (X.length : Int) - 1 ≤ a
  · have t1 : decide ((X.length : Int) - 1 ≤ a) = true := by simpa using u1
    clear u1
    go_quiet (fail)
    have hW : Arr (w4.drewN nq) (w.heap.size + 2) 24 [.slice none 0 0, .slice none 0 0] ∧ Below w.heap.size w (w4.drewN nq) := ⟨p2.drewN _, bdrewN hbw _⟩
    clear p0 p1 p2 p3 p4 hbw y0 y1 m0 m2 m3 P0 V0
    generalize w4.drewN nq = w5 at hW ⊢
    obtain ⟨p2, hbw⟩ := hW
    have s0 := p2.cell 0
    have s1 := p2.cell 1
    have s2 := p2.frozen 0
    have s3 := p2.frozen 1
    have hres := Lib.hid ((p2.set 0 (.slice none 0 0)).set 1 (.slice none 0 0))
    go_wp2_with fail
    refine bodyPost_ret (v := .tuple #[.agg #[.slice none 0 0, .slice none 0 0], .int .i64 2]) (results_ct Tryz.results66 _ _ (w.heap.size + 2) 24 _ _ rfl hres.out Tryz.underlying24 rfl info_grid) rfl ?_
    exact ⟨bset2 (r := w.heap.size + 2) hbw (by omega), _, _, _, _, _, _, rfl, (fun W _ => Ints.nil W), (fun W _ => Ints.nil W)⟩
  have t1 : decide ((X.length : Int) - 1 ≤ a) = false := by simpa using u1
  by_cases u2 : v < 0
  · have t2 : decide (v < 0) = true := by simpa using u2
    clear u2
    go_quiet (fail)
    have hW : Arr (w4.drewN nq) (w.heap.size + 2) 24 [.slice none 0 0, .slice none 0 0] ∧ Below w.heap.size w (w4.drewN nq) := ⟨p2.drewN _, bdrewN hbw _⟩
    clear p0 p1 p2 p3 p4 hbw y0 y1 m0 m2 m3 P0 V0
    generalize w4.drewN nq = w5 at hW ⊢
    obtain ⟨p2, hbw⟩ := hW
    have s0 := p2.cell 0
    have s1 := p2.cell 1
    have s2 := p2.frozen 0
    have s3 := p2.frozen 1
    have hres := Lib.hid ((p2.set 0 (.slice none 0 0)).set 1 (.slice none 0 0))
    go_wp2_with fail
    refine bodyPost_ret (v := .tuple #[.agg #[.slice none 0 0, .slice none 0 0], .int .i64 2]) (results_ct Tryz.results66 _ _ (w.heap.size + 2) 24 _ _ rfl hres.out Tryz.underlying24 rfl info_grid) rfl ?_
    exact ⟨bset2 (r := w.heap.size + 2) hbw (by omega), _, _, _, _, _, _, rfl, (fun W _ => Ints.nil W), (fun W _ => Ints.nil W)⟩
  have t2 : decide (v < 0) = false := by simpa using u2
  have u3 : 1 ≤ v := by omega
  clear u0
  clear u1
  clear u2
  clear hr
  have t3 : decide (1 ≤ v) = true := by simpa using u3
  clear u3
  go_quiet (fail)
  have hW : Arr (w4.drewN nq) (w.heap.size + 2) 24 [.slice none 0 0, .slice none 0 0] ∧ Below w.heap.size w (w4.drewN nq) := ⟨p2.drewN _, bdrewN hbw _⟩
  clear p0 p1 p2 p3 p4 hbw y0 y1 m0 m2 m3 P0 V0
  generalize w4.drewN nq = w5 at hW ⊢
  obtain ⟨p2, hbw⟩ := hW
  have s0 := p2.cell 0
  have s1 := p2.cell 1
  have s2 := p2.frozen 0
  have s3 := p2.frozen 1
  have hres := Lib.hid ((p2.set 0 (.slice none 0 0)).set 1 (.slice none 0 0))
  go_wp2_with fail
  refine bodyPost_ret (v := .tuple #[.agg #[.slice none 0 0, .slice none 0 0], .int .i64 2]) (results_ct Tryz.results66 _ _ (w.heap.size + 2) 24 _ _ rfl hres.out Tryz.underlying24 rfl info_grid) rfl ?_
  exact ⟨bset2 (r := w.heap.size + 2) hbw (by omega), _, _, _, _, _, _, rfl, (fun W _ => Ints.nil W), (fun W _ => Ints.nil W)⟩
set_option maxRecDepth 100000 in
set_option maxHeartbeats 4000000 in
theorem refColsR3 (vx vo : Value) (X O : List Int) (rows : Bool) (a v : Int) (w : World) (hX : Ints w vx X) (hO : Ints w vo O) (hv : Vd X O) (hr : a < 0 ∨ (X.length : Int) ≤ a ∨ v < 0 ∨ 1 ≤ v) :
    Calls Tryz.prog 66 #[.agg #[vx, vo], .agg #[.int .i64 3, .bool rows, .int .i64 a, .int .i64 v]] w (GRf w.heap.size w (2, [], [])) := by
  have hX0 := hX
  have hO0 := hO
  obtain ⟨A, c, rfl, hc, hh⟩ := hX
  obtain ⟨A', c', rfl, hc', hh'⟩ := hO
  clear hh hh'
  have h2 := hv.two
  have h40 := hv.most
  go_enter Tryz.func66, Tryz.ntmps66
  go_upto_region 6 with fail
  have hW : Arr (((((w.alloc (.cells #[.slice A X.length c, .slice A' O.length c'] 24)).alloc (.cells #[.int .i64 3, .bool rows, .int .i64 a, .int .i64 v] 85)).alloc (.cells #[.slice none 0 0, .slice none 0 0] 24)).alloc (.cells #[.int .i64 1, .int .i64 ((X.length : Int) - 1), .int .i64 (X.length : Int), .int .i64 ((X.length : Int) + 1)] 3)).alloc (.cells #[.int .i64 1, .int .i64 1, .int .i64 1, .int .i64 (2 * (X.length : Int))] 3)) w.heap.size 24 [.slice A X.length c, .slice A' O.length c'] ∧ Arr (((((w.alloc (.cells #[.slice A X.length c, .slice A' O.length c'] 24)).alloc (.cells #[.int .i64 3, .bool rows, .int .i64 a, .int .i64 v] 85)).alloc (.cells #[.slice none 0 0, .slice none 0 0] 24)).alloc (.cells #[.int .i64 1, .int .i64 ((X.length : Int) - 1), .int .i64 (X.length : Int), .int .i64 ((X.length : Int) + 1)] 3)).alloc (.cells #[.int .i64 1, .int .i64 1, .int .i64 1, .int .i64 (2 * (X.length : Int))] 3)) (w.heap.size + 1) 85 [.int .i64 3, .bool rows, .int .i64 a, .int .i64 v] ∧ Arr (((((w.alloc (.cells #[.slice A X.length c, .slice A' O.length c'] 24)).alloc (.cells #[.int .i64 3, .bool rows, .int .i64 a, .int .i64 v] 85)).alloc (.cells #[.slice none 0 0, .slice none 0 0] 24)).alloc (.cells #[.int .i64 1, .int .i64 ((X.length : Int) - 1), .int .i64 (X.length : Int), .int .i64 ((X.length : Int) + 1)] 3)).alloc (.cells #[.int .i64 1, .int .i64 1, .int .i64 1, .int .i64 (2 * (X.length : Int))] 3)) (w.heap.size + 2) 24 [.slice none 0 0, .slice none 0 0] ∧ Arr (((((w.alloc (.cells #[.slice A X.length c, .slice A' O.length c'] 24)).alloc (.cells #[.int .i64 3, .bool rows, .int .i64 a, .int .i64 v] 85)).alloc (.cells #[.slice none 0 0, .slice none 0 0] 24)).alloc (.cells #[.int .i64 1, .int .i64 ((X.length : Int) - 1), .int .i64 (X.length : Int), .int .i64 ((X.length : Int) + 1)] 3)).alloc (.cells #[.int .i64 1, .int .i64 1, .int .i64 1, .int .i64 (2 * (X.length : Int))] 3)) (w.heap.size + 3) 3 [.int .i64 1, .int .i64 ((X.length : Int) - 1), .int .i64 (X.length : Int), .int .i64 ((X.length : Int) + 1)] ∧ Arr (((((w.alloc (.cells #[.slice A X.length c, .slice A' O.length c'] 24)).alloc (.cells #[.int .i64 3, .bool rows, .int .i64 a, .int .i64 v] 85)).alloc (.cells #[.slice none 0 0, .slice none 0 0] 24)).alloc (.cells #[.int .i64 1, .int .i64 ((X.length : Int) - 1), .int .i64 (X.length : Int), .int .i64 ((X.length : Int) + 1)] 3)).alloc (.cells #[.int .i64 1, .int .i64 1, .int .i64 1, .int .i64 (2 * (X.length : Int))] 3)) (w.heap.size + 4) 3 [.int .i64 1, .int .i64 1, .int .i64 1, .int .i64 (2 * (X.length : Int))] ∧ Below w.heap.size w (((((w.alloc (.cells #[.slice A X.length c, .slice A' O.length c'] 24)).alloc (.cells #[.int .i64 3, .bool rows, .int .i64 a, .int .i64 v] 85)).alloc (.cells #[.slice none 0 0, .slice none 0 0] 24)).alloc (.cells #[.int .i64 1, .int .i64 ((X.length : Int) - 1), .int .i64 (X.length : Int), .int .i64 ((X.length : Int) + 1)] 3)).alloc (.cells #[.int .i64 1, .int .i64 1, .int .i64 1, .int .i64 (2 * (X.length : Int))] 3)) :=
    ⟨((((Arr.new _ _ [_, _]).alloc _).alloc _).alloc _).alloc _, (((Arr.newAt _ _ [_, _, _, _] _ (by simp)).alloc _).alloc _).alloc _, ((Arr.newAt _ _ [_, _] _ (by simp)).alloc _).alloc _, (Arr.newAt _ _ [_, _, _, _] _ (by simp)).alloc _, Arr.newAt _ _ [_, _, _, _] _ (by simp), by repeat (first | exact Below.refl _ _ | refine Below.alloc ?_ (by simp <;> omega) _)⟩
  generalize (((((w.alloc (.cells #[.slice A X.length c, .slice A' O.length c'] 24)).alloc (.cells #[.int .i64 3, .bool rows, .int .i64 a, .int .i64 v] 85)).alloc (.cells #[.slice none 0 0, .slice none 0 0] 24)).alloc (.cells #[.int .i64 1, .int .i64 ((X.length : Int) - 1), .int .i64 (X.length : Int), .int .i64 ((X.length : Int) + 1)] 3)).alloc (.cells #[.int .i64 1, .int .i64 1, .int .i64 1, .int .i64 (2 * (X.length : Int))] 3)) = w4 at hW ⊢
  obtain ⟨p0, p1, p2, p3, p4, hbw⟩ := hW
  have y0 := p0.cell 0
  have y1 := p0.cell 1
  have m0 := p1.cell 0
  have m2 := p1.cell 2
  have m3 := p1.cell 3
  have P0 := p3.cell 2
  have V0 := p4.cell 2
  by_cases u0 : a < 0
  · have t0 : decide (a < 0) = true := by simpa using u0
    clear u0
    go_quiet (fail)
    have hW : Arr (w4.drewN nq) (w.heap.size + 2) 24 [.slice none 0 0, .slice none 0 0] ∧ Below w.heap.size w (w4.drewN nq) := ⟨p2.drewN _, bdrewN hbw _⟩
    clear p0 p1 p2 p3 p4 hbw y0 y1 m0 m2 m3 P0 V0
    generalize w4.drewN nq = w5 at hW ⊢
    obtain ⟨p2, hbw⟩ := hW
    have s0 := p2.cell 0
    have s1 := p2.cell 1
    have s2 := p2.frozen 0
    have s3 := p2.frozen 1
    have hres := Lib.hid ((p2.set 0 (.slice none 0 0)).set 1 (.slice none 0 0))
    go_wp2_with fail
    refine bodyPost_ret (v := .tuple #[.agg #[.slice none 0 0, .slice none 0 0], .int .i64 2]) (results_ct Tryz.results66 _ _ (w.heap.size + 2) 24 _ _ rfl hres.out Tryz.underlying24 rfl info_grid) rfl ?_
    exact ⟨bset2 (r := w.heap.size + 2) hbw (by omega), _, _, _, _, _, _, rfl, (fun W _ => Ints.nil W), (fun W _ => Ints.nil W)⟩
  have t0 : decide (a < 0) = false := by simpa using u0
  by_cases u1 : (X.length : Int) ≤ a
  · have t1 : decide ((X.length : Int) ≤ a) = true := by simpa using u1
    clear u1
    go_quiet (fail)
    have hW : Arr (w4.drewN nq) (w.heap.size + 2) 24 [.slice none 0 0, .slice none 0 0] ∧ Below w.heap.size w (w4.drewN nq) := ⟨p2.drewN _, bdrewN hbw _⟩
    clear p0 p1 p2 p3 p4 hbw y0 y1 m0 m2 m3 P0 V0
    generalize w4.drewN nq = w5 at hW ⊢
    obtain ⟨p2, hbw⟩ := hW
    have s0 := p2.cell 0
    have s1 := p2.cell 1
    have s2 := p2.frozen 0
    have s3 := p2.frozen 1
    have hres := Lib.hid ((p2.set 0 (.slice none 0 0)).set 1 (.slice none 0 0))
    go_wp2_with fail
    refine bodyPost_ret (v := .tuple #[.agg #[.slice none 0 0, .slice none 0 0], .int .i64 2]) (results_ct Tryz.results66 _ _ (w.heap.size + 2) 24 _ _ rfl hres.out Tryz.underlying24 rfl info_grid) rfl ?_
    exact ⟨bset2 (r := w.heap.size + 2) hbw (by omega), _, _, _, _, _, _, rfl, (fun W _ => Ints.nil W), (fun W _ => Ints.nil W)⟩
  have t1 : decide ((X.length : Int) ≤ a) = false := by simpa using u1
  by_cases u2 : v < 0
  · have t2 : decide (v < 0) = true := by simpa using u2
    clear u2
    go_quiet (fail)
    have hW : Arr (w4.drewN nq) (w.heap.size + 2) 24 [.slice none 0 0, .slice none 0 0] ∧ Below w.heap.size w (w4.drewN nq) := ⟨p2.drewN _, bdrewN hbw _⟩
    clear p0 p1 p2 p3 p4 hbw y0 y1 m0 m2 m3 P0 V0
    generalize w4.drewN nq = w5 at hW ⊢
    obtain ⟨p2, hbw⟩ := hW
    have s0 := p2.cell 0
    have s1 := p2.cell 1
    have s2 := p2.frozen 0
    have s3 := p2.frozen 1
    have hres := Lib.hid ((p2.set 0 (.slice none 0 0)).set 1 (.slice none 0 0))
    go_wp2_with fail
    refine bodyPost_ret (v := .tuple #[.agg #[.slice none 0 0, .slice none 0 0], .int .i64 2]) (results_ct Tryz.results66 _ _ (w.heap.size + 2) 24 _ _ rfl hres.out Tryz.underlying24 rfl info_grid) rfl ?_
    exact ⟨bset2 (r := w.heap.size + 2) hbw (by omega), _, _, _, _, _, _, rfl, (fun W _ => Ints.nil W), (fun W _ => Ints.nil W)⟩
  have t2 : decide (v < 0) = false := by simpa using u2
  have u3 : 1 ≤ v := by omega
  clear u0
  clear u1
  clear u2
  clear hr
  have t3 : decide (1 ≤ v) = true := by simpa using u3
  clear u3
  go_quiet (fail)
  have hW : Arr (w4.drewN nq) (w.heap.size + 2) 24 [.slice none 0 0, .slice none 0 0] ∧ Below w.heap.size w (w4.drewN nq) := ⟨p2.drewN _, bdrewN hbw _⟩
  clear p0 p1 p2 p3 p4 hbw y0 y1 m0 m2 m3 P0 V0
  generalize w4.drewN nq = w5 at hW ⊢
  obtain ⟨p2, hbw⟩ := hW
  have s0 := p2.cell 0
  have s1 := p2.cell 1
  have s2 := p2.frozen 0
  have s3 := p2.frozen 1
  have hres := Lib.hid ((p2.set 0 (.slice none 0 0)).set 1 (.slice none 0 0))
  go_wp2_with fail
  refine bodyPost_ret (v := .tuple #[.agg #[.slice none 0 0, .slice none 0 0], .int .i64 2]) (results_ct Tryz.results66 _ _ (w.heap.size + 2) 24 _ _ rfl hres.out Tryz.underlying24 rfl info_grid) rfl ?_
  exact ⟨bset2 (r := w.heap.size + 2) hbw (by omega), _, _, _, _, _, _, rfl, (fun W _ => Ints.nil W), (fun W _ => Ints.nil W)⟩
set_option maxRecDepth 100000 in
set_option maxHeartbeats 4000000 in
theorem refColsR4 (vx vo : Value) (X O : List Int) (rows : Bool) (a v : Int) (w : World) (hX : Ints w vx X) (hO : Ints w vo O) (hv : Vd X O) (hr : a < 0 ∨ (X.length : Int) + 1 ≤ a ∨ v < 0 ∨ 2 * (X.length : Int) ≤ v) :
    Calls Tryz.prog 66 #[.agg #[vx, vo], .agg #[.int .i64 4, .bool rows, .int .i64 a, .int .i64 v]] w (GRf w.heap.size w (2, [], [])) := by
  have hX0 := hX
  have hO0 := hO
  obtain ⟨A, c, rfl, hc, hh⟩ := hX
  obtain ⟨A', c', rfl, hc', hh'⟩ := hO
  clear hh hh'
  have h2 := hv.two
  have h40 := hv.most
  go_enter Tryz.func66, Tryz.ntmps66
  go_upto_region 6 with fail
  have hW : Arr (((((w.alloc (.cells #[.slice A X.length c, .slice A' O.length c'] 24)).alloc (.cells #[.int .i64 4, .bool rows, .int .i64 a, .int .i64 v] 85)).alloc (.cells #[.slice none 0 0, .slice none 0 0] 24)).alloc (.cells #[.int .i64 1, .int .i64 ((X.length : Int) - 1), .int .i64 (X.length : Int), .int .i64 ((X.length : Int) + 1)] 3)).alloc (.cells #[.int .i64 1, .int .i64 1, .int .i64 1, .int .i64 (2 * (X.length : Int))] 3)) w.heap.size 24 [.slice A X.length c, .slice A' O.length c'] ∧ Arr (((((w.alloc (.cells #[.slice A X.length c, .slice A' O.length c'] 24)).alloc (.cells #[.int .i64 4, .bool rows, .int .i64 a, .int .i64 v] 85)).alloc (.cells #[.slice none 0 0, .slice none 0 0] 24)).alloc (.cells #[.int .i64 1, .int .i64 ((X.length : Int) - 1), .int .i64 (X.length : Int), .int .i64 ((X.length : Int) + 1)] 3)).alloc (.cells #[.int .i64 1, .int .i64 1, .int .i64 1, .int .i64 (2 * (X.length : Int))] 3)) (w.heap.size + 1) 85 [.int .i64 4, .bool rows, .int .i64 a, .int .i64 v] ∧ Arr (((((w.alloc (.cells #[.slice A X.length c, .slice A' O.length c'] 24)).alloc (.cells #[.int .i64 4, .bool rows, .int .i64 a, .int .i64 v] 85)).alloc (.cells #[.slice none 0 0, .slice none 0 0] 24)).alloc (.cells #[.int .i64 1, .int .i64 ((X.length : Int) - 1), .int .i64 (X.length : Int), .int .i64 ((X.length : Int) + 1)] 3)).alloc (.cells #[.int .i64 1, .int .i64 1, .int .i64 1, .int .i64 (2 * (X.length : Int))] 3)) (w.heap.size + 2) 24 [.slice none 0 0, .slice none 0 0] ∧ Arr (((((w.alloc (.cells #[.slice A X.length c, .slice A' O.length c'] 24)).alloc (.cells #[.int .i64 4, .bool rows, .int .i64 a, .int .i64 v] 85)).alloc (.cells #[.slice none 0 0, .slice none 0 0] 24)).alloc (.cells #[.int .i64 1, .int .i64 ((X.length : Int) - 1), .int .i64 (X.length : Int), .int .i64 ((X.length : Int) + 1)] 3)).alloc (.cells #[.int .i64 1, .int .i64 1, .int .i64 1, .int .i64 (2 * (X.length : Int))] 3)) (w.heap.size + 3) 3 [.int .i64 1, .int .i64 ((X.length : Int) - 1), .int .i64 (X.length : Int), .int .i64 ((X.length : Int) + 1)] ∧ Arr (((((w.alloc (.cells #[.slice A X.length c, .slice A' O.length c'] 24)).alloc (.cells #[.int .i64 4, .bool rows, .int .i64 a, .int .i64 v] 85)).alloc (.cells #[.slice none 0 0, .slice none 0 0] 24)).alloc (.cells #[.int .i64 1, .int .i64 ((X.length : Int) - 1), .int .i64 (X.length : Int), .int .i64 ((X.length : Int) + 1)] 3)).alloc (.cells #[.int .i64 1, .int .i64 1, .int .i64 1, .int .i64 (2 * (X.length : Int))] 3)) (w.heap.size + 4) 3 [.int .i64 1, .int .i64 1, .int .i64 1, .int .i64 (2 * (X.length : Int))] ∧ Below w.heap.size w (((((w.alloc (.cells #[.slice A X.length c, .slice A' O.length c'] 24)).alloc (.cells #[.int .i64 4, .bool rows, .int .i64 a, .int .i64 v] 85)).alloc (.cells #[.slice none 0 0, .slice none 0 0] 24)).alloc (.cells #[.int .i64 1, .int .i64 ((X.length : Int) - 1), .int .i64 (X.length : Int), .int .i64 ((X.length : Int) + 1)] 3)).alloc (.cells #[.int .i64 1, .int .i64 1, .int .i64 1, .int .i64 (2 * (X.length : Int))] 3)) :=
    ⟨((((Arr.new _ _ [_, _]).alloc _).alloc _).alloc _).alloc _, (((Arr.newAt _ _ [_, _, _, _] _ (by simp)).alloc _).alloc _).alloc _, ((Arr.newAt _ _ [_, _] _ (by simp)).alloc _).alloc _, (Arr.newAt _ _ [_, _, _, _] _ (by simp)).alloc _, Arr.newAt _ _ [_, _, _, _] _ (by simp), by repeat (first | exact Below.refl _ _ | refine Below.alloc ?_ (by simp <;> omega) _)⟩
  generalize (((((w.alloc (.cells #[.slice A X.length c, .slice A' O.length c'] 24)).alloc (.cells #[.int .i64 4, .bool rows, .int .i64 a, .int .i64 v] 85)).alloc (.cells #[.slice none 0 0, .slice none 0 0] 24)).alloc (.cells #[.int .i64 1, .int .i64 ((X.length : Int) - 1), .int .i64 (X.length : Int), .int .i64 ((X.length : Int) + 1)] 3)).alloc (.cells #[.int .i64 1, .int .i64 1, .int .i64 1, .int .i64 (2 * (X.length : Int))] 3)) = w4 at hW ⊢
  obtain ⟨p0, p1, p2, p3, p4, hbw⟩ := hW
  have y0 := p0.cell 0
  have y1 := p0.cell 1
  have m0 := p1.cell 0
  have m2 := p1.cell 2
  have m3 := p1.cell 3
  have P0 := p3.cell 3
  have V0 := p4.cell 3
  by_cases u0 : a < 0
  · have t0 : decide (a < 0) = true := by simpa using u0
    clear u0
    go_quiet (fail)
    have hW : Arr (w4.drewN nq) (w.heap.size + 2) 24 [.slice none 0 0, .slice none 0 0] ∧ Below w.heap.size w (w4.drewN nq) := ⟨p2.drewN _, bdrewN hbw _⟩
    clear p0 p1 p2 p3 p4 hbw y0 y1 m0 m2 m3 P0 V0
    generalize w4.drewN nq = w5 at hW ⊢
    obtain ⟨p2, hbw⟩ := hW
    have s0 := p2.cell 0
    have s1 := p2.cell 1
    have s2 := p2.frozen 0
    have s3 := p2.frozen 1
    have hres := Lib.hid ((p2.set 0 (.slice none 0 0)).set 1 (.slice none 0 0))
    go_wp2_with fail
    refine bodyPost_ret (v := .tuple #[.agg #[.slice none 0 0, .slice none 0 0], .int .i64 2]) (results_ct Tryz.results66 _ _ (w.heap.size + 2) 24 _ _ rfl hres.out Tryz.underlying24 rfl info_grid) rfl ?_
    exact ⟨bset2 (r := w.heap.size + 2) hbw (by omega), _, _, _, _, _, _, rfl, (fun W _ => Ints.nil W), (fun W _ => Ints.nil W)⟩
  have t0 : decide (a < 0) = false := by simpa using u0
  by_cases u1 : (X.length : Int) + 1 ≤ a
  · have t1 : decide ((X.length : Int) + 1 ≤ a) = true := by simpa using u1
    clear u1
    go_quiet (fail)
    have hW : Arr (w4.drewN nq) (w.heap.size + 2) 24 [.slice none 0 0, .slice none 0 0] ∧ Below w.heap.size w (w4.drewN nq) := ⟨p2.drewN _, bdrewN hbw _⟩
    clear p0 p1 p2 p3 p4 hbw y0 y1 m0 m2 m3 P0 V0
    generalize w4.drewN nq = w5 at hW ⊢
    obtain ⟨p2, hbw⟩ := hW
    have s0 := p2.cell 0
    have s1 := p2.cell 1
    have s2 := p2.frozen 0
    have s3 := p2.frozen 1
    have hres := Lib.hid ((p2.set 0 (.slice none 0 0)).set 1 (.slice none 0 0))
    go_wp2_with fail
    refine bodyPost_ret (v := .tuple #[.agg #[.slice none 0 0, .slice none 0 0], .int .i64 2]) (results_ct Tryz.results66 _ _ (w.heap.size + 2) 24 _ _ rfl hres.out Tryz.underlying24 rfl info_grid) rfl ?_
    exact ⟨bset2 (r := w.heap.size + 2) hbw (by omega), _, _, _, _, _, _, rfl, (fun W _ => Ints.nil W), (fun W _ => Ints.nil W)⟩
  have t1 : decide ((X.length : Int) + 1 ≤ a) = false := by simpa using u1
  by_cases u2 : v < 0
  · have t2 : decide (v < 0) = true := by simpa using u2
    clear u2
    go_quiet (fail)
    have hW : Arr (w4.drewN nq) (w.heap.size + 2) 24 [.slice none 0 0, .slice none 0 0] ∧ Below w.heap.size w (w4.drewN nq) := ⟨p2.drewN _, bdrewN hbw _⟩
    clear p0 p1 p2 p3 p4 hbw y0 y1 m0 m2 m3 P0 V0
    generalize w4.drewN nq = w5 at hW ⊢
    obtain ⟨p2, hbw⟩ := hW
    have s0 := p2.cell 0
    have s1 := p2.cell 1
    have s2 := p2.frozen 0
    have s3 := p2.frozen 1
    have hres := Lib.hid ((p2.set 0 (.slice none 0 0)).set 1 (.slice none 0 0))
    go_wp2_with fail
    refine bodyPost_ret (v := .tuple #[.agg #[.slice none 0 0, .slice none 0 0], .int .i64 2]) (results_ct Tryz.results66 _ _ (w.heap.size + 2) 24 _ _ rfl hres.out Tryz.underlying24 rfl info_grid) rfl ?_
    exact ⟨bset2 (r := w.heap.size + 2) hbw (by omega), _, _, _, _, _, _, rfl, (fun W _ => Ints.nil W), (fun W _ => Ints.nil W)⟩
  have t2 : decide (v < 0) = false := by simpa using u2
  have u3 : 2 * (X.length : Int) ≤ v := by omega
  clear u0
  clear u1
  clear u2
  clear hr
  have t3 : decide (2 * (X.length : Int) ≤ v) = true := by simpa using u3
  clear u3
  go_quiet (fail)
  have hW : Arr (w4.drewN nq) (w.heap.size + 2) 24 [.slice none 0 0, .slice none 0 0] ∧ Below w.heap.size w (w4.drewN nq) := ⟨p2.drewN _, bdrewN hbw _⟩
  clear p0 p1 p2 p3 p4 hbw y0 y1 m0 m2 m3 P0 V0
  generalize w4.drewN nq = w5 at hW ⊢
  obtain ⟨p2, hbw⟩ := hW
  have s0 := p2.cell 0
  have s1 := p2.cell 1
  have s2 := p2.frozen 0
  have s3 := p2.frozen 1
  have hres := Lib.hid ((p2.set 0 (.slice none 0 0)).set 1 (.slice none 0 0))
  go_wp2_with fail
  refine bodyPost_ret (v := .tuple #[.agg #[.slice none 0 0, .slice none 0 0], .int .i64 2]) (results_ct Tryz.results66 _ _ (w.heap.size + 2) 24 _ _ rfl hres.out Tryz.underlying24 rfl info_grid) rfl ?_
  exact ⟨bset2 (r := w.heap.size + 2) hbw (by omega), _, _, _, _, _, _, rfl, (fun W _ => Ints.nil W), (fun W _ => Ints.nil W)⟩
set_option maxRecDepth 100000 in
set_option maxHeartbeats 4000000 in
theorem refCols2Y (vx vo : Value) (X O : List Int) (rows : Bool) (a v : Int) (w : World) (hX : Ints w vx X) (hO : Ints w vo O) (hv : Vd X O) (ha0 : 0 ≤ a) (ha1 : a < (X.length : Int) - 1) (hv0 : 0 ≤ v) (hv1 : v < 1) (hB : commB (X.getD a.toNat 0) (O.getD a.toNat 0) (X.getD (a.toNat + 1) 0) (O.getD (a.toNat + 1) 0) = true) :
    Calls Tryz.prog 66 #[.agg #[vx, vo], .agg #[.int .i64 2, .bool rows, .int .i64 a, .int .i64 v]] w (GRf w.heap.size w (0, swapL X a.toNat, swapL O a.toNat)) := by
  have HB := Lib.hid hB
  clear hB
  have hX0 := hX
  have hO0 := hO
  obtain ⟨A, c, rfl, hc, hh⟩ := hX
  obtain ⟨A', c', rfl, hc', hh'⟩ := hO
  clear hh hh'
  have h2 := hv.two
  have h40 := hv.most
  go_enter Tryz.func66, Tryz.ntmps66
  go_upto_region 6 with fail
  have hW : Arr (((((w.alloc (.cells #[.slice A X.length c, .slice A' O.length c'] 24)).alloc (.cells #[.int .i64 2, .bool rows, .int .i64 a, .int .i64 v] 85)).alloc (.cells #[.slice none 0 0, .slice none 0 0] 24)).alloc (.cells #[.int .i64 1, .int .i64 ((X.length : Int) - 1), .int .i64 (X.length : Int), .int .i64 ((X.length : Int) + 1)] 3)).alloc (.cells #[.int .i64 1, .int .i64 1, .int .i64 1, .int .i64 (2 * (X.length : Int))] 3)) w.heap.size 24 [.slice A X.length c, .slice A' O.length c'] ∧ Arr (((((w.alloc (.cells #[.slice A X.length c, .slice A' O.length c'] 24)).alloc (.cells #[.int .i64 2, .bool rows, .int .i64 a, .int .i64 v] 85)).alloc (.cells #[.slice none 0 0, .slice none 0 0] 24)).alloc (.cells #[.int .i64 1, .int .i64 ((X.length : Int) - 1), .int .i64 (X.length : Int), .int .i64 ((X.length : Int) + 1)] 3)).alloc (.cells #[.int .i64 1, .int .i64 1, .int .i64 1, .int .i64 (2 * (X.length : Int))] 3)) (w.heap.size + 1) 85 [.int .i64 2, .bool rows, .int .i64 a, .int .i64 v] ∧ Arr (((((w.alloc (.cells #[.slice A X.length c, .slice A' O.length c'] 24)).alloc (.cells #[.int .i64 2, .bool rows, .int .i64 a, .int .i64 v] 85)).alloc (.cells #[.slice none 0 0, .slice none 0 0] 24)).alloc (.cells #[.int .i64 1, .int .i64 ((X.length : Int) - 1), .int .i64 (X.length : Int), .int .i64 ((X.length : Int) + 1)] 3)).alloc (.cells #[.int .i64 1, .int .i64 1, .int .i64 1, .int .i64 (2 * (X.length : Int))] 3)) (w.heap.size + 2) 24 [.slice none 0 0, .slice none 0 0] ∧ Arr (((((w.alloc (.cells #[.slice A X.length c, .slice A' O.length c'] 24)).alloc (.cells #[.int .i64 2, .bool rows, .int .i64 a, .int .i64 v] 85)).alloc (.cells #[.slice none 0 0, .slice none 0 0] 24)).alloc (.cells #[.int .i64 1, .int .i64 ((X.length : Int) - 1), .int .i64 (X.length : Int), .int .i64 ((X.length : Int) + 1)] 3)).alloc (.cells #[.int .i64 1, .int .i64 1, .int .i64 1, .int .i64 (2 * (X.length : Int))] 3)) (w.heap.size + 3) 3 [.int .i64 1, .int .i64 ((X.length : Int) - 1), .int .i64 (X.length : Int), .int .i64 ((X.length : Int) + 1)] ∧ Arr (((((w.alloc (.cells #[.slice A X.length c, .slice A' O.length c'] 24)).alloc (.cells #[.int .i64 2, .bool rows, .int .i64 a, .int .i64 v] 85)).alloc (.cells #[.slice none 0 0, .slice none 0 0] 24)).alloc (.cells #[.int .i64 1, .int .i64 ((X.length : Int) - 1), .int .i64 (X.length : Int), .int .i64 ((X.length : Int) + 1)] 3)).alloc (.cells #[.int .i64 1, .int .i64 1, .int .i64 1, .int .i64 (2 * (X.length : Int))] 3)) (w.heap.size + 4) 3 [.int .i64 1, .int .i64 1, .int .i64 1, .int .i64 (2 * (X.length : Int))] ∧ Below w.heap.size w (((((w.alloc (.cells #[.slice A X.length c, .slice A' O.length c'] 24)).alloc (.cells #[.int .i64 2, .bool rows, .int .i64 a, .int .i64 v] 85)).alloc (.cells #[.slice none 0 0, .slice none 0 0] 24)).alloc (.cells #[.int .i64 1, .int .i64 ((X.length : Int) - 1), .int .i64 (X.length : Int), .int .i64 ((X.length : Int) + 1)] 3)).alloc (.cells #[.int .i64 1, .int .i64 1, .int .i64 1, .int .i64 (2 * (X.length : Int))] 3)) :=
    ⟨((((Arr.new _ _ [_, _]).alloc _).alloc _).alloc _).alloc _, (((Arr.newAt _ _ [_, _, _, _] _ (by simp)).alloc _).alloc _).alloc _, ((Arr.newAt _ _ [_, _] _ (by simp)).alloc _).alloc _, (Arr.newAt _ _ [_, _, _, _] _ (by simp)).alloc _, Arr.newAt _ _ [_, _, _, _] _ (by simp), by repeat (first | exact Below.refl _ _ | refine Below.alloc ?_ (by simp <;> omega) _)⟩
  generalize (((((w.alloc (.cells #[.slice A X.length c, .slice A' O.length c'] 24)).alloc (.cells #[.int .i64 2, .bool rows, .int .i64 a, .int .i64 v] 85)).alloc (.cells #[.slice none 0 0, .slice none 0 0] 24)).alloc (.cells #[.int .i64 1, .int .i64 ((X.length : Int) - 1), .int .i64 (X.length : Int), .int .i64 ((X.length : Int) + 1)] 3)).alloc (.cells #[.int .i64 1, .int .i64 1, .int .i64 1, .int .i64 (2 * (X.length : Int))] 3)) = w4 at hW ⊢
  obtain ⟨p0, p1, p2, p3, p4, hbw⟩ := hW
  have y0 := p0.cell 0
  have y1 := p0.cell 1
  have m0 := p1.cell 0
  have m2 := p1.cell 2
  have m3 := p1.cell 3
  have P0 := p3.cell 1
  have V0 := p4.cell 1
  have t1 : decide (a < 0) = false := by simp; omega
  have t2 : decide ((X.length : Int) - 1 ≤ a) = false := by simp; omega
  have t3 : decide (v < 0) = false := by simp; omega
  have t4 : decide (1 ≤ v) = false := by simp; omega
  go_quiet (fail)
  have hW : Arr (w4.drewN nq) w.heap.size 24 [.slice A X.length c, .slice A' O.length c'] ∧ Arr (w4.drewN nq) (w.heap.size + 1) 85 [.int .i64 2, .bool rows, .int .i64 a, .int .i64 v] ∧ Arr (w4.drewN nq) (w.heap.size + 2) 24 [.slice none 0 0, .slice none 0 0] ∧ Below w.heap.size w (w4.drewN nq) := ⟨p0.drewN _, p1.drewN _, p2.drewN _, bdrewN hbw _⟩
  clear m0 m2 m3 P0 V0 t1 t2 t3 t4 y0 y1 p0 p1 p2 p3 p4 hbw
  generalize w4.drewN nq = w5 at hW ⊢
  obtain ⟨p0, p1, p2, hbw⟩ := hW
  have HLL := Lib.hid hv.len
  have bX : ∀ x ∈ X, -1000 ≤ x ∧ x ≤ 1000 := fun x hx => by have := hv.pX.1 x hx; omega
  have bO : ∀ x ∈ O, -1000 ≤ x ∧ x ≤ 1000 := fun x hx => by have := hv.pO.1 x hx; have := hv.len; omega
  have BX := Lib.hid bX
  have BO := Lib.hid bO
  clear bX bO hv
  have lO : O.length ≤ 40 := by have := HLL.out; omega
  obtain ⟨an, rfl⟩ := Int.eq_ofNat_of_zero_le ha0
  have haO : an < O.length + 1 := by have := HLL.out; omega
  have y0 := p0.cell 0
  have y1 := p0.cell 1
  have m0 := p1.cell 0
  have m2 := p1.cell 2
  have m3 := p1.cell 3
  rw [Int.toNat_natCast] at HB ⊢
  have laX : an < X.length := by omega
  have laO : an < O.length := by have := HLL.out; omega
  have laX1 : an + 1 < X.length := by omega
  have laO1 : an + 1 < O.length := by have := HLL.out; omega
  have gX : X.getD an 0 = X[an] := by simp [List.getD_eq_getElem?_getD, laX]
  have gO : O.getD an 0 = O[an] := by simp [List.getD_eq_getElem?_getD, laO]
  have gX1 : X.getD (an + 1) 0 = X[an + 1] := by simp [List.getD_eq_getElem?_getD, laX1]
  have gO1 : O.getD (an + 1) 0 = O[an + 1] := by simp [List.getD_eq_getElem?_getD, laO1]
  rw [gX, gO, gX1, gO1] at HB
  skip
  clear gX gO gX1 gO1
  go_wp2_with fail
  refine (swappable_any (.slice A X.length c) (.slice A' O.length c') X O an w5 (hX0.below hbw) (hO0.below hbw) (by omega) laX1 laO1).mono ?_
  rintro e w6 ⟨rfl, hb6⟩
  rw [HB.out]
  have q0 := p0.below hb6 p0.lt
  have q1 := p1.below hb6 p1.lt
  have q2 := p2.below hb6 p2.lt
  have hbb := hbw.trans (hb6.mono hbw.size)
  clear y0 y1 m0 m2 m3 p0 p1 p2 hb6 hbw HB
  have y0 := q0.cell 0
  have y1 := q0.cell 1
  have m0 := q1.cell 0
  have m2 := q1.cell 2
  go_wp2_with fail
  refine (exchange_any (.slice A X.length c) (.slice A' O.length c') X O an w6 (hX0.below hbb) (hO0.below hbb) (by omega) HLL.out laX1).mono ?_
  rintro e w7 ⟨g7, rfl, ⟨A0, n0, c0, A1, n1, c1, rfl, hown0, hown1⟩, hb7⟩
  skip
  have q2' := q2.below hb7 q2.lt
  have hby := hbb.trans (hb7.mono hbb.size)
  have l2 := q2.lt
  have hsz := hbb.size
  have s0 := q2'.cell 0
  have s1 := q2'.cell 1
  have s2 := q2'.frozen 0
  have s3 := q2'.frozen 1
  have hres := Lib.hid ((q2'.set 0 (.slice A0 n0 c0)).set 1 (.slice A1 n1 c1))
  clear hb7
  go_wp2_with fail
  refine bodyPost_ret (v := .tuple #[.agg #[.slice A0 n0 c0, .slice A1 n1 c1], .int .i64 0]) (results_ct Tryz.results66 _ _ (w.heap.size + 2) 24 _ _ rfl hres.out Tryz.underlying24 rfl info_grid) rfl ?_
  exact ⟨bset2 (r := w.heap.size + 2) hby (by omega), _, _, _, _, _, _, rfl, ((hown0.far2 (r := w.heap.size + 2) l2).mono hsz).intsF, ((hown1.far2 (r := w.heap.size + 2) l2).mono hsz).intsF⟩
set_option maxRecDepth 100000 in
set_option maxHeartbeats 4000000 in
theorem refCols2N (vx vo : Value) (X O : List Int) (rows : Bool) (a v : Int) (w : World) (hX : Ints w vx X) (hO : Ints w vo O) (hv : Vd X O) (ha0 : 0 ≤ a) (ha1 : a < (X.length : Int) - 1) (hv0 : 0 ≤ v) (hv1 : v < 1) (hB : commB (X.getD a.toNat 0) (O.getD a.toNat 0) (X.getD (a.toNat + 1) 0) (O.getD (a.toNat + 1) 0) = false) :
    Calls Tryz.prog 66 #[.agg #[vx, vo], .agg #[.int .i64 2, .bool rows, .int .i64 a, .int .i64 v]] w (GRf w.heap.size w (6, [], [])) := by
  have HB := Lib.hid hB
  clear hB
  have hX0 := hX
  have hO0 := hO
  obtain ⟨A, c, rfl, hc, hh⟩ := hX
  obtain ⟨A', c', rfl, hc', hh'⟩ := hO
  clear hh hh'
  have h2 := hv.two
  have h40 := hv.most
  go_enter Tryz.func66, Tryz.ntmps66
  go_upto_region 6 with fail
  have hW : Arr (((((w.alloc (.cells #[.slice A X.length c, .slice A' O.length c'] 24)).alloc (.cells #[.int .i64 2, .bool rows, .int .i64 a, .int .i64 v] 85)).alloc (.cells #[.slice none 0 0, .slice none 0 0] 24)).alloc (.cells #[.int .i64 1, .int .i64 ((X.length : Int) - 1), .int .i64 (X.length : Int), .int .i64 ((X.length : Int) + 1)] 3)).alloc (.cells #[.int .i64 1, .int .i64 1, .int .i64 1, .int .i64 (2 * (X.length : Int))] 3)) w.heap.size 24 [.slice A X.length c, .slice A' O.length c'] ∧ Arr (((((w.alloc (.cells #[.slice A X.length c, .slice A' O.length c'] 24)).alloc (.cells #[.int .i64 2, .bool rows, .int .i64 a, .int .i64 v] 85)).alloc (.cells #[.slice none 0 0, .slice none 0 0] 24)).alloc (.cells #[.int .i64 1, .int .i64 ((X.length : Int) - 1), .int .i64 (X.length : Int), .int .i64 ((X.length : Int) + 1)] 3)).alloc (.cells #[.int .i64 1, .int .i64 1, .int .i64 1, .int .i64 (2 * (X.length : Int))] 3)) (w.heap.size + 1) 85 [.int .i64 2, .bool rows, .int .i64 a, .int .i64 v] ∧ Arr (((((w.alloc (.cells #[.slice A X.length c, .slice A' O.length c'] 24)).alloc (.cells #[.int .i64 2, .bool rows, .int .i64 a, .int .i64 v] 85)).alloc (.cells #[.slice none 0 0, .slice none 0 0] 24)).alloc (.cells #[.int .i64 1, .int .i64 ((X.length : Int) - 1), .int .i64 (X.length : Int), .int .i64 ((X.length : Int) + 1)] 3)).alloc (.cells #[.int .i64 1, .int .i64 1, .int .i64 1, .int .i64 (2 * (X.length : Int))] 3)) (w.heap.size + 2) 24 [.slice none 0 0, .slice none 0 0] ∧ Arr (((((w.alloc (.cells #[.slice A X.length c, .slice A' O.length c'] 24)).alloc (.cells #[.int .i64 2, .bool rows, .int .i64 a, .int .i64 v] 85)).alloc (.cells #[.slice none 0 0, .slice none 0 0] 24)).alloc (.cells #[.int .i64 1, .int .i64 ((X.length : Int) - 1), .int .i64 (X.length : Int), .int .i64 ((X.length : Int) + 1)] 3)).alloc (.cells #[.int .i64 1, .int .i64 1, .int .i64 1, .int .i64 (2 * (X.length : Int))] 3)) (w.heap.size + 3) 3 [.int .i64 1, .int .i64 ((X.length : Int) - 1), .int .i64 (X.length : Int), .int .i64 ((X.length : Int) + 1)] ∧ Arr (((((w.alloc (.cells #[.slice A X.length c, .slice A' O.length c'] 24)).alloc (.cells #[.int .i64 2, .bool rows, .int .i64 a, .int .i64 v] 85)).alloc (.cells #[.slice none 0 0, .slice none 0 0] 24)).alloc (.cells #[.int .i64 1, .int .i64 ((X.length : Int) - 1), .int .i64 (X.length : Int), .int .i64 ((X.length : Int) + 1)] 3)).alloc (.cells #[.int .i64 1, .int .i64 1, .int .i64 1, .int .i64 (2 * (X.length : Int))] 3)) (w.heap.size + 4) 3 [.int .i64 1, .int .i64 1, .int .i64 1, .int .i64 (2 * (X.length : Int))] ∧ Below w.heap.size w (((((w.alloc (.cells #[.slice A X.length c, .slice A' O.length c'] 24)).alloc (.cells #[.int .i64 2, .bool rows, .int .i64 a, .int .i64 v] 85)).alloc (.cells #[.slice none 0 0, .slice none 0 0] 24)).alloc (.cells #[.int .i64 1, .int .i64 ((X.length : Int) - 1), .int .i64 (X.length : Int), .int .i64 ((X.length : Int) + 1)] 3)).alloc (.cells #[.int .i64 1, .int .i64 1, .int .i64 1, .int .i64 (2 * (X.length : Int))] 3)) :=
    ⟨((((Arr.new _ _ [_, _]).alloc _).alloc _).alloc _).alloc _, (((Arr.newAt _ _ [_, _, _, _] _ (by simp)).alloc _).alloc _).alloc _, ((Arr.newAt _ _ [_, _] _ (by simp)).alloc _).alloc _, (Arr.newAt _ _ [_, _, _, _] _ (by simp)).alloc _, Arr.newAt _ _ [_, _, _, _] _ (by simp), by repeat (first | exact Below.refl _ _ | refine Below.alloc ?_ (by simp <;> omega) _)⟩
  generalize (((((w.alloc (.cells #[.slice A X.length c, .slice A' O.length c'] 24)).alloc (.cells #[.int .i64 2, .bool rows, .int .i64 a, .int .i64 v] 85)).alloc (.cells #[.slice none 0 0, .slice none 0 0] 24)).alloc (.cells #[.int .i64 1, .int .i64 ((X.length : Int) - 1), .int .i64 (X.length : Int), .int .i64 ((X.length : Int) + 1)] 3)).alloc (.cells #[.int .i64 1, .int .i64 1, .int .i64 1, .int .i64 (2 * (X.length : Int))] 3)) = w4 at hW ⊢
  obtain ⟨p0, p1, p2, p3, p4, hbw⟩ := hW
  have y0 := p0.cell 0
  have y1 := p0.cell 1
  have m0 := p1.cell 0
  have m2 := p1.cell 2
  have m3 := p1.cell 3
  have P0 := p3.cell 1
  have V0 := p4.cell 1
  have t1 : decide (a < 0) = false := by simp; omega
  have t2 : decide ((X.length : Int) - 1 ≤ a) = false := by simp; omega
  have t3 : decide (v < 0) = false := by simp; omega
  have t4 : decide (1 ≤ v) = false := by simp; omega
  go_quiet (fail)
  have hW : Arr (w4.drewN nq) w.heap.size 24 [.slice A X.length c, .slice A' O.length c'] ∧ Arr (w4.drewN nq) (w.heap.size + 1) 85 [.int .i64 2, .bool rows, .int .i64 a, .int .i64 v] ∧ Arr (w4.drewN nq) (w.heap.size + 2) 24 [.slice none 0 0, .slice none 0 0] ∧ Below w.heap.size w (w4.drewN nq) := ⟨p0.drewN _, p1.drewN _, p2.drewN _, bdrewN hbw _⟩
  clear m0 m2 m3 P0 V0 t1 t2 t3 t4 y0 y1 p0 p1 p2 p3 p4 hbw
  generalize w4.drewN nq = w5 at hW ⊢
  obtain ⟨p0, p1, p2, hbw⟩ := hW
  have HLL := Lib.hid hv.len
  have bX : ∀ x ∈ X, -1000 ≤ x ∧ x ≤ 1000 := fun x hx => by have := hv.pX.1 x hx; omega
  have bO : ∀ x ∈ O, -1000 ≤ x ∧ x ≤ 1000 := fun x hx => by have := hv.pO.1 x hx; have := hv.len; omega
  have BX := Lib.hid bX
  have BO := Lib.hid bO
  clear bX bO hv
  have lO : O.length ≤ 40 := by have := HLL.out; omega
  obtain ⟨an, rfl⟩ := Int.eq_ofNat_of_zero_le ha0
  have haO : an < O.length + 1 := by have := HLL.out; omega
  have y0 := p0.cell 0
  have y1 := p0.cell 1
  have m0 := p1.cell 0
  have m2 := p1.cell 2
  have m3 := p1.cell 3
  rw [Int.toNat_natCast] at HB
  have laX : an < X.length := by omega
  have laO : an < O.length := by have := HLL.out; omega
  have laX1 : an + 1 < X.length := by omega
  have laO1 : an + 1 < O.length := by have := HLL.out; omega
  have gX : X.getD an 0 = X[an] := by simp [List.getD_eq_getElem?_getD, laX]
  have gO : O.getD an 0 = O[an] := by simp [List.getD_eq_getElem?_getD, laO]
  have gX1 : X.getD (an + 1) 0 = X[an + 1] := by simp [List.getD_eq_getElem?_getD, laX1]
  have gO1 : O.getD (an + 1) 0 = O[an + 1] := by simp [List.getD_eq_getElem?_getD, laO1]
  rw [gX, gO, gX1, gO1] at HB
  skip
  clear gX gO gX1 gO1
  go_wp2_with fail
  refine (swappable_any (.slice A X.length c) (.slice A' O.length c') X O an w5 (hX0.below hbw) (hO0.below hbw) (by omega) laX1 laO1).mono ?_
  rintro e w6 ⟨rfl, hb6⟩
  rw [HB.out]
  have q0 := p0.below hb6 p0.lt
  have q1 := p1.below hb6 p1.lt
  have q2 := p2.below hb6 p2.lt
  have hbb := hbw.trans (hb6.mono hbw.size)
  clear y0 y1 m0 m2 m3 p0 p1 p2 hb6 hbw HB
  have y0 := q0.cell 0
  have y1 := q0.cell 1
  have m0 := q1.cell 0
  have m2 := q1.cell 2
  have s0 := q2.cell 0
  have s1 := q2.cell 1
  have s2 := q2.frozen 0
  have s3 := q2.frozen 1
  have hres := Lib.hid ((q2.set 0 (.slice none 0 0)).set 1 (.slice none 0 0))
  go_wp2_with fail
  refine bodyPost_ret (v := .tuple #[.agg #[.slice none 0 0, .slice none 0 0], .int .i64 6]) (results_ct Tryz.results66 _ _ (w.heap.size + 2) 24 _ _ rfl hres.out Tryz.underlying24 rfl info_grid) rfl ?_
  exact ⟨bset2 (r := w.heap.size + 2) hbb (by omega), _, _, _, _, _, _, rfl, (fun W _ => Ints.nil W), (fun W _ => Ints.nil W)⟩
set_option maxRecDepth 100000 in
set_option maxHeartbeats 4000000 in
theorem refCols3Y (vx vo : Value) (X O : List Int) (rows : Bool) (a v : Int) (w : World) (hX : Ints w vx X) (hO : Ints w vo O) (hv : Vd X O) (ha0 : 0 ≤ a) (ha1 : a < (X.length : Int)) (hv0 : 0 ≤ v) (hv1 : v < 1) (hB : remB X O (X.getD a.toNat 0) (O.getD a.toNat 0) = true) :
    Calls Tryz.prog 66 #[.agg #[vx, vo], .agg #[.int .i64 3, .bool rows, .int .i64 a, .int .i64 v]] w (GRf w.heap.size w (0, delL X a.toNat (minG (X.getD a.toNat 0) (O.getD a.toNat 0)), delL O a.toNat (minG (X.getD a.toNat 0) (O.getD a.toNat 0)))) := by
  have HB := Lib.hid hB
  clear hB
  have hX0 := hX
  have hO0 := hO
  obtain ⟨A, c, rfl, hc, hh⟩ := hX
  obtain ⟨A', c', rfl, hc', hh'⟩ := hO
  clear hh hh'
  have h2 := hv.two
  have h40 := hv.most
  go_enter Tryz.func66, Tryz.ntmps66
  go_upto_region 6 with fail
  have hW : Arr (((((w.alloc (.cells #[.slice A X.length c, .slice A' O.length c'] 24)).alloc (.cells #[.int .i64 3, .bool rows, .int .i64 a, .int .i64 v] 85)).alloc (.cells #[.slice none 0 0, .slice none 0 0] 24)).alloc (.cells #[.int .i64 1, .int .i64 ((X.length : Int) - 1), .int .i64 (X.length : Int), .int .i64 ((X.length : Int) + 1)] 3)).alloc (.cells #[.int .i64 1, .int .i64 1, .int .i64 1, .int .i64 (2 * (X.length : Int))] 3)) w.heap.size 24 [.slice A X.length c, .slice A' O.length c'] ∧ Arr (((((w.alloc (.cells #[.slice A X.length c, .slice A' O.length c'] 24)).alloc (.cells #[.int .i64 3, .bool rows, .int .i64 a, .int .i64 v] 85)).alloc (.cells #[.slice none 0 0, .slice none 0 0] 24)).alloc (.cells #[.int .i64 1, .int .i64 ((X.length : Int) - 1), .int .i64 (X.length : Int), .int .i64 ((X.length : Int) + 1)] 3)).alloc (.cells #[.int .i64 1, .int .i64 1, .int .i64 1, .int .i64 (2 * (X.length : Int))] 3)) (w.heap.size + 1) 85 [.int .i64 3, .bool rows, .int .i64 a, .int .i64 v] ∧ Arr (((((w.alloc (.cells #[.slice A X.length c, .slice A' O.length c'] 24)).alloc (.cells #[.int .i64 3, .bool rows, .int .i64 a, .int .i64 v] 85)).alloc (.cells #[.slice none 0 0, .slice none 0 0] 24)).alloc (.cells #[.int .i64 1, .int .i64 ((X.length : Int) - 1), .int .i64 (X.length : Int), .int .i64 ((X.length : Int) + 1)] 3)).alloc (.cells #[.int .i64 1, .int .i64 1, .int .i64 1, .int .i64 (2 * (X.length : Int))] 3)) (w.heap.size + 2) 24 [.slice none 0 0, .slice none 0 0] ∧ Arr (((((w.alloc (.cells #[.slice A X.length c, .slice A' O.length c'] 24)).alloc (.cells #[.int .i64 3, .bool rows, .int .i64 a, .int .i64 v] 85)).alloc (.cells #[.slice none 0 0, .slice none 0 0] 24)).alloc (.cells #[.int .i64 1, .int .i64 ((X.length : Int) - 1), .int .i64 (X.length : Int), .int .i64 ((X.length : Int) + 1)] 3)).alloc (.cells #[.int .i64 1, .int .i64 1, .int .i64 1, .int .i64 (2 * (X.length : Int))] 3)) (w.heap.size + 3) 3 [.int .i64 1, .int .i64 ((X.length : Int) - 1), .int .i64 (X.length : Int), .int .i64 ((X.length : Int) + 1)] ∧ Arr (((((w.alloc (.cells #[.slice A X.length c, .slice A' O.length c'] 24)).alloc (.cells #[.int .i64 3, .bool rows, .int .i64 a, .int .i64 v] 85)).alloc (.cells #[.slice none 0 0, .slice none 0 0] 24)).alloc (.cells #[.int .i64 1, .int .i64 ((X.length : Int) - 1), .int .i64 (X.length : Int), .int .i64 ((X.length : Int) + 1)] 3)).alloc (.cells #[.int .i64 1, .int .i64 1, .int .i64 1, .int .i64 (2 * (X.length : Int))] 3)) (w.heap.size + 4) 3 [.int .i64 1, .int .i64 1, .int .i64 1, .int .i64 (2 * (X.length : Int))] ∧ Below w.heap.size w (((((w.alloc (.cells #[.slice A X.length c, .slice A' O.length c'] 24)).alloc (.cells #[.int .i64 3, .bool rows, .int .i64 a, .int .i64 v] 85)).alloc (.cells #[.slice none 0 0, .slice none 0 0] 24)).alloc (.cells #[.int .i64 1, .int .i64 ((X.length : Int) - 1), .int .i64 (X.length : Int), .int .i64 ((X.length : Int) + 1)] 3)).alloc (.cells #[.int .i64 1, .int .i64 1, .int .i64 1, .int .i64 (2 * (X.length : Int))] 3)) :=
    ⟨((((Arr.new _ _ [_, _]).alloc _).alloc _).alloc _).alloc _, (((Arr.newAt _ _ [_, _, _, _] _ (by simp)).alloc _).alloc _).alloc _, ((Arr.newAt _ _ [_, _] _ (by simp)).alloc _).alloc _, (Arr.newAt _ _ [_, _, _, _] _ (by simp)).alloc _, Arr.newAt _ _ [_, _, _, _] _ (by simp), by repeat (first | exact Below.refl _ _ | refine Below.alloc ?_ (by simp <;> omega) _)⟩
  generalize (((((w.alloc (.cells #[.slice A X.length c, .slice A' O.length c'] 24)).alloc (.cells #[.int .i64 3, .bool rows, .int .i64 a, .int .i64 v] 85)).alloc (.cells #[.slice none 0 0, .slice none 0 0] 24)).alloc (.cells #[.int .i64 1, .int .i64 ((X.length : Int) - 1), .int .i64 (X.length : Int), .int .i64 ((X.length : Int) + 1)] 3)).alloc (.cells #[.int .i64 1, .int .i64 1, .int .i64 1, .int .i64 (2 * (X.length : Int))] 3)) = w4 at hW ⊢
  obtain ⟨p0, p1, p2, p3, p4, hbw⟩ := hW
  have y0 := p0.cell 0
  have y1 := p0.cell 1
  have m0 := p1.cell 0
  have m2 := p1.cell 2
  have m3 := p1.cell 3
  have P0 := p3.cell 2
  have V0 := p4.cell 2
  have t1 : decide (a < 0) = false := by simp; omega
  have t2 : decide ((X.length : Int) ≤ a) = false := by simp; omega
  have t3 : decide (v < 0) = false := by simp; omega
  have t4 : decide (1 ≤ v) = false := by simp; omega
  go_quiet (fail)
  have hW : Arr (w4.drewN nq) w.heap.size 24 [.slice A X.length c, .slice A' O.length c'] ∧ Arr (w4.drewN nq) (w.heap.size + 1) 85 [.int .i64 3, .bool rows, .int .i64 a, .int .i64 v] ∧ Arr (w4.drewN nq) (w.heap.size + 2) 24 [.slice none 0 0, .slice none 0 0] ∧ Below w.heap.size w (w4.drewN nq) := ⟨p0.drewN _, p1.drewN _, p2.drewN _, bdrewN hbw _⟩
  clear m0 m2 m3 P0 V0 t1 t2 t3 t4 y0 y1 p0 p1 p2 p3 p4 hbw
  generalize w4.drewN nq = w5 at hW ⊢
  obtain ⟨p0, p1, p2, hbw⟩ := hW
  have HLL := Lib.hid hv.len
  have bX : ∀ x ∈ X, -1000 ≤ x ∧ x ≤ 1000 := fun x hx => by have := hv.pX.1 x hx; omega
  have bO : ∀ x ∈ O, -1000 ≤ x ∧ x ≤ 1000 := fun x hx => by have := hv.pO.1 x hx; have := hv.len; omega
  have BX := Lib.hid bX
  have BO := Lib.hid bO
  clear bX bO hv
  have lO : O.length ≤ 40 := by have := HLL.out; omega
  obtain ⟨an, rfl⟩ := Int.eq_ofNat_of_zero_le ha0
  have haO : an < O.length + 1 := by have := HLL.out; omega
  have y0 := p0.cell 0
  have y1 := p0.cell 1
  have m0 := p1.cell 0
  have m2 := p1.cell 2
  have m3 := p1.cell 3
  rw [Int.toNat_natCast] at HB ⊢
  have laX : an < X.length := by omega
  have laO : an < O.length := by have := HLL.out; omega
  skip
  skip
  have gX : X.getD an 0 = X[an] := by simp [List.getD_eq_getElem?_getD, laX]
  have gO : O.getD an 0 = O[an] := by simp [List.getD_eq_getElem?_getD, laO]
  skip
  skip
  rw [gX, gO] at HB
  have E3 := Lib.hid (show minG X[an] O[an] = minG (X.getD (an : Int).toNat 0) (O.getD (an : Int).toNat 0) by rw [Int.toNat_natCast, gX, gO])
  clear gX gO
  go_wp2_with fail
  refine (removable_any (.slice A X.length c) (.slice A' O.length c') X O an w5 (hX0.below hbw) (hO0.below hbw) (by omega) (by omega) laX laO (BX.out _ (List.getElem_mem _)) (BO.out _ (List.getElem_mem _))).mono ?_
  rintro e w6 ⟨rfl, hb6⟩
  rw [HB.out]
  have q0 := p0.below hb6 p0.lt
  have q1 := p1.below hb6 p1.lt
  have q2 := p2.below hb6 p2.lt
  have hbb := hbw.trans (hb6.mono hbw.size)
  clear y0 y1 m0 m2 m3 p0 p1 p2 hb6 hbw HB
  have y0 := q0.cell 0
  have y1 := q0.cell 1
  have m0 := q1.cell 0
  have m2 := q1.cell 2
  go_wp2_with fail
  refine (remove_any (.slice A X.length c) (.slice A' O.length c') X O an w6 (hX0.below hbb) (hO0.below hbb) (by omega) (by omega) laX laO BX.out BO.out).mono ?_
  rintro e w7 ⟨g7, rfl, ⟨A0, n0, c0, A1, n1, c1, rfl, hown0, hown1⟩, hb7⟩
  rw [E3.out] at hown0 hown1
  have q2' := q2.below hb7 q2.lt
  have hby := hbb.trans (hb7.mono hbb.size)
  have l2 := q2.lt
  have hsz := hbb.size
  have s0 := q2'.cell 0
  have s1 := q2'.cell 1
  have s2 := q2'.frozen 0
  have s3 := q2'.frozen 1
  have hres := Lib.hid ((q2'.set 0 (.slice A0 n0 c0)).set 1 (.slice A1 n1 c1))
  clear hb7
  go_wp2_with fail
  refine bodyPost_ret (v := .tuple #[.agg #[.slice A0 n0 c0, .slice A1 n1 c1], .int .i64 0]) (results_ct Tryz.results66 _ _ (w.heap.size + 2) 24 _ _ rfl hres.out Tryz.underlying24 rfl info_grid) rfl ?_
  exact ⟨bset2 (r := w.heap.size + 2) hby (by omega), _, _, _, _, _, _, rfl, ((hown0.far2 (r := w.heap.size + 2) l2).mono hsz).intsF, ((hown1.far2 (r := w.heap.size + 2) l2).mono hsz).intsF⟩
set_option maxRecDepth 100000 in
set_option maxHeartbeats 4000000 in
theorem refCols3N (vx vo : Value) (X O : List Int) (rows : Bool) (a v : Int) (w : World) (hX : Ints w vx X) (hO : Ints w vo O) (hv : Vd X O) (ha0 : 0 ≤ a) (ha1 : a < (X.length : Int)) (hv0 : 0 ≤ v) (hv1 : v < 1) (hB : remB X O (X.getD a.toNat 0) (O.getD a.toNat 0) = false) :
    Calls Tryz.prog 66 #[.agg #[vx, vo], .agg #[.int .i64 3, .bool rows, .int .i64 a, .int .i64 v]] w (GRf w.heap.size w (6, [], [])) := by
  have HB := Lib.hid hB
  clear hB
  have hX0 := hX
  have hO0 := hO
  obtain ⟨A, c, rfl, hc, hh⟩ := hX
  obtain ⟨A', c', rfl, hc', hh'⟩ := hO
  clear hh hh'
  have h2 := hv.two
  have h40 := hv.most
  go_enter Tryz.func66, Tryz.ntmps66
  go_upto_region 6 with fail
  have hW : Arr (((((w.alloc (.cells #[.slice A X.length c, .slice A' O.length c'] 24)).alloc (.cells #[.int .i64 3, .bool rows, .int .i64 a, .int .i64 v] 85)).alloc (.cells #[.slice none 0 0, .slice none 0 0] 24)).alloc (.cells #[.int .i64 1, .int .i64 ((X.length : Int) - 1), .int .i64 (X.length : Int), .int .i64 ((X.length : Int) + 1)] 3)).alloc (.cells #[.int .i64 1, .int .i64 1, .int .i64 1, .int .i64 (2 * (X.length : Int))] 3)) w.heap.size 24 [.slice A X.length c, .slice A' O.length c'] ∧ Arr (((((w.alloc (.cells #[.slice A X.length c, .slice A' O.length c'] 24)).alloc (.cells #[.int .i64 3, .bool rows, .int .i64 a, .int .i64 v] 85)).alloc (.cells #[.slice none 0 0, .slice none 0 0] 24)).alloc (.cells #[.int .i64 1, .int .i64 ((X.length : Int) - 1), .int .i64 (X.length : Int), .int .i64 ((X.length : Int) + 1)] 3)).alloc (.cells #[.int .i64 1, .int .i64 1, .int .i64 1, .int .i64 (2 * (X.length : Int))] 3)) (w.heap.size + 1) 85 [.int .i64 3, .bool rows, .int .i64 a, .int .i64 v] ∧ Arr (((((w.alloc (.cells #[.slice A X.length c, .slice A' O.length c'] 24)).alloc (.cells #[.int .i64 3, .bool rows, .int .i64 a, .int .i64 v] 85)).alloc (.cells #[.slice none 0 0, .slice none 0 0] 24)).alloc (.cells #[.int .i64 1, .int .i64 ((X.length : Int) - 1), .int .i64 (X.length : Int), .int .i64 ((X.length : Int) + 1)] 3)).alloc (.cells #[.int .i64 1, .int .i64 1, .int .i64 1, .int .i64 (2 * (X.length : Int))] 3)) (w.heap.size + 2) 24 [.slice none 0 0, .slice none 0 0] ∧ Arr (((((w.alloc (.cells #[.slice A X.length c, .slice A' O.length c'] 24)).alloc (.cells #[.int .i64 3, .bool rows, .int .i64 a, .int .i64 v] 85)).alloc (.cells #[.slice none 0 0, .slice none 0 0] 24)).alloc (.cells #[.int .i64 1, .int .i64 ((X.length : Int) - 1), .int .i64 (X.length : Int), .int .i64 ((X.length : Int) + 1)] 3)).alloc (.cells #[.int .i64 1, .int .i64 1, .int .i64 1, .int .i64 (2 * (X.length : Int))] 3)) (w.heap.size + 3) 3 [.int .i64 1, .int .i64 ((X.length : Int) - 1), .int .i64 (X.length : Int), .int .i64 ((X.length : Int) + 1)] ∧ Arr (((((w.alloc (.cells #[.slice A X.length c, .slice A' O.length c'] 24)).alloc (.cells #[.int .i64 3, .bool rows, .int .i64 a, .int .i64 v] 85)).alloc (.cells #[.slice none 0 0, .slice none 0 0] 24)).alloc (.cells #[.int .i64 1, .int .i64 ((X.length : Int) - 1), .int .i64 (X.length : Int), .int .i64 ((X.length : Int) + 1)] 3)).alloc (.cells #[.int .i64 1, .int .i64 1, .int .i64 1, .int .i64 (2 * (X.length : Int))] 3)) (w.heap.size + 4) 3 [.int .i64 1, .int .i64 1, .int .i64 1, .int .i64 (2 * (X.length : Int))] ∧ Below w.heap.size w (((((w.alloc (.cells #[.slice A X.length c, .slice A' O.length c'] 24)).alloc (.cells #[.int .i64 3, .bool rows, .int .i64 a, .int .i64 v] 85)).alloc (.cells #[.slice none 0 0, .slice none 0 0] 24)).alloc (.cells #[.int .i64 1, .int .i64 ((X.length : Int) - 1), .int .i64 (X.length : Int), .int .i64 ((X.length : Int) + 1)] 3)).alloc (.cells #[.int .i64 1, .int .i64 1, .int .i64 1, .int .i64 (2 * (X.length : Int))] 3)) :=
    ⟨((((Arr.new _ _ [_, _]).alloc _).alloc _).alloc _).alloc _, (((Arr.newAt _ _ [_, _, _, _] _ (by simp)).alloc _).alloc _).alloc _, ((Arr.newAt _ _ [_, _] _ (by simp)).alloc _).alloc _, (Arr.newAt _ _ [_, _, _, _] _ (by simp)).alloc _, Arr.newAt _ _ [_, _, _, _] _ (by simp), by repeat (first | exact Below.refl _ _ | refine Below.alloc ?_ (by simp <;> omega) _)⟩
  generalize (((((w.alloc (.cells #[.slice A X.length c, .slice A' O.length c'] 24)).alloc (.cells #[.int .i64 3, .bool rows, .int .i64 a, .int .i64 v] 85)).alloc (.cells #[.slice none 0 0, .slice none 0 0] 24)).alloc (.cells #[.int .i64 1, .int .i64 ((X.length : Int) - 1), .int .i64 (X.length : Int), .int .i64 ((X.length : Int) + 1)] 3)).alloc (.cells #[.int .i64 1, .int .i64 1, .int .i64 1, .int .i64 (2 * (X.length : Int))] 3)) = w4 at hW ⊢
  obtain ⟨p0, p1, p2, p3, p4, hbw⟩ := hW
  have y0 := p0.cell 0
  have y1 := p0.cell 1
  have m0 := p1.cell 0
  have m2 := p1.cell 2
  have m3 := p1.cell 3
  have P0 := p3.cell 2
  have V0 := p4.cell 2
  have t1 : decide (a < 0) = false := by simp; omega
  have t2 : decide ((X.length : Int) ≤ a) = false := by simp; omega
  have t3 : decide (v < 0) = false := by simp; omega
  have t4 : decide (1 ≤ v) = false := by simp; omega
  go_quiet (fail)
  have hW : Arr (w4.drewN nq) w.heap.size 24 [.slice A X.length c, .slice A' O.length c'] ∧ Arr (w4.drewN nq) (w.heap.size + 1) 85 [.int .i64 3, .bool rows, .int .i64 a, .int .i64 v] ∧ Arr (w4.drewN nq) (w.heap.size + 2) 24 [.slice none 0 0, .slice none 0 0] ∧ Below w.heap.size w (w4.drewN nq) := ⟨p0.drewN _, p1.drewN _, p2.drewN _, bdrewN hbw _⟩
  clear m0 m2 m3 P0 V0 t1 t2 t3 t4 y0 y1 p0 p1 p2 p3 p4 hbw
  generalize w4.drewN nq = w5 at hW ⊢
  obtain ⟨p0, p1, p2, hbw⟩ := hW
  have HLL := Lib.hid hv.len
  have bX : ∀ x ∈ X, -1000 ≤ x ∧ x ≤ 1000 := fun x hx => by have := hv.pX.1 x hx; omega
  have bO : ∀ x ∈ O, -1000 ≤ x ∧ x ≤ 1000 := fun x hx => by have := hv.pO.1 x hx; have := hv.len; omega
  have BX := Lib.hid bX
  have BO := Lib.hid bO
  clear bX bO hv
  have lO : O.length ≤ 40 := by have := HLL.out; omega
  obtain ⟨an, rfl⟩ := Int.eq_ofNat_of_zero_le ha0
  have haO : an < O.length + 1 := by have := HLL.out; omega
  have y0 := p0.cell 0
  have y1 := p0.cell 1
  have m0 := p1.cell 0
  have m2 := p1.cell 2
  have m3 := p1.cell 3
  rw [Int.toNat_natCast] at HB
  have laX : an < X.length := by omega
  have laO : an < O.length := by have := HLL.out; omega
  skip
  skip
  have gX : X.getD an 0 = X[an] := by simp [List.getD_eq_getElem?_getD, laX]
  have gO : O.getD an 0 = O[an] := by simp [List.getD_eq_getElem?_getD, laO]
  skip
  skip
  rw [gX, gO] at HB
  skip
  clear gX gO
  go_wp2_with fail
  refine (removable_any (.slice A X.length c) (.slice A' O.length c') X O an w5 (hX0.below hbw) (hO0.below hbw) (by omega) (by omega) laX laO (BX.out _ (List.getElem_mem _)) (BO.out _ (List.getElem_mem _))).mono ?_
  rintro e w6 ⟨rfl, hb6⟩
  rw [HB.out]
  have q0 := p0.below hb6 p0.lt
  have q1 := p1.below hb6 p1.lt
  have q2 := p2.below hb6 p2.lt
  have hbb := hbw.trans (hb6.mono hbw.size)
  clear y0 y1 m0 m2 m3 p0 p1 p2 hb6 hbw HB
  have y0 := q0.cell 0
  have y1 := q0.cell 1
  have m0 := q1.cell 0
  have m2 := q1.cell 2
  have s0 := q2.cell 0
  have s1 := q2.cell 1
  have s2 := q2.frozen 0
  have s3 := q2.frozen 1
  have hres := Lib.hid ((q2.set 0 (.slice none 0 0)).set 1 (.slice none 0 0))
  go_wp2_with fail
  refine bodyPost_ret (v := .tuple #[.agg #[.slice none 0 0, .slice none 0 0], .int .i64 6]) (results_ct Tryz.results66 _ _ (w.heap.size + 2) 24 _ _ rfl hres.out Tryz.underlying24 rfl info_grid) rfl ?_
  exact ⟨bset2 (r := w.heap.size + 2) hbb (by omega), _, _, _, _, _, _, rfl, (fun W _ => Ints.nil W), (fun W _ => Ints.nil W)⟩
set_option maxRecDepth 100000 in
set_option maxHeartbeats 4000000 in
theorem refCols4F (vx vo : Value) (X O : List Int) (rows : Bool) (a v : Int) (w : World) (hX : Ints w vx X) (hO : Ints w vo O) (hv : Vd X O) (hfull : 40 ≤ X.length) (ha0 : 0 ≤ a) (ha1 : a < (X.length : Int) + 1) (hv0 : 0 ≤ v) (hv1 : v < 2 * (X.length : Int)) :
    Calls Tryz.prog 66 #[.agg #[vx, vo], .agg #[.int .i64 4, .bool rows, .int .i64 a, .int .i64 v]] w (GRf w.heap.size w (5, [], [])) := by
  have hX0 := hX
  have hO0 := hO
  obtain ⟨A, c, rfl, hc, hh⟩ := hX
  obtain ⟨A', c', rfl, hc', hh'⟩ := hO
  clear hh hh'
  have h2 := hv.two
  have h40 := hv.most
  go_enter Tryz.func66, Tryz.ntmps66
  go_upto_region 6 with fail
  have hW : Arr (((((w.alloc (.cells #[.slice A X.length c, .slice A' O.length c'] 24)).alloc (.cells #[.int .i64 4, .bool rows, .int .i64 a, .int .i64 v] 85)).alloc (.cells #[.slice none 0 0, .slice none 0 0] 24)).alloc (.cells #[.int .i64 1, .int .i64 ((X.length : Int) - 1), .int .i64 (X.length : Int), .int .i64 ((X.length : Int) + 1)] 3)).alloc (.cells #[.int .i64 1, .int .i64 1, .int .i64 1, .int .i64 (2 * (X.length : Int))] 3)) w.heap.size 24 [.slice A X.length c, .slice A' O.length c'] ∧ Arr (((((w.alloc (.cells #[.slice A X.length c, .slice A' O.length c'] 24)).alloc (.cells #[.int .i64 4, .bool rows, .int .i64 a, .int .i64 v] 85)).alloc (.cells #[.slice none 0 0, .slice none 0 0] 24)).alloc (.cells #[.int .i64 1, .int .i64 ((X.length : Int) - 1), .int .i64 (X.length : Int), .int .i64 ((X.length : Int) + 1)] 3)).alloc (.cells #[.int .i64 1, .int .i64 1, .int .i64 1, .int .i64 (2 * (X.length : Int))] 3)) (w.heap.size + 1) 85 [.int .i64 4, .bool rows, .int .i64 a, .int .i64 v] ∧ Arr (((((w.alloc (.cells #[.slice A X.length c, .slice A' O.length c'] 24)).alloc (.cells #[.int .i64 4, .bool rows, .int .i64 a, .int .i64 v] 85)).alloc (.cells #[.slice none 0 0, .slice none 0 0] 24)).alloc (.cells #[.int .i64 1, .int .i64 ((X.length : Int) - 1), .int .i64 (X.length : Int), .int .i64 ((X.length : Int) + 1)] 3)).alloc (.cells #[.int .i64 1, .int .i64 1, .int .i64 1, .int .i64 (2 * (X.length : Int))] 3)) (w.heap.size + 2) 24 [.slice none 0 0, .slice none 0 0] ∧ Arr (((((w.alloc (.cells #[.slice A X.length c, .slice A' O.length c'] 24)).alloc (.cells #[.int .i64 4, .bool rows, .int .i64 a, .int .i64 v] 85)).alloc (.cells #[.slice none 0 0, .slice none 0 0] 24)).alloc (.cells #[.int .i64 1, .int .i64 ((X.length : Int) - 1), .int .i64 (X.length : Int), .int .i64 ((X.length : Int) + 1)] 3)).alloc (.cells #[.int .i64 1, .int .i64 1, .int .i64 1, .int .i64 (2 * (X.length : Int))] 3)) (w.heap.size + 3) 3 [.int .i64 1, .int .i64 ((X.length : Int) - 1), .int .i64 (X.length : Int), .int .i64 ((X.length : Int) + 1)] ∧ Arr (((((w.alloc (.cells #[.slice A X.length c, .slice A' O.length c'] 24)).alloc (.cells #[.int .i64 4, .bool rows, .int .i64 a, .int .i64 v] 85)).alloc (.cells #[.slice none 0 0, .slice none 0 0] 24)).alloc (.cells #[.int .i64 1, .int .i64 ((X.length : Int) - 1), .int .i64 (X.length : Int), .int .i64 ((X.length : Int) + 1)] 3)).alloc (.cells #[.int .i64 1, .int .i64 1, .int .i64 1, .int .i64 (2 * (X.length : Int))] 3)) (w.heap.size + 4) 3 [.int .i64 1, .int .i64 1, .int .i64 1, .int .i64 (2 * (X.length : Int))] ∧ Below w.heap.size w (((((w.alloc (.cells #[.slice A X.length c, .slice A' O.length c'] 24)).alloc (.cells #[.int .i64 4, .bool rows, .int .i64 a, .int .i64 v] 85)).alloc (.cells #[.slice none 0 0, .slice none 0 0] 24)).alloc (.cells #[.int .i64 1, .int .i64 ((X.length : Int) - 1), .int .i64 (X.length : Int), .int .i64 ((X.length : Int) + 1)] 3)).alloc (.cells #[.int .i64 1, .int .i64 1, .int .i64 1, .int .i64 (2 * (X.length : Int))] 3)) :=
    ⟨((((Arr.new _ _ [_, _]).alloc _).alloc _).alloc _).alloc _, (((Arr.newAt _ _ [_, _, _, _] _ (by simp)).alloc _).alloc _).alloc _, ((Arr.newAt _ _ [_, _] _ (by simp)).alloc _).alloc _, (Arr.newAt _ _ [_, _, _, _] _ (by simp)).alloc _, Arr.newAt _ _ [_, _, _, _] _ (by simp), by repeat (first | exact Below.refl _ _ | refine Below.alloc ?_ (by simp <;> omega) _)⟩
  generalize (((((w.alloc (.cells #[.slice A X.length c, .slice A' O.length c'] 24)).alloc (.cells #[.int .i64 4, .bool rows, .int .i64 a, .int .i64 v] 85)).alloc (.cells #[.slice none 0 0, .slice none 0 0] 24)).alloc (.cells #[.int .i64 1, .int .i64 ((X.length : Int) - 1), .int .i64 (X.length : Int), .int .i64 ((X.length : Int) + 1)] 3)).alloc (.cells #[.int .i64 1, .int .i64 1, .int .i64 1, .int .i64 (2 * (X.length : Int))] 3)) = w4 at hW ⊢
  obtain ⟨p0, p1, p2, p3, p4, hbw⟩ := hW
  have y0 := p0.cell 0
  have y1 := p0.cell 1
  have m0 := p1.cell 0
  have m2 := p1.cell 2
  have m3 := p1.cell 3
  have P0 := p3.cell 3
  have V0 := p4.cell 3
  have t1 : decide (a < 0) = false := by simp; omega
  have t2 : decide ((X.length : Int) + 1 ≤ a) = false := by simp; omega
  have t3 : decide (v < 0) = false := by simp; omega
  have t4 : decide (2 * (X.length : Int) ≤ v) = false := by simp; omega
  go_quiet (fail)
  have hW : Arr (w4.drewN nq) w.heap.size 24 [.slice A X.length c, .slice A' O.length c'] ∧ Arr (w4.drewN nq) (w.heap.size + 1) 85 [.int .i64 4, .bool rows, .int .i64 a, .int .i64 v] ∧ Arr (w4.drewN nq) (w.heap.size + 2) 24 [.slice none 0 0, .slice none 0 0] ∧ Below w.heap.size w (w4.drewN nq) := ⟨p0.drewN _, p1.drewN _, p2.drewN _, bdrewN hbw _⟩
  clear m0 m2 m3 P0 V0 t1 t2 t3 t4 y0 y1 p0 p1 p2 p3 p4 hbw
  generalize w4.drewN nq = w5 at hW ⊢
  obtain ⟨p0, p1, p2, hbw⟩ := hW
  have HLL := Lib.hid hv.len
  have bX : ∀ x ∈ X, -1000 ≤ x ∧ x ≤ 1000 := fun x hx => by have := hv.pX.1 x hx; omega
  have bO : ∀ x ∈ O, -1000 ≤ x ∧ x ≤ 1000 := fun x hx => by have := hv.pO.1 x hx; have := hv.len; omega
  have BX := Lib.hid bX
  have BO := Lib.hid bO
  clear bX bO hv
  have lO : O.length ≤ 40 := by have := HLL.out; omega
  obtain ⟨an, rfl⟩ := Int.eq_ofNat_of_zero_le ha0
  have haO : an < O.length + 1 := by have := HLL.out; omega
  have y0 := p0.cell 0
  have y1 := p0.cell 1
  have m0 := p1.cell 0
  have m2 := p1.cell 2
  have m3 := p1.cell 3
  have t5 : (40 : Int) ≤ (X.length : Int) := by omega
  have s0 := p2.cell 0
  have s1 := p2.cell 1
  have s2 := p2.frozen 0
  have s3 := p2.frozen 1
  have hres := Lib.hid ((p2.set 0 (.slice none 0 0)).set 1 (.slice none 0 0))
  go_wp2_with fail
  refine bodyPost_ret (v := .tuple #[.agg #[.slice none 0 0, .slice none 0 0], .int .i64 5]) (results_ct Tryz.results66 _ _ (w.heap.size + 2) 24 _ _ rfl hres.out Tryz.underlying24 rfl info_grid) rfl ?_
  exact ⟨bset2 (r := w.heap.size + 2) hbw (by omega), _, _, _, _, _, _, rfl, (fun W _ => Ints.nil W), (fun W _ => Ints.nil W)⟩
set_option maxRecDepth 100000 in
set_option maxHeartbeats 4000000 in
theorem refCols4A (vx vo : Value) (X O : List Int) (rows : Bool) (a v : Int) (w : World) (hX : Ints w vx X) (hO : Ints w vo O) (hv : Vd X O) (hfull : X.length < 40) (ha0 : 0 ≤ a) (ha1 : a < (X.length : Int) + 1) (hv0 : 0 ≤ v) (hv1 : v < 2 * (X.length : Int)) (hpar : v.toNat % 2 = 0) :
    Calls Tryz.prog 66 #[.agg #[vx, vo], .agg #[.int .i64 4, .bool rows, .int .i64 a, .int .i64 v]] w (GRf w.heap.size w (0, addL X a.toNat (v.toNat / 2 : Nat) false ((v.toNat / 2 : Nat) + 1 : Int), addL O a.toNat (v.toNat / 2 : Nat) true ((v.toNat / 2 : Nat) : Int))) := by
  have hX0 := hX
  have hO0 := hO
  obtain ⟨A, c, rfl, hc, hh⟩ := hX
  obtain ⟨A', c', rfl, hc', hh'⟩ := hO
  clear hh hh'
  have h2 := hv.two
  have h40 := hv.most
  go_enter Tryz.func66, Tryz.ntmps66
  go_upto_region 6 with fail
  have hW : Arr (((((w.alloc (.cells #[.slice A X.length c, .slice A' O.length c'] 24)).alloc (.cells #[.int .i64 4, .bool rows, .int .i64 a, .int .i64 v] 85)).alloc (.cells #[.slice none 0 0, .slice none 0 0] 24)).alloc (.cells #[.int .i64 1, .int .i64 ((X.length : Int) - 1), .int .i64 (X.length : Int), .int .i64 ((X.length : Int) + 1)] 3)).alloc (.cells #[.int .i64 1, .int .i64 1, .int .i64 1, .int .i64 (2 * (X.length : Int))] 3)) w.heap.size 24 [.slice A X.length c, .slice A' O.length c'] ∧ Arr (((((w.alloc (.cells #[.slice A X.length c, .slice A' O.length c'] 24)).alloc (.cells #[.int .i64 4, .bool rows, .int .i64 a, .int .i64 v] 85)).alloc (.cells #[.slice none 0 0, .slice none 0 0] 24)).alloc (.cells #[.int .i64 1, .int .i64 ((X.length : Int) - 1), .int .i64 (X.length : Int), .int .i64 ((X.length : Int) + 1)] 3)).alloc (.cells #[.int .i64 1, .int .i64 1, .int .i64 1, .int .i64 (2 * (X.length : Int))] 3)) (w.heap.size + 1) 85 [.int .i64 4, .bool rows, .int .i64 a, .int .i64 v] ∧ Arr (((((w.alloc (.cells #[.slice A X.length c, .slice A' O.length c'] 24)).alloc (.cells #[.int .i64 4, .bool rows, .int .i64 a, .int .i64 v] 85)).alloc (.cells #[.slice none 0 0, .slice none 0 0] 24)).alloc (.cells #[.int .i64 1, .int .i64 ((X.length : Int) - 1), .int .i64 (X.length : Int), .int .i64 ((X.length : Int) + 1)] 3)).alloc (.cells #[.int .i64 1, .int .i64 1, .int .i64 1, .int .i64 (2 * (X.length : Int))] 3)) (w.heap.size + 2) 24 [.slice none 0 0, .slice none 0 0] ∧ Arr (((((w.alloc (.cells #[.slice A X.length c, .slice A' O.length c'] 24)).alloc (.cells #[.int .i64 4, .bool rows, .int .i64 a, .int .i64 v] 85)).alloc (.cells #[.slice none 0 0, .slice none 0 0] 24)).alloc (.cells #[.int .i64 1, .int .i64 ((X.length : Int) - 1), .int .i64 (X.length : Int), .int .i64 ((X.length : Int) + 1)] 3)).alloc (.cells #[.int .i64 1, .int .i64 1, .int .i64 1, .int .i64 (2 * (X.length : Int))] 3)) (w.heap.size + 3) 3 [.int .i64 1, .int .i64 ((X.length : Int) - 1), .int .i64 (X.length : Int), .int .i64 ((X.length : Int) + 1)] ∧ Arr (((((w.alloc (.cells #[.slice A X.length c, .slice A' O.length c'] 24)).alloc (.cells #[.int .i64 4, .bool rows, .int .i64 a, .int .i64 v] 85)).alloc (.cells #[.slice none 0 0, .slice none 0 0] 24)).alloc (.cells #[.int .i64 1, .int .i64 ((X.length : Int) - 1), .int .i64 (X.length : Int), .int .i64 ((X.length : Int) + 1)] 3)).alloc (.cells #[.int .i64 1, .int .i64 1, .int .i64 1, .int .i64 (2 * (X.length : Int))] 3)) (w.heap.size + 4) 3 [.int .i64 1, .int .i64 1, .int .i64 1, .int .i64 (2 * (X.length : Int))] ∧ Below w.heap.size w (((((w.alloc (.cells #[.slice A X.length c, .slice A' O.length c'] 24)).alloc (.cells #[.int .i64 4, .bool rows, .int .i64 a, .int .i64 v] 85)).alloc (.cells #[.slice none 0 0, .slice none 0 0] 24)).alloc (.cells #[.int .i64 1, .int .i64 ((X.length : Int) - 1), .int .i64 (X.length : Int), .int .i64 ((X.length : Int) + 1)] 3)).alloc (.cells #[.int .i64 1, .int .i64 1, .int .i64 1, .int .i64 (2 * (X.length : Int))] 3)) :=
    ⟨((((Arr.new _ _ [_, _]).alloc _).alloc _).alloc _).alloc _, (((Arr.newAt _ _ [_, _, _, _] _ (by simp)).alloc _).alloc _).alloc _, ((Arr.newAt _ _ [_, _] _ (by simp)).alloc _).alloc _, (Arr.newAt _ _ [_, _, _, _] _ (by simp)).alloc _, Arr.newAt _ _ [_, _, _, _] _ (by simp), by repeat (first | exact Below.refl _ _ | refine Below.alloc ?_ (by simp <;> omega) _)⟩
  generalize (((((w.alloc (.cells #[.slice A X.length c, .slice A' O.length c'] 24)).alloc (.cells #[.int .i64 4, .bool rows, .int .i64 a, .int .i64 v] 85)).alloc (.cells #[.slice none 0 0, .slice none 0 0] 24)).alloc (.cells #[.int .i64 1, .int .i64 ((X.length : Int) - 1), .int .i64 (X.length : Int), .int .i64 ((X.length : Int) + 1)] 3)).alloc (.cells #[.int .i64 1, .int .i64 1, .int .i64 1, .int .i64 (2 * (X.length : Int))] 3)) = w4 at hW ⊢
  obtain ⟨p0, p1, p2, p3, p4, hbw⟩ := hW
  have y0 := p0.cell 0
  have y1 := p0.cell 1
  have m0 := p1.cell 0
  have m2 := p1.cell 2
  have m3 := p1.cell 3
  have P0 := p3.cell 3
  have V0 := p4.cell 3
  have t1 : decide (a < 0) = false := by simp; omega
  have t2 : decide ((X.length : Int) + 1 ≤ a) = false := by simp; omega
  have t3 : decide (v < 0) = false := by simp; omega
  have t4 : decide (2 * (X.length : Int) ≤ v) = false := by simp; omega
  go_quiet (fail)
  have hW : Arr (w4.drewN nq) w.heap.size 24 [.slice A X.length c, .slice A' O.length c'] ∧ Arr (w4.drewN nq) (w.heap.size + 1) 85 [.int .i64 4, .bool rows, .int .i64 a, .int .i64 v] ∧ Arr (w4.drewN nq) (w.heap.size + 2) 24 [.slice none 0 0, .slice none 0 0] ∧ Below w.heap.size w (w4.drewN nq) := ⟨p0.drewN _, p1.drewN _, p2.drewN _, bdrewN hbw _⟩
  clear m0 m2 m3 P0 V0 t1 t2 t3 t4 y0 y1 p0 p1 p2 p3 p4 hbw
  generalize w4.drewN nq = w5 at hW ⊢
  obtain ⟨p0, p1, p2, hbw⟩ := hW
  have HLL := Lib.hid hv.len
  have bX : ∀ x ∈ X, -1000 ≤ x ∧ x ≤ 1000 := fun x hx => by have := hv.pX.1 x hx; omega
  have bO : ∀ x ∈ O, -1000 ≤ x ∧ x ≤ 1000 := fun x hx => by have := hv.pO.1 x hx; have := hv.len; omega
  have BX := Lib.hid bX
  have BO := Lib.hid bO
  clear bX bO hv
  have lO : O.length ≤ 40 := by have := HLL.out; omega
  obtain ⟨an, rfl⟩ := Int.eq_ofNat_of_zero_le ha0
  have haO : an < O.length + 1 := by have := HLL.out; omega
  have y0 := p0.cell 0
  have y1 := p0.cell 1
  have m0 := p1.cell 0
  have m2 := p1.cell 2
  have m3 := p1.cell 3
  have t5 : ¬ (40 : Int) ≤ (X.length : Int) := by omega
  obtain ⟨vn, rfl⟩ := Int.eq_ofNat_of_zero_le hv0
  rw [Int.toNat_natCast, Int.toNat_natCast] at *
  have e2 : (vn : Int) % 2 = 0 := by omega
  have e1 : (vn : Int) / 2 = ((vn / 2 : Nat) : Int) := by omega
  have hr : vn / 2 ≤ 1000 := by omega
  generalize vn / 2 = r at *
  have E2 := Lib.hid e2
  have E1 := Lib.hid e1
  clear e2 e1 hpar
  go_wp2_with fail
  rw [E1.out, E2.out]
  refine (add_any0 (.slice A X.length c) (.slice A' O.length c') X O an r w5 (hX0.below hbw) (hO0.below hbw) (by omega) (by omega) (by omega) (by omega) hr BX.out BO.out).mono ?_
  rintro e w7 ⟨g7, rfl, ⟨A0, n0, c0, A1, n1, c1, rfl, hown0, hown1⟩, hb7⟩
  skip
  have q2 := p2.below hb7 p2.lt
  have hby := hbw.trans (hb7.mono hbw.size)
  have l2 := p2.lt
  have hsz := hbw.size
  have s0 := q2.cell 0
  have s1 := q2.cell 1
  have s2 := q2.frozen 0
  have s3 := q2.frozen 1
  have hres := Lib.hid ((q2.set 0 (.slice A0 n0 c0)).set 1 (.slice A1 n1 c1))
  clear hb7
  go_wp2_with fail
  refine bodyPost_ret (v := .tuple #[.agg #[.slice A0 n0 c0, .slice A1 n1 c1], .int .i64 0]) (results_ct Tryz.results66 _ _ (w.heap.size + 2) 24 _ _ rfl hres.out Tryz.underlying24 rfl info_grid) rfl ?_
  exact ⟨bset2 (r := w.heap.size + 2) hby (by omega), _, _, _, _, _, _, rfl, ((hown0.far2 (r := w.heap.size + 2) l2).mono hsz).intsF, ((hown1.far2 (r := w.heap.size + 2) l2).mono hsz).intsF⟩
set_option maxRecDepth 100000 in
set_option maxHeartbeats 4000000 in
theorem refCols4B (vx vo : Value) (X O : List Int) (rows : Bool) (a v : Int) (w : World) (hX : Ints w vx X) (hO : Ints w vo O) (hv : Vd X O) (hfull : X.length < 40) (ha0 : 0 ≤ a) (ha1 : a < (X.length : Int) + 1) (hv0 : 0 ≤ v) (hv1 : v < 2 * (X.length : Int)) (hpar : v.toNat % 2 = 1) :
    Calls Tryz.prog 66 #[.agg #[vx, vo], .agg #[.int .i64 4, .bool rows, .int .i64 a, .int .i64 v]] w (GRf w.heap.size w (0, addL X a.toNat (v.toNat / 2 : Nat) true ((v.toNat / 2 : Nat) : Int), addL O a.toNat (v.toNat / 2 : Nat) false ((v.toNat / 2 : Nat) + 1 : Int))) := by
  have hX0 := hX
  have hO0 := hO
  obtain ⟨A, c, rfl, hc, hh⟩ := hX
  obtain ⟨A', c', rfl, hc', hh'⟩ := hO
  clear hh hh'
  have h2 := hv.two
  have h40 := hv.most
  go_enter Tryz.func66, Tryz.ntmps66
  go_upto_region 6 with fail
  have hW : Arr (((((w.alloc (.cells #[.slice A X.length c, .slice A' O.length c'] 24)).alloc (.cells #[.int .i64 4, .bool rows, .int .i64 a, .int .i64 v] 85)).alloc (.cells #[.slice none 0 0, .slice none 0 0] 24)).alloc (.cells #[.int .i64 1, .int .i64 ((X.length : Int) - 1), .int .i64 (X.length : Int), .int .i64 ((X.length : Int) + 1)] 3)).alloc (.cells #[.int .i64 1, .int .i64 1, .int .i64 1, .int .i64 (2 * (X.length : Int))] 3)) w.heap.size 24 [.slice A X.length c, .slice A' O.length c'] ∧ Arr (((((w.alloc (.cells #[.slice A X.length c, .slice A' O.length c'] 24)).alloc (.cells #[.int .i64 4, .bool rows, .int .i64 a, .int .i64 v] 85)).alloc (.cells #[.slice none 0 0, .slice none 0 0] 24)).alloc (.cells #[.int .i64 1, .int .i64 ((X.length : Int) - 1), .int .i64 (X.length : Int), .int .i64 ((X.length : Int) + 1)] 3)).alloc (.cells #[.int .i64 1, .int .i64 1, .int .i64 1, .int .i64 (2 * (X.length : Int))] 3)) (w.heap.size + 1) 85 [.int .i64 4, .bool rows, .int .i64 a, .int .i64 v] ∧ Arr (((((w.alloc (.cells #[.slice A X.length c, .slice A' O.length c'] 24)).alloc (.cells #[.int .i64 4, .bool rows, .int .i64 a, .int .i64 v] 85)).alloc (.cells #[.slice none 0 0, .slice none 0 0] 24)).alloc (.cells #[.int .i64 1, .int .i64 ((X.length : Int) - 1), .int .i64 (X.length : Int), .int .i64 ((X.length : Int) + 1)] 3)).alloc (.cells #[.int .i64 1, .int .i64 1, .int .i64 1, .int .i64 (2 * (X.length : Int))] 3)) (w.heap.size + 2) 24 [.slice none 0 0, .slice none 0 0] ∧ Arr (((((w.alloc (.cells #[.slice A X.length c, .slice A' O.length c'] 24)).alloc (.cells #[.int .i64 4, .bool rows, .int .i64 a, .int .i64 v] 85)).alloc (.cells #[.slice none 0 0, .slice none 0 0] 24)).alloc (.cells #[.int .i64 1, .int .i64 ((X.length : Int) - 1), .int .i64 (X.length : Int), .int .i64 ((X.length : Int) + 1)] 3)).alloc (.cells #[.int .i64 1, .int .i64 1, .int .i64 1, .int .i64 (2 * (X.length : Int))] 3)) (w.heap.size + 3) 3 [.int .i64 1, .int .i64 ((X.length : Int) - 1), .int .i64 (X.length : Int), .int .i64 ((X.length : Int) + 1)] ∧ Arr (((((w.alloc (.cells #[.slice A X.length c, .slice A' O.length c'] 24)).alloc (.cells #[.int .i64 4, .bool rows, .int .i64 a, .int .i64 v] 85)).alloc (.cells #[.slice none 0 0, .slice none 0 0] 24)).alloc (.cells #[.int .i64 1, .int .i64 ((X.length : Int) - 1), .int .i64 (X.length : Int), .int .i64 ((X.length : Int) + 1)] 3)).alloc (.cells #[.int .i64 1, .int .i64 1, .int .i64 1, .int .i64 (2 * (X.length : Int))] 3)) (w.heap.size + 4) 3 [.int .i64 1, .int .i64 1, .int .i64 1, .int .i64 (2 * (X.length : Int))] ∧ Below w.heap.size w (((((w.alloc (.cells #[.slice A X.length c, .slice A' O.length c'] 24)).alloc (.cells #[.int .i64 4, .bool rows, .int .i64 a, .int .i64 v] 85)).alloc (.cells #[.slice none 0 0, .slice none 0 0] 24)).alloc (.cells #[.int .i64 1, .int .i64 ((X.length : Int) - 1), .int .i64 (X.length : Int), .int .i64 ((X.length : Int) + 1)] 3)).alloc (.cells #[.int .i64 1, .int .i64 1, .int .i64 1, .int .i64 (2 * (X.length : Int))] 3)) :=
    ⟨((((Arr.new _ _ [_, _]).alloc _).alloc _).alloc _).alloc _, (((Arr.newAt _ _ [_, _, _, _] _ (by simp)).alloc _).alloc _).alloc _, ((Arr.newAt _ _ [_, _] _ (by simp)).alloc _).alloc _, (Arr.newAt _ _ [_, _, _, _] _ (by simp)).alloc _, Arr.newAt _ _ [_, _, _, _] _ (by simp), by repeat (first | exact Below.refl _ _ | refine Below.alloc ?_ (by simp <;> omega) _)⟩
  generalize (((((w.alloc (.cells #[.slice A X.length c, .slice A' O.length c'] 24)).alloc (.cells #[.int .i64 4, .bool rows, .int .i64 a, .int .i64 v] 85)).alloc (.cells #[.slice none 0 0, .slice none 0 0] 24)).alloc (.cells #[.int .i64 1, .int .i64 ((X.length : Int) - 1), .int .i64 (X.length : Int), .int .i64 ((X.length : Int) + 1)] 3)).alloc (.cells #[.int .i64 1, .int .i64 1, .int .i64 1, .int .i64 (2 * (X.length : Int))] 3)) = w4 at hW ⊢
  obtain ⟨p0, p1, p2, p3, p4, hbw⟩ := hW
  have y0 := p0.cell 0
  have y1 := p0.cell 1
  have m0 := p1.cell 0
  have m2 := p1.cell 2
  have m3 := p1.cell 3
  have P0 := p3.cell 3
  have V0 := p4.cell 3
  have t1 : decide (a < 0) = false := by simp; omega
  have t2 : decide ((X.length : Int) + 1 ≤ a) = false := by simp; omega
  have t3 : decide (v < 0) = false := by simp; omega
  have t4 : decide (2 * (X.length : Int) ≤ v) = false := by simp; omega
  go_quiet (fail)
  have hW : Arr (w4.drewN nq) w.heap.size 24 [.slice A X.length c, .slice A' O.length c'] ∧ Arr (w4.drewN nq) (w.heap.size + 1) 85 [.int .i64 4, .bool rows, .int .i64 a, .int .i64 v] ∧ Arr (w4.drewN nq) (w.heap.size + 2) 24 [.slice none 0 0, .slice none 0 0] ∧ Below w.heap.size w (w4.drewN nq) := ⟨p0.drewN _, p1.drewN _, p2.drewN _, bdrewN hbw _⟩
  clear m0 m2 m3 P0 V0 t1 t2 t3 t4 y0 y1 p0 p1 p2 p3 p4 hbw
  generalize w4.drewN nq = w5 at hW ⊢
  obtain ⟨p0, p1, p2, hbw⟩ := hW
  have HLL := Lib.hid hv.len
  have bX : ∀ x ∈ X, -1000 ≤ x ∧ x ≤ 1000 := fun x hx => by have := hv.pX.1 x hx; omega
  have bO : ∀ x ∈ O, -1000 ≤ x ∧ x ≤ 1000 := fun x hx => by have := hv.pO.1 x hx; have := hv.len; omega
  have BX := Lib.hid bX
  have BO := Lib.hid bO
  clear bX bO hv
  have lO : O.length ≤ 40 := by have := HLL.out; omega
  obtain ⟨an, rfl⟩ := Int.eq_ofNat_of_zero_le ha0
  have haO : an < O.length + 1 := by have := HLL.out; omega
  have y0 := p0.cell 0
  have y1 := p0.cell 1
  have m0 := p1.cell 0
  have m2 := p1.cell 2
  have m3 := p1.cell 3
  have t5 : ¬ (40 : Int) ≤ (X.length : Int) := by omega
  obtain ⟨vn, rfl⟩ := Int.eq_ofNat_of_zero_le hv0
  rw [Int.toNat_natCast, Int.toNat_natCast] at *
  have e2 : (vn : Int) % 2 = 1 := by omega
  have e1 : (vn : Int) / 2 = ((vn / 2 : Nat) : Int) := by omega
  have hr : vn / 2 ≤ 1000 := by omega
  generalize vn / 2 = r at *
  have E2 := Lib.hid e2
  have E1 := Lib.hid e1
  clear e2 e1 hpar
  go_wp2_with fail
  rw [E1.out, E2.out]
  refine (add_any1 (.slice A X.length c) (.slice A' O.length c') X O an r w5 (hX0.below hbw) (hO0.below hbw) (by omega) (by omega) (by omega) (by omega) hr BX.out BO.out).mono ?_
  rintro e w7 ⟨g7, rfl, ⟨A0, n0, c0, A1, n1, c1, rfl, hown0, hown1⟩, hb7⟩
  skip
  have q2 := p2.below hb7 p2.lt
  have hby := hbw.trans (hb7.mono hbw.size)
  have l2 := p2.lt
  have hsz := hbw.size
  have s0 := q2.cell 0
  have s1 := q2.cell 1
  have s2 := q2.frozen 0
  have s3 := q2.frozen 1
  have hres := Lib.hid ((q2.set 0 (.slice A0 n0 c0)).set 1 (.slice A1 n1 c1))
  clear hb7
  go_wp2_with fail
  refine bodyPost_ret (v := .tuple #[.agg #[.slice A0 n0 c0, .slice A1 n1 c1], .int .i64 0]) (results_ct Tryz.results66 _ _ (w.heap.size + 2) 24 _ _ rfl hres.out Tryz.underlying24 rfl info_grid) rfl ?_
  exact ⟨bset2 (r := w.heap.size + 2) hby (by omega), _, _, _, _, _, _, rfl, ((hown0.far2 (r := w.heap.size + 2) l2).mono hsz).intsF, ((hown1.far2 (r := w.heap.size + 2) l2).mono hsz).intsF⟩
set_option maxRecDepth 100000 in
set_option maxHeartbeats 4000000 in
theorem refColsK (vx vo : Value) (X O : List Int) (rows : Bool) (k a v : Int) (w : World) (hX : Ints w vx X) (hO : Ints w vo O) (hk : k < 1 ∨ 4 < k) :
    Calls Tryz.prog 66 #[.agg #[vx, vo], .agg #[.int .i64 k, .bool rows, .int .i64 a, .int .i64 v]] w (GRf w.heap.size w (11, [], [])) := by
  obtain ⟨A, c, rfl, hc, hh⟩ := hX
  obtain ⟨A', c', rfl, hc', hh'⟩ := hO
  clear hh hh'
  by_cases h1 : k < 1
  · have t : decide (k < 1) = true := by simpa using h1
    clear h1 hk
    go_enter Tryz.func66, Tryz.ntmps66
    go_wp2_with fail
    refine bodyPost_ret (v := .tuple #[.agg #[.slice none 0 0, .slice none 0 0], .int .i64 11]) (by simp [results, Tryz.results66, go_sem]) rfl ?_
    exact ⟨by repeat (first | exact Below.refl _ _ | refine Below.setCell ?_ (by show w.heap.size ≤ w.heap.size + 2; omega) _ | refine Below.alloc ?_ (by simp <;> omega) _), _, _, _, _, _, _, rfl, (fun W _ => Ints.nil W), (fun W _ => Ints.nil W)⟩
  · have t : decide (k < 1) = false := by simpa using h1
    have t2 : decide (4 < k) = true := by simp; omega
    clear h1 hk
    go_enter Tryz.func66, Tryz.ntmps66
    go_wp2_with fail
    refine bodyPost_ret (v := .tuple #[.agg #[.slice none 0 0, .slice none 0 0], .int .i64 11]) (by simp [results, Tryz.results66, go_sem]) rfl ?_
    exact ⟨by repeat (first | exact Below.refl _ _ | refine Below.setCell ?_ (by show w.heap.size ≤ w.heap.size + 2; omega) _ | refine Below.alloc ?_ (by simp <;> omega) _), _, _, _, _, _, _, rfl, (fun W _ => Ints.nil W), (fun W _ => Ints.nil W)⟩
end Go.Proofs.YteliflcbegcdlaaGreatDoor
