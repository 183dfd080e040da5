/- The reference's columns: the errors, and the kinds 2, 3, 4. -/
/- The reference's columns and Apply in plain words. -/
import Derived.Test.YteliflcbegcdlaaGreatDoorWwAdd
import Derived.Test.YteliflcbegcdlaaGreatDoorWwSwp
import Derived.Test.YteliflcbegcdlaaGreatDoorWwGcol
import Derived.Test.YteliflcbegcdlaaGreatDoorWwRcl
import Derived.Test.YteliflcbegcdlaaGreatDoorWwRtr
namespace Go.Proofs.YteliflcbegcdlaaGreatDoor
open Go.RowKit
set_option linter.unusedVariables false
set_option maxRecDepth 100000 in
set_option maxHeartbeats 4000000 in
theorem refColsR1 (vx vo : Value) (X O : List Int) (rows : Bool) (a v : Int) (w : World) (hX : Ints w vx X) (hO : Ints w vo O) (hv : Vd X O) (hr : a < 0 ∨ 1 ≤ a ∨ v < 0 ∨ 1 ≤ v) :
    Calls Tryz.prog 66 #[.agg #[vx, vo], .agg #[.int .i64 1, .bool rows, .int .i64 a, .int .i64 v]] w (GRf w.heap.size w (2, [], [])) := by
  have hX0 := hX
  have hO0 := hO
  obtain ⟨A, c, rfl, hc, hh⟩ := hX
  obtain ⟨A', c', rfl, hc', hh'⟩ := hO
  clear hh hh'
  have h2 := hv.two
  have h40 := hv.most
  go_enter Tryz.func66, Tryz.ntmps66
  go_upto_region 6 with fail
  have hW : Arr (((((w.alloc (.cells #[.slice A X.length c, .slice A' O.length c'] 24)).alloc (.cells #[.int .i64 1, .bool rows, .int .i64 a, .int .i64 v] 85)).alloc (.cells #[.slice none 0 0, .slice none 0 0] 24)).alloc (.cells #[.int .i64 1, .int .i64 ((X.length : Int) - 1), .int .i64 (X.length : Int), .int .i64 ((X.length : Int) + 1)] 3)).alloc (.cells #[.int .i64 1, .int .i64 1, .int .i64 1, .int .i64 (2 * (X.length : Int))] 3)) w.heap.size 24 [.slice A X.length c, .slice A' O.length c'] ∧ Arr (((((w.alloc (.cells #[.slice A X.length c, .slice A' O.length c'] 24)).alloc (.cells #[.int .i64 1, .bool rows, .int .i64 a, .int .i64 v] 85)).alloc (.cells #[.slice none 0 0, .slice none 0 0] 24)).alloc (.cells #[.int .i64 1, .int .i64 ((X.length : Int) - 1), .int .i64 (X.length : Int), .int .i64 ((X.length : Int) + 1)] 3)).alloc (.cells #[.int .i64 1, .int .i64 1, .int .i64 1, .int .i64 (2 * (X.length : Int))] 3)) (w.heap.size + 1) 85 [.int .i64 1, .bool rows, .int .i64 a, .int .i64 v] ∧ Arr (((((w.alloc (.cells #[.slice A X.length c, .slice A' O.length c'] 24)).alloc (.cells #[.int .i64 1, .bool rows, .int .i64 a, .int .i64 v] 85)).alloc (.cells #[.slice none 0 0, .slice none 0 0] 24)).alloc (.cells #[.int .i64 1, .int .i64 ((X.length : Int) - 1), .int .i64 (X.length : Int), .int .i64 ((X.length : Int) + 1)] 3)).alloc (.cells #[.int .i64 1, .int .i64 1, .int .i64 1, .int .i64 (2 * (X.length : Int))] 3)) (w.heap.size + 2) 24 [.slice none 0 0, .slice none 0 0] ∧ Arr (((((w.alloc (.cells #[.slice A X.length c, .slice A' O.length c'] 24)).alloc (.cells #[.int .i64 1, .bool rows, .int .i64 a, .int .i64 v] 85)).alloc (.cells #[.slice none 0 0, .slice none 0 0] 24)).alloc (.cells #[.int .i64 1, .int .i64 ((X.length : Int) - 1), .int .i64 (X.length : Int), .int .i64 ((X.length : Int) + 1)] 3)).alloc (.cells #[.int .i64 1, .int .i64 1, .int .i64 1, .int .i64 (2 * (X.length : Int))] 3)) (w.heap.size + 3) 3 [.int .i64 1, .int .i64 ((X.length : Int) - 1), .int .i64 (X.length : Int), .int .i64 ((X.length : Int) + 1)] ∧ Arr (((((w.alloc (.cells #[.slice A X.length c, .slice A' O.length c'] 24)).alloc (.cells #[.int .i64 1, .bool rows, .int .i64 a, .int .i64 v] 85)).alloc (.cells #[.slice none 0 0, .slice none 0 0] 24)).alloc (.cells #[.int .i64 1, .int .i64 ((X.length : Int) - 1), .int .i64 (X.length : Int), .int .i64 ((X.length : Int) + 1)] 3)).alloc (.cells #[.int .i64 1, .int .i64 1, .int .i64 1, .int .i64 (2 * (X.length : Int))] 3)) (w.heap.size + 4) 3 [.int .i64 1, .int .i64 1, .int .i64 1, .int .i64 (2 * (X.length : Int))] ∧ Below w.heap.size w (((((w.alloc (.cells #[.slice A X.length c, .slice A' O.length c'] 24)).alloc (.cells #[.int .i64 1, .bool rows, .int .i64 a, .int .i64 v] 85)).alloc (.cells #[.slice none 0 0, .slice none 0 0] 24)).alloc (.cells #[.int .i64 1, .int .i64 ((X.length : Int) - 1), .int .i64 (X.length : Int), .int .i64 ((X.length : Int) + 1)] 3)).alloc (.cells #[.int .i64 1, .int .i64 1, .int .i64 1, .int .i64 (2 * (X.length : Int))] 3)) :=
    ⟨((((Arr.new _ _ [_, _]).alloc _).alloc _).alloc _).alloc _, (((Arr.newAt _ _ [_, _, _, _] _ (by simp)).alloc _).alloc _).alloc _, ((Arr.newAt _ _ [_, _] _ (by simp)).alloc _).alloc _, (Arr.newAt _ _ [_, _, _, _] _ (by simp)).alloc _, Arr.newAt _ _ [_, _, _, _] _ (by simp), by repeat (first | exact Below.refl _ _ | refine Below.alloc ?_ (by simp <;> omega) _)⟩
  generalize (((((w.alloc (.cells #[.slice A X.length c, .slice A' O.length c'] 24)).alloc (.cells #[.int .i64 1, .bool rows, .int .i64 a, .int .i64 v] 85)).alloc (.cells #[.slice none 0 0, .slice none 0 0] 24)).alloc (.cells #[.int .i64 1, .int .i64 ((X.length : Int) - 1), .int .i64 (X.length : Int), .int .i64 ((X.length : Int) + 1)] 3)).alloc (.cells #[.int .i64 1, .int .i64 1, .int .i64 1, .int .i64 (2 * (X.length : Int))] 3)) = w4 at hW ⊢
  obtain ⟨p0, p1, p2, p3, p4, hbw⟩ := hW
  have y0 := p0.cell 0
  have y1 := p0.cell 1
  have m0 := p1.cell 0
  have m2 := p1.cell 2
  have m3 := p1.cell 3
  have P0 := p3.cell 0
  have V0 := p4.cell 0
  by_cases u0 : a < 0
  · have t0 : decide (a < 0) = true := by simpa using u0
    clear u0
    go_quiet (fail)
    have hW : Arr (w4.drewN nq) (w.heap.size + 2) 24 [.slice none 0 0, .slice none 0 0] ∧ Below w.heap.size w (w4.drewN nq) := ⟨p2.drewN _, bdrewN hbw _⟩
    clear p0 p1 p2 p3 p4 hbw y0 y1 m0 m2 m3 P0 V0
    generalize w4.drewN nq = w5 at hW ⊢
    obtain ⟨p2, hbw⟩ := hW
    have s0 := p2.cell 0
    have s1 := p2.cell 1
    have s2 := p2.frozen 0
    have s3 := p2.frozen 1
    have hres := Lib.hid ((p2.set 0 (.slice none 0 0)).set 1 (.slice none 0 0))
    go_wp2_with fail
    refine bodyPost_ret (v := .tuple #[.agg #[.slice none 0 0, .slice none 0 0], .int .i64 2]) (results_ct Tryz.results66 _ _ (w.heap.size + 2) 24 _ _ rfl hres.out Tryz.underlying24 rfl info_grid) rfl ?_
    exact ⟨bset2 (r := w.heap.size + 2) hbw (by omega), _, _, _, _, _, _, rfl, (fun W _ => Ints.nil W), (fun W _ => Ints.nil W)⟩
  have t0 : decide (a < 0) = false := by simpa using u0
  by_cases u1 : 1 ≤ a
  · have t1 : decide (1 ≤ a) = true := by simpa using u1
    clear u1
    go_quiet (fail)
    have hW : Arr (w4.drewN nq) (w.heap.size + 2) 24 [.slice none 0 0, .slice none 0 0] ∧ Below w.heap.size w (w4.drewN nq) := ⟨p2.drewN _, bdrewN hbw _⟩
    clear p0 p1 p2 p3 p4 hbw y0 y1 m0 m2 m3 P0 V0
    generalize w4.drewN nq = w5 at hW ⊢
    obtain ⟨p2, hbw⟩ := hW
    have s0 := p2.cell 0
    have s1 := p2.cell 1
    have s2 := p2.frozen 0
    have s3 := p2.frozen 1
    have hres := Lib.hid ((p2.set 0 (.slice none 0 0)).set 1 (.slice none 0 0))
    go_wp2_with fail
    refine bodyPost_ret (v := .tuple #[.agg #[.slice none 0 0, .slice none 0 0], .int .i64 2]) (results_ct Tryz.results66 _ _ (w.heap.size + 2) 24 _ _ rfl hres.out Tryz.underlying24 rfl info_grid) rfl ?_
    exact ⟨bset2 (r := w.heap.size + 2) hbw (by omega), _, _, _, _, _, _, rfl, (fun W _ => Ints.nil W), (fun W _ => Ints.nil W)⟩
  have t1 : decide (1 ≤ a) = false := by simpa using u1
  by_cases u2 : v < 0
  · have t2 : decide (v < 0) = true := by simpa using u2
    clear u2
    go_quiet (fail)
    have hW : Arr (w4.drewN nq) (w.heap.size + 2) 24 [.slice none 0 0, .slice none 0 0] ∧ Below w.heap.size w (w4.drewN nq) := ⟨p2.drewN _, bdrewN hbw _⟩
    clear p0 p1 p2 p3 p4 hbw y0 y1 m0 m2 m3 P0 V0
    generalize w4.drewN nq = w5 at hW ⊢
    obtain ⟨p2, hbw⟩ := hW
    have s0 := p2.cell 0
    have s1 := p2.cell 1
    have s2 := p2.frozen 0
    have s3 := p2.frozen 1
    have hres := Lib.hid ((p2.set 0 (.slice none 0 0)).set 1 (.slice none 0 0))
    go_wp2_with fail
    refine bodyPost_ret (v := .tuple #[.agg #[.slice none 0 0, .slice none 0 0], .int .i64 2]) (results_ct Tryz.results66 _ _ (w.heap.size + 2) 24 _ _ rfl hres.out Tryz.underlying24 rfl info_grid) rfl ?_
    exact ⟨bset2 (r := w.heap.size + 2) hbw (by omega), _, _, _, _, _, _, rfl, (fun W _ => Ints.nil W), (fun W _ => Ints.nil W)⟩
  have t2 : decide (v < 0) = false := by simpa using u2
  have u3 : 1 ≤ v := by omega
  clear u0
  clear u1
  clear u2
  clear hr
  have t3 : decide (1 ≤ v) = true := by simpa using u3
  clear u3
  go_quiet (fail)
  have hW : Arr (w4.drewN nq) (w.heap.size + 2) 24 [.slice none 0 0, .slice none 0 0] ∧ Below w.heap.size w (w4.drewN nq) := ⟨p2.drewN _, bdrewN hbw _⟩
  clear p0 p1 p2 p3 p4 hbw y0 y1 m0 m2 m3 P0 V0
  generalize w4.drewN nq = w5 at hW ⊢
  obtain ⟨p2, hbw⟩ := hW
  have s0 := p2.cell 0
  have s1 := p2.cell 1
  have s2 := p2.frozen 0
  have s3 := p2.frozen 1
  have hres := Lib.hid ((p2.set 0 (.slice none 0 0)).set 1 (.slice none 0 0))
  go_wp2_with fail
  refine bodyPost_ret (v := .tuple #[.agg #[.slice none 0 0, .slice none 0 0], .int .i64 2]) (results_ct Tryz.results66 _ _ (w.heap.size + 2) 24 _ _ rfl hres.out Tryz.underlying24 rfl info_grid) rfl ?_
  exact ⟨bset2 (r := w.heap.size + 2) hbw (by omega), _, _, _, _, _, _, rfl, (fun W _ => Ints.nil W), (fun W _ => Ints.nil W)⟩
set_option maxRecDepth 100000 in
set_option maxHeartbeats 4000000 in
theorem refColsR2 (vx vo : Value) (X O : List Int) (rows : Bool) (a v : Int) (w : World) (hX : Ints w vx X) (hO : Ints w vo O) (hv : Vd X O) (hr : a < 0 ∨ (X.length : Int) - 1 ≤ a ∨ v < 0 ∨ 1 ≤ v) :
    Calls Tryz.prog 66 #[.agg #[vx, vo], .agg #[.int .i64 2, .bool rows, .int .i64 a, .int .i64 v]] w (GRf w.heap.size w (2, [], [])) := by
  have hX0 := hX
  have hO0 := hO
  obtain ⟨A, c, rfl, hc, hh⟩ := hX
  obtain ⟨A', c', rfl, hc', hh'⟩ := hO
  clear hh hh'
  have h2 := hv.two
  have h40 := hv.most
  go_enter Tryz.func66, Tryz.ntmps66
  go_upto_region 6 with fail
  have hW : Arr (((((w.alloc (.cells #[.slice A X.length c, .slice A' O.length c'] 24)).alloc (.cells #[.int .i64 2, .bool rows, .int .i64 a, .int .i64 v] 85)).alloc (.cells #[.slice none 0 0, .slice none 0 0] 24)).alloc (.cells #[.int .i64 1, .int .i64 ((X.length : Int) - 1), .int .i64 (X.length : Int), .int .i64 ((X.length : Int) + 1)] 3)).alloc (.cells #[.int .i64 1, .int .i64 1, .int .i64 1, .int .i64 (2 * (X.length : Int))] 3)) w.heap.size 24 [.slice A X.length c, .slice A' O.length c'] ∧ Arr (((((w.alloc (.cells #[.slice A X.length c, .slice A' O.length c'] 24)).alloc (.cells #[.int .i64 2, .bool rows, .int .i64 a, .int .i64 v] 85)).alloc (.cells #[.slice none 0 0, .slice none 0 0] 24)).alloc (.cells #[.int .i64 1, .int .i64 ((X.length : Int) - 1), .int .i64 (X.length : Int), .int .i64 ((X.length : Int) + 1)] 3)).alloc (.cells #[.int .i64 1, .int .i64 1, .int .i64 1, .int .i64 (2 * (X.length : Int))] 3)) (w.heap.size + 1) 85 [.int .i64 2, .bool rows, .int .i64 a, .int .i64 v] ∧ Arr (((((w.alloc (.cells #[.slice A X.length c, .slice A' O.length c'] 24)).alloc (.cells #[.int .i64 2, .bool rows, .int .i64 a, .int .i64 v] 85)).alloc (.cells #[.slice none 0 0, .slice none 0 0] 24)).alloc (.cells #[.int .i64 1, .int .i64 ((X.length : Int) - 1), .int .i64 (X.length : Int), .int .i64 ((X.length : Int) + 1)] 3)).alloc (.cells #[.int .i64 1, .int .i64 1, .int .i64 1, .int .i64 (2 * (X.length : Int))] 3)) (w.heap.size + 2) 24 [.slice none 0 0, .slice none 0 0] ∧ Arr (((((w.alloc (.cells #[.slice A X.length c, .slice A' O.length c'] 24)).alloc (.cells #[.int .i64 2, .bool rows, .int .i64 a, .int .i64 v] 85)).alloc (.cells #[.slice none 0 0, .slice none 0 0] 24)).alloc (.cells #[.int .i64 1, .int .i64 ((X.length : Int) - 1), .int .i64 (X.length : Int), .int .i64 ((X.length : Int) + 1)] 3)).alloc (.cells #[.int .i64 1, .int .i64 1, .int .i64 1, .int .i64 (2 * (X.length : Int))] 3)) (w.heap.size + 3) 3 [.int .i64 1, .int .i64 ((X.length : Int) - 1), .int .i64 (X.length : Int), .int .i64 ((X.length : Int) + 1)] ∧ Arr (((((w.alloc (.cells #[.slice A X.length c, .slice A' O.length c'] 24)).alloc (.cells #[.int .i64 2, .bool rows, .int .i64 a, .int .i64 v] 85)).alloc (.cells #[.slice none 0 0, .slice none 0 0] 24)).alloc (.cells #[.int .i64 1, .int .i64 ((X.length : Int) - 1), .int .i64 (X.length : Int), .int .i64 ((X.length : Int) + 1)] 3)).alloc (.cells #[.int .i64 1, .int .i64 1, .int .i64 1, .int .i64 (2 * (X.length : Int))] 3)) (w.heap.size + 4) 3 [.int .i64 1, .int .i64 1, .int .i64 1, .int .i64 (2 * (X.length : Int))] ∧ Below w.heap.size w (((((w.alloc (.cells #[.slice A X.length c, .slice A' O.length c'] 24)).alloc (.cells #[.int .i64 2, .bool rows, .int .i64 a, .int .i64 v] 85)).alloc (.cells #[.slice none 0 0, .slice none 0 0] 24)).alloc (.cells #[.int .i64 1, .int .i64 ((X.length : Int) - 1), .int .i64 (X.length : Int), .int .i64 ((X.length : Int) + 1)] 3)).alloc (.cells #[.int .i64 1, .int .i64 1, .int .i64 1, .int .i64 (2 * (X.length : Int))] 3)) :=
    ⟨((((Arr.new _ _ [_, _]).alloc _).alloc _).alloc _).alloc _, (((Arr.newAt _ _ [_, _, _, _] _ (by simp)).alloc _).alloc _).alloc _, ((Arr.newAt _ _ [_, _] _ (by simp)).alloc _).alloc _, (Arr.newAt _ _ [_, _, _, _] _ (by simp)).alloc _, Arr.newAt _ _ [_, _, _, _] _ (by simp), by repeat (first | exact Below.refl _ _ | refine Below.alloc ?_ (by simp <;> omega) _)⟩
  generalize (((((w.alloc (.cells #[.slice A X.length c, .slice A' O.length c'] 24)).alloc (.cells #[.int .i64 2, .bool rows, .int .i64 a, .int .i64 v] 85)).alloc (.cells #[.slice none 0 0, .slice none 0 0] 24)).alloc (.cells #[.int .i64 1, .int .i64 ((X.length : Int) - 1), .int .i64 (X.length : Int), .int .i64 ((X.length : Int) + 1)] 3)).alloc (.cells #[.int .i64 1, .int .i64 1, .int .i64 1, .int .i64 (2 * (X.length : Int))] 3)) = w4 at hW ⊢
  obtain ⟨p0, p1, p2, p3, p4, hbw⟩ := hW
  have y0 := p0.cell 0
  have y1 := p0.cell 1
  have m0 := p1.cell 0
  have m2 := p1.cell 2
  have m3 := p1.cell 3
  have P0 := p3.cell 1
  have V0 := p4.cell 1
  by_cases u0 : a < 0
  · have t0 : decide (a < 0) = true := by simpa using u0
    clear u0
    go_quiet (fail)
    have hW : Arr (w4.drewN nq) (w.heap.size + 2) 24 [.slice none 0 0, .slice none 0 0] ∧ Below w.heap.size w (w4.drewN nq) := ⟨p2.drewN _, bdrewN hbw _⟩
    clear p0 p1 p2 p3 p4 hbw y0 y1 m0 m2 m3 P0 V0
    generalize w4.drewN nq = w5 at hW ⊢
    obtain ⟨p2, hbw⟩ := hW
    have s0 := p2.cell 0
    have s1 := p2.cell 1
    have s2 := p2.frozen 0
    have s3 := p2.frozen 1
    have hres := Lib.hid ((p2.set 0 (.slice none 0 0)).set 1 (.slice none 0 0))
    go_wp2_with fail
    refine bodyPost_ret (v := .tuple #[.agg #[.slice none 0 0, .slice none 0 0], .int .i64 2]) (results_ct Tryz.results66 _ _ (w.heap.size + 2) 24 _ _ rfl hres.out Tryz.underlying24 rfl info_grid) rfl ?_
    exact ⟨bset2 (r := w.heap.size + 2) hbw (by omega), _, _, _, _, _, _, rfl, (fun W _ => Ints.nil W), (fun W _ => Ints.nil W)⟩
  have t0 : decide (a < 0) = false := by simpa using u0
  by_cases u1 : (X.length : Int) - 1 ≤ a
  · have t1 : decide ((X.length : Int) - 1 ≤ a) = true := by simpa using u1
    clear u1
    go_quiet (fail)
    have hW : Arr (w4.drewN nq) (w.heap.size + 2) 24 [.slice none 0 0, .slice none 0 0] ∧ Below w.heap.size w (w4.drewN nq) := ⟨p2.drewN _, bdrewN hbw _⟩
    clear p0 p1 p2 p3 p4 hbw y0 y1 m0 m2 m3 P0 V0
    generalize w4.drewN nq = w5 at hW ⊢
    obtain ⟨p2, hbw⟩ := hW
    have s0 := p2.cell 0
    have s1 := p2.cell 1
    have s2 := p2.frozen 0
    have s3 := p2.frozen 1
    have hres := Lib.hid ((p2.set 0 (.slice none 0 0)).set 1 (.slice none 0 0))
    go_wp2_with fail
    refine bodyPost_ret (v := .tuple #[.agg #[.slice none 0 0, .slice none 0 0], .int .i64 2]) (results_ct Tryz.results66 _ _ (w.heap.size + 2) 24 _ _ rfl hres.out Tryz.underlying24 rfl info_grid) rfl ?_
    exact ⟨bset2 (r := w.heap.size + 2) hbw (by omega), _, _, _, _, _, _, rfl, (fun W _ => Ints.nil W), (fun W _ => Ints.nil W)⟩
  have t1 : decide ((X.length : Int) - 1 ≤ a) = false := by simpa using u1
  by_cases u2 : v < 0
  · have t2 : decide (v < 0) = true := by simpa using u2
    clear u2
    go_quiet (fail)
    have hW : Arr (w4.drewN nq) (w.heap.size + 2) 24 [.slice none 0 0, .slice none 0 0] ∧ Below w.heap.size w (w4.drewN nq) := ⟨p2.drewN _, bdrewN hbw _⟩
    clear p0 p1 p2 p3 p4 hbw y0 y1 m0 m2 m3 P0 V0
    generalize w4.drewN nq = w5 at hW ⊢
    obtain ⟨p2, hbw⟩ := hW
    have s0 := p2.cell 0
    have s1 := p2.cell 1
    have s2 := p2.frozen 0
    have s3 := p2.frozen 1
    have hres := Lib.hid ((p2.set 0 (.slice none 0 0)).set 1 (.slice none 0 0))
    go_wp2_with fail
    refine bodyPost_ret (v := .tuple #[.agg #[.slice none 0 0, .slice none 0 0], .int .i64 2]) (results_ct Tryz.results66 _ _ (w.heap.size + 2) 24 _ _ rfl hres.out Tryz.underlying24 rfl info_grid) rfl ?_
    exact ⟨bset2 (r := w.heap.size + 2) hbw (by omega), _, _, _, _, _, _, rfl, (fun W _ => Ints.nil W), (fun W _ => Ints.nil W)⟩
  have t2 : decide (v < 0) = false := by simpa using u2
  have u3 : 1 ≤ v := by omega
  clear u0
  clear u1
  clear u2
  clear hr
  have t3 : decide (1 ≤ v) = true := by simpa using u3
  clear u3
  go_quiet (fail)
  have hW : Arr (w4.drewN nq) (w.heap.size + 2) 24 [.slice none 0 0, .slice none 0 0] ∧ Below w.heap.size w (w4.drewN nq) := ⟨p2.drewN _, bdrewN hbw _⟩
  clear p0 p1 p2 p3 p4 hbw y0 y1 m0 m2 m3 P0 V0
  generalize w4.drewN nq = w5 at hW ⊢
  obtain ⟨p2, hbw⟩ := hW
  have s0 := p2.cell 0
  have s1 := p2.cell 1
  have s2 := p2.frozen 0
  have s3 := p2.frozen 1
  have hres := Lib.hid ((p2.set 0 (.slice none 0 0)).set 1 (.slice none 0 0))
  go_wp2_with fail
  refine bodyPost_ret (v := .tuple #[.agg #[.slice none 0 0, .slice none 0 0], .int .i64 2]) (results_ct Tryz.results66 _ _ (w.heap.size + 2) 24 _ _ rfl hres.out Tryz.underlying24 rfl info_grid) rfl ?_
  exact ⟨bset2 (r := w.heap.size + 2) hbw (by omega), _, _, _, _, _, _, rfl, (fun W _ => Ints.nil W), (fun W _ => Ints.nil W)⟩
set_option maxRecDepth 100000 in
set_option maxHeartbeats 4000000 in
theorem refColsR3 (vx vo : Value) (X O : List Int) (rows : Bool) (a v : Int) (w : World) (hX : Ints w vx X) (hO : Ints w vo O) (hv : Vd X O) (hr : a < 0 ∨ (X.length : Int) ≤ a ∨ v < 0 ∨ 1 ≤ v) :
    Calls Tryz.prog 66 #[.agg #[vx, vo], .agg #[.int .i64 3, .bool rows, .int .i64 a, .int .i64 v]] w (GRf w.heap.size w (2, [], [])) := by
  have hX0 := hX
  have hO0 := hO
  obtain ⟨A, c, rfl, hc, hh⟩ := hX
  obtain ⟨A', c', rfl, hc', hh'⟩ := hO
  clear hh hh'
  have h2 := hv.two
  have h40 := hv.most
  go_enter Tryz.func66, Tryz.ntmps66
  go_upto_region 6 with fail
  have hW : Arr (((((w.alloc (.cells #[.slice A X.length c, .slice A' O.length c'] 24)).alloc (.cells #[.int .i64 3, .bool rows, .int .i64 a, .int .i64 v] 85)).alloc (.cells #[.slice none 0 0, .slice none 0 0] 24)).alloc (.cells #[.int .i64 1, .int .i64 ((X.length : Int) - 1), .int .i64 (X.length : Int), .int .i64 ((X.length : Int) + 1)] 3)).alloc (.cells #[.int .i64 1, .int .i64 1, .int .i64 1, .int .i64 (2 * (X.length : Int))] 3)) w.heap.size 24 [.slice A X.length c, .slice A' O.length c'] ∧ Arr (((((w.alloc (.cells #[.slice A X.length c, .slice A' O.length c'] 24)).alloc (.cells #[.int .i64 3, .bool rows, .int .i64 a, .int .i64 v] 85)).alloc (.cells #[.slice none 0 0, .slice none 0 0] 24)).alloc (.cells #[.int .i64 1, .int .i64 ((X.length : Int) - 1), .int .i64 (X.length : Int), .int .i64 ((X.length : Int) + 1)] 3)).alloc (.cells #[.int .i64 1, .int .i64 1, .int .i64 1, .int .i64 (2 * (X.length : Int))] 3)) (w.heap.size + 1) 85 [.int .i64 3, .bool rows, .int .i64 a, .int .i64 v] ∧ Arr (((((w.alloc (.cells #[.slice A X.length c, .slice A' O.length c'] 24)).alloc (.cells #[.int .i64 3, .bool rows, .int .i64 a, .int .i64 v] 85)).alloc (.cells #[.slice none 0 0, .slice none 0 0] 24)).alloc (.cells #[.int .i64 1, .int .i64 ((X.length : Int) - 1), .int .i64 (X.length : Int), .int .i64 ((X.length : Int) + 1)] 3)).alloc (.cells #[.int .i64 1, .int .i64 1, .int .i64 1, .int .i64 (2 * (X.length : Int))] 3)) (w.heap.size + 2) 24 [.slice none 0 0, .slice none 0 0] ∧ Arr (((((w.alloc (.cells #[.slice A X.length c, .slice A' O.length c'] 24)).alloc (.cells #[.int .i64 3, .bool rows, .int .i64 a, .int .i64 v] 85)).alloc (.cells #[.slice none 0 0, .slice none 0 0] 24)).alloc (.cells #[.int .i64 1, .int .i64 ((X.length : Int) - 1), .int .i64 (X.length : Int), .int .i64 ((X.length : Int) + 1)] 3)).alloc (.cells #[.int .i64 1, .int .i64 1, .int .i64 1, .int .i64 (2 * (X.length : Int))] 3)) (w.heap.size + 3) 3 [.int .i64 1, .int .i64 ((X.length : Int) - 1), .int .i64 (X.length : Int), .int .i64 ((X.length : Int) + 1)] ∧ Arr (((((w.alloc (.cells #[.slice A X.length c, .slice A' O.length c'] 24)).alloc (.cells #[.int .i64 3, .bool rows, .int .i64 a, .int .i64 v] 85)).alloc (.cells #[.slice none 0 0, .slice none 0 0] 24)).alloc (.cells #[.int .i64 1, .int .i64 ((X.length : Int) - 1), .int .i64 (X.length : Int), .int .i64 ((X.length : Int) + 1)] 3)).alloc (.cells #[.int .i64 1, .int .i64 1, .int .i64 1, .int .i64 (2 * (X.length : Int))] 3)) (w.heap.size + 4) 3 [.int .i64 1, .int .i64 1, .int .i64 1, .int .i64 (2 * (X.length : Int))] ∧ Below w.heap.size w (((((w.alloc (.cells #[.slice A X.length c, .slice A' O.length c'] 24)).alloc (.cells #[.int .i64 3, .bool rows, .int .i64 a, .int .i64 v] 85)).alloc (.cells #[.slice none 0 0, .slice none 0 0] 24)).alloc (.cells #[.int .i64 1, .int .i64 ((X.length : Int) - 1), .int .i64 (X.length : Int), .int .i64 ((X.length : Int) + 1)] 3)).alloc (.cells #[.int .i64 1, .int .i64 1, .int .i64 1, .int .i64 (2 * (X.length : Int))] 3)) :=
    ⟨((((Arr.new _ _ [_, _]).alloc _).alloc _).alloc _).alloc _, (((Arr.newAt _ _ [_, _, _, _] _ (by simp)).alloc _).alloc _).alloc _, ((Arr.newAt _ _ [_, _] _ (by simp)).alloc _).alloc _, (Arr.newAt _ _ [_, _, _, _] _ (by simp)).alloc _, Arr.newAt _ _ [_, _, _, _] _ (by simp), by repeat (first | exact Below.refl _ _ | refine Below.alloc ?_ (by simp <;> omega) _)⟩
  generalize (((((w.alloc (.cells #[.slice A X.length c, .slice A' O.length c'] 24)).alloc (.cells #[.int .i64 3, .bool rows, .int .i64 a, .int .i64 v] 85)).alloc (.cells #[.slice none 0 0, .slice none 0 0] 24)).alloc (.cells #[.int .i64 1, .int .i64 ((X.length : Int) - 1), .int .i64 (X.length : Int), .int .i64 ((X.length : Int) + 1)] 3)).alloc (.cells #[.int .i64 1, .int .i64 1, .int .i64 1, .int .i64 (2 * (X.length : Int))] 3)) = w4 at hW ⊢
  obtain ⟨p0, p1, p2, p3, p4, hbw⟩ := hW
  have y0 := p0.cell 0
  have y1 := p0.cell 1
  have m0 := p1.cell 0
  have m2 := p1.cell 2
  have m3 := p1.cell 3
  have P0 := p3.cell 2
  have V0 := p4.cell 2
  by_cases u0 : a < 0
  · have t0 : decide (a < 0) = true := by simpa using u0
    clear u0
    go_quiet (fail)
    have hW : Arr (w4.drewN nq) (w.heap.size + 2) 24 [.slice none 0 0, .slice none 0 0] ∧ Below w.heap.size w (w4.drewN nq) := ⟨p2.drewN _, bdrewN hbw _⟩
    clear p0 p1 p2 p3 p4 hbw y0 y1 m0 m2 m3 P0 V0
    generalize w4.drewN nq = w5 at hW ⊢
    obtain ⟨p2, hbw⟩ := hW
    have s0 := p2.cell 0
    have s1 := p2.cell 1
    have s2 := p2.frozen 0
    have s3 := p2.frozen 1
    have hres := Lib.hid ((p2.set 0 (.slice none 0 0)).set 1 (.slice none 0 0))
    go_wp2_with fail
    refine bodyPost_ret (v := .tuple #[.agg #[.slice none 0 0, .slice none 0 0], .int .i64 2]) (results_ct Tryz.results66 _ _ (w.heap.size + 2) 24 _ _ rfl hres.out Tryz.underlying24 rfl info_grid) rfl ?_
    exact ⟨bset2 (r := w.heap.size + 2) hbw (by omega), _, _, _, _, _, _, rfl, (fun W _ => Ints.nil W), (fun W _ => Ints.nil W)⟩
  have t0 : decide (a < 0) = false := by simpa using u0
  by_cases u1 : (X.length : Int) ≤ a
  · have t1 : decide ((X.length : Int) ≤ a) = true := by simpa using u1
    clear u1
    go_quiet (fail)
    have hW : Arr (w4.drewN nq) (w.heap.size + 2) 24 [.slice none 0 0, .slice none 0 0] ∧ Below w.heap.size w (w4.drewN nq) := ⟨p2.drewN _, bdrewN hbw _⟩
    clear p0 p1 p2 p3 p4 hbw y0 y1 m0 m2 m3 P0 V0
    generalize w4.drewN nq = w5 at hW ⊢
    obtain ⟨p2, hbw⟩ := hW
    have s0 := p2.cell 0
    have s1 := p2.cell 1
    have s2 := p2.frozen 0
    have s3 := p2.frozen 1
    have hres := Lib.hid ((p2.set 0 (.slice none 0 0)).set 1 (.slice none 0 0))
    go_wp2_with fail
    refine bodyPost_ret (v := .tuple #[.agg #[.slice none 0 0, .slice none 0 0], .int .i64 2]) (results_ct Tryz.results66 _ _ (w.heap.size + 2) 24 _ _ rfl hres.out Tryz.underlying24 rfl info_grid) rfl ?_
    exact ⟨bset2 (r := w.heap.size + 2) hbw (by omega), _, _, _, _, _, _, rfl, (fun W _ => Ints.nil W), (fun W _ => Ints.nil W)⟩
  have t1 : decide ((X.length : Int) ≤ a) = false := by simpa using u1
  by_cases u2 : v < 0
  · have t2 : decide (v < 0) = true := by simpa using u2
    clear u2
    go_quiet (fail)
    have hW : Arr (w4.drewN nq) (w.heap.size + 2) 24 [.slice none 0 0, .slice none 0 0] ∧ Below w.heap.size w (w4.drewN nq) := ⟨p2.drewN _, bdrewN hbw _⟩
    clear p0 p1 p2 p3 p4 hbw y0 y1 m0 m2 m3 P0 V0
    generalize w4.drewN nq = w5 at hW ⊢
    obtain ⟨p2, hbw⟩ := hW
    have s0 := p2.cell 0
    have s1 := p2.cell 1
    have s2 := p2.frozen 0
    have s3 := p2.frozen 1
    have hres := Lib.hid ((p2.set 0 (.slice none 0 0)).set 1 (.slice none 0 0))
    go_wp2_with fail
    refine bodyPost_ret (v := .tuple #[.agg #[.slice none 0 0, .slice none 0 0], .int .i64 2]) (results_ct Tryz.results66 _ _ (w.heap.size + 2) 24 _ _ rfl hres.out Tryz.underlying24 rfl info_grid) rfl ?_
    exact ⟨bset2 (r := w.heap.size + 2) hbw (by omega), _, _, _, _, _, _, rfl, (fun W _ => Ints.nil W), (fun W _ => Ints.nil W)⟩
  have t2 : decide (v < 0) = false := by simpa using u2
  have u3 : 1 ≤ v := by omega
  clear u0
  clear u1
  clear u2
  clear hr
  have t3 : decide (1 ≤ v) = true := by simpa using u3
  clear u3
  go_quiet (fail)
  have hW : Arr (w4.drewN nq) (w.heap.size + 2) 24 [.slice none 0 0, .slice none 0 0] ∧ Below w.heap.size w (w4.drewN nq) := ⟨p2.drewN _, bdrewN hbw _⟩
  clear p0 p1 p2 p3 p4 hbw y0 y1 m0 m2 m3 P0 V0
  generalize w4.drewN nq = w5 at hW ⊢
  obtain ⟨p2, hbw⟩ := hW
  have s0 := p2.cell 0
  have s1 := p2.cell 1
  have s2 := p2.frozen 0
  have s3 := p2.frozen 1
  have hres := Lib.hid ((p2.set 0 (.slice none 0 0)).set 1 (.slice none 0 0))
  go_wp2_with fail
  refine bodyPost_ret (v := .tuple #[.agg #[.slice none 0 0, .slice none 0 0], .int .i64 2]) (results_ct Tryz.results66 _ _ (w.heap.size + 2) 24 _ _ rfl hres.out Tryz.underlying24 rfl info_grid) rfl ?_
  exact ⟨bset2 (r := w.heap.size + 2) hbw (by omega), _, _, _, _, _, _, rfl, (fun W _ => Ints.nil W), (fun W _ => Ints.nil W)⟩
set_option maxRecDepth 100000 in
set_option maxHeartbeats 4000000 in
theorem refColsR4 (vx vo : Value) (X O : List Int) (rows : Bool) (a v : Int) (w : World) (hX : Ints w vx X) (hO : Ints w vo O) (hv : Vd X O) (hr : a < 0 ∨ (X.length : Int) + 1 ≤ a ∨ v < 0 ∨ 2 * (X.length : Int) ≤ v) :
    Calls Tryz.prog 66 #[.agg #[vx, vo], .agg #[.int .i64 4, .bool rows, .int .i64 a, .int .i64 v]] w (GRf w.heap.size w (2, [], [])) := by
  have hX0 := hX
  have hO0 := hO
  obtain ⟨A, c, rfl, hc, hh⟩ := hX
  obtain ⟨A', c', rfl, hc', hh'⟩ := hO
  clear hh hh'
  have h2 := hv.two
  have h40 := hv.most
  go_enter Tryz.func66, Tryz.ntmps66
  go_upto_region 6 with fail
  have hW : Arr (((((w.alloc (.cells #[.slice A X.length c, .slice A' O.length c'] 24)).alloc (.cells #[.int .i64 4, .bool rows, .int .i64 a, .int .i64 v] 85)).alloc (.cells #[.slice none 0 0, .slice none 0 0] 24)).alloc (.cells #[.int .i64 1, .int .i64 ((X.length : Int) - 1), .int .i64 (X.length : Int), .int .i64 ((X.length : Int) + 1)] 3)).alloc (.cells #[.int .i64 1, .int .i64 1, .int .i64 1, .int .i64 (2 * (X.length : Int))] 3)) w.heap.size 24 [.slice A X.length c, .slice A' O.length c'] ∧ Arr (((((w.alloc (.cells #[.slice A X.length c, .slice A' O.length c'] 24)).alloc (.cells #[.int .i64 4, .bool rows, .int .i64 a, .int .i64 v] 85)).alloc (.cells #[.slice none 0 0, .slice none 0 0] 24)).alloc (.cells #[.int .i64 1, .int .i64 ((X.length : Int) - 1), .int .i64 (X.length : Int), .int .i64 ((X.length : Int) + 1)] 3)).alloc (.cells #[.int .i64 1, .int .i64 1, .int .i64 1, .int .i64 (2 * (X.length : Int))] 3)) (w.heap.size + 1) 85 [.int .i64 4, .bool rows, .int .i64 a, .int .i64 v] ∧ Arr (((((w.alloc (.cells #[.slice A X.length c, .slice A' O.length c'] 24)).alloc (.cells #[.int .i64 4, .bool rows, .int .i64 a, .int .i64 v] 85)).alloc (.cells #[.slice none 0 0, .slice none 0 0] 24)).alloc (.cells #[.int .i64 1, .int .i64 ((X.length : Int) - 1), .int .i64 (X.length : Int), .int .i64 ((X.length : Int) + 1)] 3)).alloc (.cells #[.int .i64 1, .int .i64 1, .int .i64 1, .int .i64 (2 * (X.length : Int))] 3)) (w.heap.size + 2) 24 [.slice none 0 0, .slice none 0 0] ∧ Arr (((((w.alloc (.cells #[.slice A X.length c, .slice A' O.length c'] 24)).alloc (.cells #[.int .i64 4, .bool rows, .int .i64 a, .int .i64 v] 85)).alloc (.cells #[.slice none 0 0, .slice none 0 0] 24)).alloc (.cells #[.int .i64 1, .int .i64 ((X.length : Int) - 1), .int .i64 (X.length : Int), .int .i64 ((X.length : Int) + 1)] 3)).alloc (.cells #[.int .i64 1, .int .i64 1, .int .i64 1, .int .i64 (2 * (X.length : Int))] 3)) (w.heap.size + 3) 3 [.int .i64 1, .int .i64 ((X.length : Int) - 1), .int .i64 (X.length : Int), .int .i64 ((X.length : Int) + 1)] ∧ Arr (((((w.alloc (.cells #[.slice A X.length c, .slice A' O.length c'] 24)).alloc (.cells #[.int .i64 4, .bool rows, .int .i64 a, .int .i64 v] 85)).alloc (.cells #[.slice none 0 0, .slice none 0 0] 24)).alloc (.cells #[.int .i64 1, .int .i64 ((X.length : Int) - 1), .int .i64 (X.length : Int), .int .i64 ((X.length : Int) + 1)] 3)).alloc (.cells #[.int .i64 1, .int .i64 1, .int .i64 1, .int .i64 (2 * (X.length : Int))] 3)) (w.heap.size + 4) 3 [.int .i64 1, .int .i64 1, .int .i64 1, .int .i64 (2 * (X.length : Int))] ∧ Below w.heap.size w (((((w.alloc (.cells #[.slice A X.length c, .slice A' O.length c'] 24)).alloc (.cells #[.int .i64 4, .bool rows, .int .i64 a, .int .i64 v] 85)).alloc (.cells #[.slice none 0 0, .slice none 0 0] 24)).alloc (.cells #[.int .i64 1, .int .i64 ((X.length : Int) - 1), .int .i64 (X.length : Int), .int .i64 ((X.length : Int) + 1)] 3)).alloc (.cells #[.int .i64 1, .int .i64 1, .int .i64 1, .int .i64 (2 * (X.length : Int))] 3)) :=
    ⟨((((Arr.new _ _ [_, _]).alloc _).alloc _).alloc _).alloc _, (((Arr.newAt _ _ [_, _, _, _] _ (by simp)).alloc _).alloc _).alloc _, ((Arr.newAt _ _ [_, _] _ (by simp)).alloc _).alloc _, (Arr.newAt _ _ [_, _, _, _] _ (by simp)).alloc _, Arr.newAt _ _ [_, _, _, _] _ (by simp), by repeat (first | exact Below.refl _ _ | refine Below.alloc ?_ (by simp <;> omega) _)⟩
  generalize (((((w.alloc (.cells #[.slice A X.length c, .slice A' O.length c'] 24)).alloc (.cells #[.int .i64 4, .bool rows, .int .i64 a, .int .i64 v] 85)).alloc (.cells #[.slice none 0 0, .slice none 0 0] 24)).alloc (.cells #[.int .i64 1, .int .i64 ((X.length : Int) - 1), .int .i64 (X.length : Int), .int .i64 ((X.length : Int) + 1)] 3)).alloc (.cells #[.int .i64 1, .int .i64 1, .int .i64 1, .int .i64 (2 * (X.length : Int))] 3)) = w4 at hW ⊢
  obtain ⟨p0, p1, p2, p3, p4, hbw⟩ := hW
  have y0 := p0.cell 0
  have y1 := p0.cell 1
  have m0 := p1.cell 0
  have m2 := p1.cell 2
  have m3 := p1.cell 3
  have P0 := p3.cell 3
  have V0 := p4.cell 3
  by_cases u0 : a < 0
  · have t0 : decide (a < 0) = true := by simpa using u0
    clear u0
    go_quiet (fail)
    have hW : Arr (w4.drewN nq) (w.heap.size + 2) 24 [.slice none 0 0, .slice none 0 0] ∧ Below w.heap.size w (w4.drewN nq) := ⟨p2.drewN _, bdrewN hbw _⟩
    clear p0 p1 p2 p3 p4 hbw y0 y1 m0 m2 m3 P0 V0
    generalize w4.drewN nq = w5 at hW ⊢
    obtain ⟨p2, hbw⟩ := hW
    have s0 := p2.cell 0
    have s1 := p2.cell 1
    have s2 := p2.frozen 0
    have s3 := p2.frozen 1
    have hres := Lib.hid ((p2.set 0 (.slice none 0 0)).set 1 (.slice none 0 0))
    go_wp2_with fail
    refine bodyPost_ret (v := .tuple #[.agg #[.slice none 0 0, .slice none 0 0], .int .i64 2]) (results_ct Tryz.results66 _ _ (w.heap.size + 2) 24 _ _ rfl hres.out Tryz.underlying24 rfl info_grid) rfl ?_
    exact ⟨bset2 (r := w.heap.size + 2) hbw (by omega), _, _, _, _, _, _, rfl, (fun W _ => Ints.nil W), (fun W _ => Ints.nil W)⟩
  have t0 : decide (a < 0) = false := by simpa using u0
  by_cases u1 : (X.length : Int) + 1 ≤ a
  · have t1 : decide ((X.length : Int) + 1 ≤ a) = true := by simpa using u1
    clear u1
    go_quiet (fail)
    have hW : Arr (w4.drewN nq) (w.heap.size + 2) 24 [.slice none 0 0, .slice none 0 0] ∧ Below w.heap.size w (w4.drewN nq) := ⟨p2.drewN _, bdrewN hbw _⟩
    clear p0 p1 p2 p3 p4 hbw y0 y1 m0 m2 m3 P0 V0
    generalize w4.drewN nq = w5 at hW ⊢
    obtain ⟨p2, hbw⟩ := hW
    have s0 := p2.cell 0
    have s1 := p2.cell 1
    have s2 := p2.frozen 0
    have s3 := p2.frozen 1
    have hres := Lib.hid ((p2.set 0 (.slice none 0 0)).set 1 (.slice none 0 0))
    go_wp2_with fail
    refine bodyPost_ret (v := .tuple #[.agg #[.slice none 0 0, .slice none 0 0], .int .i64 2]) (results_ct Tryz.results66 _ _ (w.heap.size + 2) 24 _ _ rfl hres.out Tryz.underlying24 rfl info_grid) rfl ?_
    exact ⟨bset2 (r := w.heap.size + 2) hbw (by omega), _, _, _, _, _, _, rfl, (fun W _ => Ints.nil W), (fun W _ => Ints.nil W)⟩
  have t1 : decide ((X.length : Int) + 1 ≤ a) = false := by simpa using u1
  by_cases u2 : v < 0
  · have t2 : decide (v < 0) = true := by simpa using u2
    clear u2
    go_quiet (fail)
    have hW : Arr (w4.drewN nq) (w.heap.size + 2) 24 [.slice none 0 0, .slice none 0 0] ∧ Below w.heap.size w (w4.drewN nq) := ⟨p2.drewN _, bdrewN hbw _⟩
    clear p0 p1 p2 p3 p4 hbw y0 y1 m0 m2 m3 P0 V0
    generalize w4.drewN nq = w5 at hW ⊢
    obtain ⟨p2, hbw⟩ := hW
    have s0 := p2.cell 0
    have s1 := p2.cell 1
    have s2 := p2.frozen 0
    have s3 := p2.frozen 1
    have hres := Lib.hid ((p2.set 0 (.slice none 0 0)).set 1 (.slice none 0 0))
    go_wp2_with fail
    refine bodyPost_ret (v := .tuple #[.agg #[.slice none 0 0, .slice none 0 0], .int .i64 2]) (results_ct Tryz.results66 _ _ (w.heap.size + 2) 24 _ _ rfl hres.out Tryz.underlying24 rfl info_grid) rfl ?_
    exact ⟨bset2 (r := w.heap.size + 2) hbw (by omega), _, _, _, _, _, _, rfl, (fun W _ => Ints.nil W), (fun W _ => Ints.nil W)⟩
  have t2 : decide (v < 0) = false := by simpa using u2
  have u3 : 2 * (X.length : Int) ≤ v := by omega
  clear u0
  clear u1
  clear u2
  clear hr
  have t3 : decide (2 * (X.length : Int) ≤ v) = true := by simpa using u3
  clear u3
  go_quiet (fail)
  have hW : Arr (w4.drewN nq) (w.heap.size + 2) 24 [.slice none 0 0, .slice none 0 0] ∧ Below w.heap.size w (w4.drewN nq) := ⟨p2.drewN _, bdrewN hbw _⟩
  clear p0 p1 p2 p3 p4 hbw y0 y1 m0 m2 m3 P0 V0
  generalize w4.drewN nq = w5 at hW ⊢
  obtain ⟨p2, hbw⟩ := hW
  have s0 := p2.cell 0
  have s1 := p2.cell 1
  have s2 := p2.frozen 0
  have s3 := p2.frozen 1
  have hres := Lib.hid ((p2.set 0 (.slice none 0 0)).set 1 (.slice none 0 0))
  go_wp2_with fail
  refine bodyPost_ret (v := .tuple #[.agg #[.slice none 0 0, .slice none 0 0], .int .i64 2]) (results_ct Tryz.results66 _ _ (w.heap.size + 2) 24 _ _ rfl hres.out Tryz.underlying24 rfl info_grid) rfl ?_
  exact ⟨bset2 (r := w.heap.size + 2) hbw (by omega), _, _, _, _, _, _, rfl, (fun W _ => Ints.nil W), (fun W _ => Ints.nil W)⟩
set_option maxRecDepth 100000 in
set_option maxHeartbeats 4000000 in
theorem refCols2Y (vx vo : Value) (X O : List Int) (rows : Bool) (a v : Int) (w : World) (hX : Ints w vx X) (hO : Ints w vo O) (hv : Vd X O) (ha0 : 0 ≤ a) (ha1 : a < (X.length : Int) - 1) (hv0 : 0 ≤ v) (hv1 : v < 1) (hB : commB (X.getD a.toNat 0) (O.getD a.toNat 0) (X.getD (a.toNat + 1) 0) (O.getD (a.toNat + 1) 0) = true) :
    Calls Tryz.prog 66 #[.agg #[vx, vo], .agg #[.int .i64 2, .bool rows, .int .i64 a, .int .i64 v]] w (GRf w.heap.size w (0, swapL X a.toNat, swapL O a.toNat)) := by
  have HB := Lib.hid hB
  clear hB
  have hX0 := hX
  have hO0 := hO
  obtain ⟨A, c, rfl, hc, hh⟩ := hX
  obtain ⟨A', c', rfl, hc', hh'⟩ := hO
  clear hh hh'
  have h2 := hv.two
  have h40 := hv.most
  go_enter Tryz.func66, Tryz.ntmps66
  go_upto_region 6 with fail
  have hW : Arr (((((w.alloc (.cells #[.slice A X.length c, .slice A' O.length c'] 24)).alloc (.cells #[.int .i64 2, .bool rows, .int .i64 a, .int .i64 v] 85)).alloc (.cells #[.slice none 0 0, .slice none 0 0] 24)).alloc (.cells #[.int .i64 1, .int .i64 ((X.length : Int) - 1), .int .i64 (X.length : Int), .int .i64 ((X.length : Int) + 1)] 3)).alloc (.cells #[.int .i64 1, .int .i64 1, .int .i64 1, .int .i64 (2 * (X.length : Int))] 3)) w.heap.size 24 [.slice A X.length c, .slice A' O.length c'] ∧ Arr (((((w.alloc (.cells #[.slice A X.length c, .slice A' O.length c'] 24)).alloc (.cells #[.int .i64 2, .bool rows, .int .i64 a, .int .i64 v] 85)).alloc (.cells #[.slice none 0 0, .slice none 0 0] 24)).alloc (.cells #[.int .i64 1, .int .i64 ((X.length : Int) - 1), .int .i64 (X.length : Int), .int .i64 ((X.length : Int) + 1)] 3)).alloc (.cells #[.int .i64 1, .int .i64 1, .int .i64 1, .int .i64 (2 * (X.length : Int))] 3)) (w.heap.size + 1) 85 [.int .i64 2, .bool rows, .int .i64 a, .int .i64 v] ∧ Arr (((((w.alloc (.cells #[.slice A X.length c, .slice A' O.length c'] 24)).alloc (.cells #[.int .i64 2, .bool rows, .int .i64 a, .int .i64 v] 85)).alloc (.cells #[.slice none 0 0, .slice none 0 0] 24)).alloc (.cells #[.int .i64 1, .int .i64 ((X.length : Int) - 1), .int .i64 (X.length : Int), .int .i64 ((X.length : Int) + 1)] 3)).alloc (.cells #[.int .i64 1, .int .i64 1, .int .i64 1, .int .i64 (2 * (X.length : Int))] 3)) (w.heap.size + 2) 24 [.slice none 0 0, .slice none 0 0] ∧ Arr (((((w.alloc (.cells #[.slice A X.length c, .slice A' O.length c'] 24)).alloc (.cells #[.int .i64 2, .bool rows, .int .i64 a, .int .i64 v] 85)).alloc (.cells #[.slice none 0 0, .slice none 0 0] 24)).alloc (.cells #[.int .i64 1, .int .i64 ((X.length : Int) - 1), .int .i64 (X.length : Int), .int .i64 ((X.length : Int) + 1)] 3)).alloc (.cells #[.int .i64 1, .int .i64 1, .int .i64 1, .int .i64 (2 * (X.length : Int))] 3)) (w.heap.size + 3) 3 [.int .i64 1, .int .i64 ((X.length : Int) - 1), .int .i64 (X.length : Int), .int .i64 ((X.length : Int) + 1)] ∧ Arr (((((w.alloc (.cells #[.slice A X.length c, .slice A' O.length c'] 24)).alloc (.cells #[.int .i64 2, .bool rows, .int .i64 a, .int .i64 v] 85)).alloc (.cells #[.slice none 0 0, .slice none 0 0] 24)).alloc (.cells #[.int .i64 1, .int .i64 ((X.length : Int) - 1), .int .i64 (X.length : Int), .int .i64 ((X.length : Int) + 1)] 3)).alloc (.cells #[.int .i64 1, .int .i64 1, .int .i64 1, .int .i64 (2 * (X.length : Int))] 3)) (w.heap.size + 4) 3 [.int .i64 1, .int .i64 1, .int .i64 1, .int .i64 (2 * (X.length : Int))] ∧ Below w.heap.size w (((((w.alloc (.cells #[.slice A X.length c, .slice A' O.length c'] 24)).alloc (.cells #[.int .i64 2, .bool rows, .int .i64 a, .int .i64 v] 85)).alloc (.cells #[.slice none 0 0, .slice none 0 0] 24)).alloc (.cells #[.int .i64 1, .int .i64 ((X.length : Int) - 1), .int .i64 (X.length : Int), .int .i64 ((X.length : Int) + 1)] 3)).alloc (.cells #[.int .i64 1, .int .i64 1, .int .i64 1, .int .i64 (2 * (X.length : Int))] 3)) :=
    ⟨((((Arr.new _ _ [_, _]).alloc _).alloc _).alloc _).alloc _, (((Arr.newAt _ _ [_, _, _, _] _ (by simp)).alloc _).alloc _).alloc _, ((Arr.newAt _ _ [_, _] _ (by simp)).alloc _).alloc _, (Arr.newAt _ _ [_, _, _, _] _ (by simp)).alloc _, Arr.newAt _ _ [_, _, _, _] _ (by simp), by repeat (first | exact Below.refl _ _ | refine Below.alloc ?_ (by simp <;> omega) _)⟩
  generalize (((((w.alloc (.cells #[.slice A X.length c, .slice A' O.length c'] 24)).alloc (.cells #[.int .i64 2, .bool rows, .int .i64 a, .int .i64 v] 85)).alloc (.cells #[.slice none 0 0, .slice none 0 0] 24)).alloc (.cells #[.int .i64 1, .int .i64 ((X.length : Int) - 1), .int .i64 (X.length : Int), .int .i64 ((X.length : Int) + 1)] 3)).alloc (.cells #[.int .i64 1, .int .i64 1, .int .i64 1, .int .i64 (2 * (X.length : Int))] 3)) = w4 at hW ⊢
  obtain ⟨p0, p1, p2, p3, p4, hbw⟩ := hW
  have y0 := p0.cell 0
  have y1 := p0.cell 1
  have m0 := p1.cell 0
  have m2 := p1.cell 2
  have m3 := p1.cell 3
  have P0 := p3.cell 1
  have V0 := p4.cell 1
  have t1 : decide (a < 0) = false := by simp; omega
  have t2 : decide ((X.length : Int) - 1 ≤ a) = false := by simp; omega
  have t3 : decide (v < 0) = false := by simp; omega
  have t4 : decide (1 ≤ v) = false := by simp; omega
  go_quiet (fail)
  have hW : Arr (w4.drewN nq) w.heap.size 24 [.slice A X.length c, .slice A' O.length c'] ∧ Arr (w4.drewN nq) (w.heap.size + 1) 85 [.int .i64 2, .bool rows, .int .i64 a, .int .i64 v] ∧ Arr (w4.drewN nq) (w.heap.size + 2) 24 [.slice none 0 0, .slice none 0 0] ∧ Below w.heap.size w (w4.drewN nq) := ⟨p0.drewN _, p1.drewN _, p2.drewN _, bdrewN hbw _⟩
  clear m0 m2 m3 P0 V0 t1 t2 t3 t4 y0 y1 p0 p1 p2 p3 p4 hbw
  generalize w4.drewN nq = w5 at hW ⊢
  obtain ⟨p0, p1, p2, hbw⟩ := hW
  have HLL := Lib.hid hv.len
  have bX : ∀ x ∈ X, -1000 ≤ x ∧ x ≤ 1000 := fun x hx => by have := hv.pX.1 x hx; omega
  have bO : ∀ x ∈ O, -1000 ≤ x ∧ x ≤ 1000 := fun x hx => by have := hv.pO.1 x hx; have := hv.len; omega
  have BX := Lib.hid bX
  have BO := Lib.hid bO
  clear bX bO hv
  have lO : O.length ≤ 40 := by have := HLL.out; omega
  obtain ⟨an, rfl⟩ := Int.eq_ofNat_of_zero_le ha0
  have haO : an < O.length + 1 := by have := HLL.out; omega
  have y0 := p0.cell 0
  have y1 := p0.cell 1
  have m0 := p1.cell 0
  have m2 := p1.cell 2
  have m3 := p1.cell 3
  rw [Int.toNat_natCast] at HB ⊢
  have laX : an < X.length := by omega
  have laO : an < O.length := by have := HLL.out; omega
  have laX1 : an + 1 < X.length := by omega
  have laO1 : an + 1 < O.length := by have := HLL.out; omega
  have gX : X.getD an 0 = X[an] := by simp [List.getD_eq_getElem?_getD, laX]
  have gO : O.getD an 0 = O[an] := by simp [List.getD_eq_getElem?_getD, laO]
  have gX1 : X.getD (an + 1) 0 = X[an + 1] := by simp [List.getD_eq_getElem?_getD, laX1]
  have gO1 : O.getD (an + 1) 0 = O[an + 1] := by simp [List.getD_eq_getElem?_getD, laO1]
  rw [gX, gO, gX1, gO1] at HB
  skip
  clear gX gO gX1 gO1
  go_wp2_with fail
  refine (swappable_any (.slice A X.length c) (.slice A' O.length c') X O an w5 (hX0.below hbw) (hO0.below hbw) (by omega) laX1 laO1).mono ?_
  rintro e w6 ⟨rfl, hb6⟩
  rw [HB.out]
  have q0 := p0.below hb6 p0.lt
  have q1 := p1.below hb6 p1.lt
  have q2 := p2.below hb6 p2.lt
  have hbb := hbw.trans (hb6.mono hbw.size)
  clear y0 y1 m0 m2 m3 p0 p1 p2 hb6 hbw HB
  have y0 := q0.cell 0
  have y1 := q0.cell 1
  have m0 := q1.cell 0
  have m2 := q1.cell 2
  go_wp2_with fail
  refine (exchange_any (.slice A X.length c) (.slice A' O.length c') X O an w6 (hX0.below hbb) (hO0.below hbb) (by omega) HLL.out laX1).mono ?_
  rintro e w7 ⟨g7, rfl, ⟨A0, n0, c0, A1, n1, c1, rfl, hown0, hown1⟩, hb7⟩
  skip
  have q2' := q2.below hb7 q2.lt
  have hby := hbb.trans (hb7.mono hbb.size)
  have l2 := q2.lt
  have hsz := hbb.size
  have s0 := q2'.cell 0
  have s1 := q2'.cell 1
  have s2 := q2'.frozen 0
  have s3 := q2'.frozen 1
  have hres := Lib.hid ((q2'.set 0 (.slice A0 n0 c0)).set 1 (.slice A1 n1 c1))
  clear hb7
  go_wp2_with fail
  refine bodyPost_ret (v := .tuple #[.agg #[.slice A0 n0 c0, .slice A1 n1 c1], .int .i64 0]) (results_ct Tryz.results66 _ _ (w.heap.size + 2) 24 _ _ rfl hres.out Tryz.underlying24 rfl info_grid) rfl ?_
  exact ⟨bset2 (r := w.heap.size + 2) hby (by omega), _, _, _, _, _, _, rfl, ((hown0.far2 (r := w.heap.size + 2) l2).mono hsz).intsF, ((hown1.far2 (r := w.heap.size + 2) l2).mono hsz).intsF⟩
set_option maxRecDepth 100000 in
set_option maxHeartbeats 4000000 in
theorem refCols2N (vx vo : Value) (X O : List Int) (rows : Bool) (a v : Int) (w : World) (hX : Ints w vx X) (hO : Ints w vo O) (hv : Vd X O) (ha0 : 0 ≤ a) (ha1 : a < (X.length : Int) - 1) (hv0 : 0 ≤ v) (hv1 : v < 1) (hB : commB (X.getD a.toNat 0) (O.getD a.toNat 0) (X.getD (a.toNat + 1) 0) (O.getD (a.toNat + 1) 0) = false) :
    Calls Tryz.prog 66 #[.agg #[vx, vo], .agg #[.int .i64 2, .bool rows, .int .i64 a, .int .i64 v]] w (GRf w.heap.size w (6, [], [])) := by
  have HB := Lib.hid hB
  clear hB
  have hX0 := hX
  have hO0 := hO
  obtain ⟨A, c, rfl, hc, hh⟩ := hX
  obtain ⟨A', c', rfl, hc', hh'⟩ := hO
  clear hh hh'
  have h2 := hv.two
  have h40 := hv.most
  go_enter Tryz.func66, Tryz.ntmps66
  go_upto_region 6 with fail
  have hW : Arr (((((w.alloc (.cells #[.slice A X.length c, .slice A' O.length c'] 24)).alloc (.cells #[.int .i64 2, .bool rows, .int .i64 a, .int .i64 v] 85)).alloc (.cells #[.slice none 0 0, .slice none 0 0] 24)).alloc (.cells #[.int .i64 1, .int .i64 ((X.length : Int) - 1), .int .i64 (X.length : Int), .int .i64 ((X.length : Int) + 1)] 3)).alloc (.cells #[.int .i64 1, .int .i64 1, .int .i64 1, .int .i64 (2 * (X.length : Int))] 3)) w.heap.size 24 [.slice A X.length c, .slice A' O.length c'] ∧ Arr (((((w.alloc (.cells #[.slice A X.length c, .slice A' O.length c'] 24)).alloc (.cells #[.int .i64 2, .bool rows, .int .i64 a, .int .i64 v] 85)).alloc (.cells #[.slice none 0 0, .slice none 0 0] 24)).alloc (.cells #[.int .i64 1, .int .i64 ((X.length : Int) - 1), .int .i64 (X.length : Int), .int .i64 ((X.length : Int) + 1)] 3)).alloc (.cells #[.int .i64 1, .int .i64 1, .int .i64 1, .int .i64 (2 * (X.length : Int))] 3)) (w.heap.size + 1) 85 [.int .i64 2, .bool rows, .int .i64 a, .int .i64 v] ∧ Arr (((((w.alloc (.cells #[.slice A X.length c, .slice A' O.length c'] 24)).alloc (.cells #[.int .i64 2, .bool rows, .int .i64 a, .int .i64 v] 85)).alloc (.cells #[.slice none 0 0, .slice none 0 0] 24)).alloc (.cells #[.int .i64 1, .int .i64 ((X.length : Int) - 1), .int .i64 (X.length : Int), .int .i64 ((X.length : Int) + 1)] 3)).alloc (.cells #[.int .i64 1, .int .i64 1, .int .i64 1, .int .i64 (2 * (X.length : Int))] 3)) (w.heap.size + 2) 24 [.slice none 0 0, .slice none 0 0] ∧ Arr (((((w.alloc (.cells #[.slice A X.length c, .slice A' O.length c'] 24)).alloc (.cells #[.int .i64 2, .bool rows, .int .i64 a, .int .i64 v] 85)).alloc (.cells #[.slice none 0 0, .slice none 0 0] 24)).alloc (.cells #[.int .i64 1, .int .i64 ((X.length : Int) - 1), .int .i64 (X.length : Int), .int .i64 ((X.length : Int) + 1)] 3)).alloc (.cells #[.int .i64 1, .int .i64 1, .int .i64 1, .int .i64 (2 * (X.length : Int))] 3)) (w.heap.size + 3) 3 [.int .i64 1, .int .i64 ((X.length : Int) - 1), .int .i64 (X.length : Int), .int .i64 ((X.length : Int) + 1)] ∧ Arr (((((w.alloc (.cells #[.slice A X.length c, .slice A' O.length c'] 24)).alloc (.cells #[.int .i64 2, .bool rows, .int .i64 a, .int .i64 v] 85)).alloc (.cells #[.slice none 0 0, .slice none 0 0] 24)).alloc (.cells #[.int .i64 1, .int .i64 ((X.length : Int) - 1), .int .i64 (X.length : Int), .int .i64 ((X.length : Int) + 1)] 3)).alloc (.cells #[.int .i64 1, .int .i64 1, .int .i64 1, .int .i64 (2 * (X.length : Int))] 3)) (w.heap.size + 4) 3 [.int .i64 1, .int .i64 1, .int .i64 1, .int .i64 (2 * (X.length : Int))] ∧ Below w.heap.size w (((((w.alloc (.cells #[.slice A X.length c, .slice A' O.length c'] 24)).alloc (.cells #[.int .i64 2, .bool rows, .int .i64 a, .int .i64 v] 85)).alloc (.cells #[.slice none 0 0, .slice none 0 0] 24)).alloc (.cells #[.int .i64 1, .int .i64 ((X.length : Int) - 1), .int .i64 (X.length : Int), .int .i64 ((X.length : Int) + 1)] 3)).alloc (.cells #[.int .i64 1, .int .i64 1, .int .i64 1, .int .i64 (2 * (X.length : Int))] 3)) :=
    ⟨((((Arr.new _ _ [_, _]).alloc _).alloc _).alloc _).alloc _, (((Arr.newAt _ _ [_, _, _, _] _ (by simp)).alloc _).alloc _).alloc _, ((Arr.newAt _ _ [_, _] _ (by simp)).alloc _).alloc _, (Arr.newAt _ _ [_, _, _, _] _ (by simp)).alloc _, Arr.newAt _ _ [_, _, _, _] _ (by simp), by repeat (first | exact Below.refl _ _ | refine Below.alloc ?_ (by simp <;> omega) _)⟩
  generalize (((((w.alloc (.cells #[.slice A X.length c, .slice A' O.length c'] 24)).alloc (.cells #[.int .i64 2, .bool rows, .int .i64 a, .int .i64 v] 85)).alloc (.cells #[.slice none 0 0, .slice none 0 0] 24)).alloc (.cells #[.int .i64 1, .int .i64 ((X.length : Int) - 1), .int .i64 (X.length : Int), .int .i64 ((X.length : Int) + 1)] 3)).alloc (.cells #[.int .i64 1, .int .i64 1, .int .i64 1, .int .i64 (2 * (X.length : Int))] 3)) = w4 at hW ⊢
  obtain ⟨p0, p1, p2, p3, p4, hbw⟩ := hW
  have y0 := p0.cell 0
  have y1 := p0.cell 1
  have m0 := p1.cell 0
  have m2 := p1.cell 2
  have m3 := p1.cell 3
  have P0 := p3.cell 1
  have V0 := p4.cell 1
  have t1 : decide (a < 0) = false := by simp; omega
  have t2 : decide ((X.length : Int) - 1 ≤ a) = false := by simp; omega
  have t3 : decide (v < 0) = false := by simp; omega
  have t4 : decide (1 ≤ v) = false := by simp; omega
  go_quiet (fail)
  have hW : Arr (w4.drewN nq) w.heap.size 24 [.slice A X.length c, .slice A' O.length c'] ∧ Arr (w4.drewN nq) (w.heap.size + 1) 85 [.int .i64 2, .bool rows, .int .i64 a, .int .i64 v] ∧ Arr (w4.drewN nq) (w.heap.size + 2) 24 [.slice none 0 0, .slice none 0 0] ∧ Below w.heap.size w (w4.drewN nq) := ⟨p0.drewN _, p1.drewN _, p2.drewN _, bdrewN hbw _⟩
  clear m0 m2 m3 P0 V0 t1 t2 t3 t4 y0 y1 p0 p1 p2 p3 p4 hbw
  generalize w4.drewN nq = w5 at hW ⊢
  obtain ⟨p0, p1, p2, hbw⟩ := hW
  have HLL := Lib.hid hv.len
  have bX : ∀ x ∈ X, -1000 ≤ x ∧ x ≤ 1000 := fun x hx => by have := hv.pX.1 x hx; omega
  have bO : ∀ x ∈ O, -1000 ≤ x ∧ x ≤ 1000 := fun x hx => by have := hv.pO.1 x hx; have := hv.len; omega
  have BX := Lib.hid bX
  have BO := Lib.hid bO
  clear bX bO hv
  have lO : O.length ≤ 40 := by have := HLL.out; omega
  obtain ⟨an, rfl⟩ := Int.eq_ofNat_of_zero_le ha0
  have haO : an < O.length + 1 := by have := HLL.out; omega
  have y0 := p0.cell 0
  have y1 := p0.cell 1
  have m0 := p1.cell 0
  have m2 := p1.cell 2
  have m3 := p1.cell 3
  rw [Int.toNat_natCast] at HB
  have laX : an < X.length := by omega
  have laO : an < O.length := by have := HLL.out; omega
  have laX1 : an + 1 < X.length := by omega
  have laO1 : an + 1 < O.length := by have := HLL.out; omega
  have gX : X.getD an 0 = X[an] := by simp [List.getD_eq_getElem?_getD, laX]
  have gO : O.getD an 0 = O[an] := by simp [List.getD_eq_getElem?_getD, laO]
  have gX1 : X.getD (an + 1) 0 = X[an + 1] := by simp [List.getD_eq_getElem?_getD, laX1]
  have gO1 : O.getD (an + 1) 0 = O[an + 1] := by simp [List.getD_eq_getElem?_getD, laO1]
  rw [gX, gO, gX1, gO1] at HB
  skip
  clear gX gO gX1 gO1
  go_wp2_with fail
  refine (swappable_any (.slice A X.length c) (.slice A' O.length c') X O an w5 (hX0.below hbw) (hO0.below hbw) (by omega) laX1 laO1).mono ?_
  rintro e w6 ⟨rfl, hb6⟩
  rw [HB.out]
  have q0 := p0.below hb6 p0.lt
  have q1 := p1.below hb6 p1.lt
  have q2 := p2.below hb6 p2.lt
  have hbb := hbw.trans (hb6.mono hbw.size)
  clear y0 y1 m0 m2 m3 p0 p1 p2 hb6 hbw HB
  have y0 := q0.cell 0
  have y1 := q0.cell 1
  have m0 := q1.cell 0
  have m2 := q1.cell 2
  have s0 := q2.cell 0
  have s1 := q2.cell 1
  have s2 := q2.frozen 0
  have s3 := q2.frozen 1
  have hres := Lib.hid ((q2.set 0 (.slice none 0 0)).set 1 (.slice none 0 0))
  go_wp2_with fail
  refine bodyPost_ret (v := .tuple #[.agg #[.slice none 0 0, .slice none 0 0], .int .i64 6]) (results_ct Tryz.results66 _ _ (w.heap.size + 2) 24 _ _ rfl hres.out Tryz.underlying24 rfl info_grid) rfl ?_
  exact ⟨bset2 (r := w.heap.size + 2) hbb (by omega), _, _, _, _, _, _, rfl, (fun W _ => Ints.nil W), (fun W _ => Ints.nil W)⟩
set_option maxRecDepth 100000 in
set_option maxHeartbeats 4000000 in
theorem refCols3Y (vx vo : Value) (X O : List Int) (rows : Bool) (a v : Int) (w : World) (hX : Ints w vx X) (hO : Ints w vo O) (hv : Vd X O) (ha0 : 0 ≤ a) (ha1 : a < (X.length : Int)) (hv0 : 0 ≤ v) (hv1 : v < 1) (hB : remB X O (X.getD a.toNat 0) (O.getD a.toNat 0) = true) :
    Calls Tryz.prog 66 #[.agg #[vx, vo], .agg #[.int .i64 3, .bool rows, .int .i64 a, .int .i64 v]] w (GRf w.heap.size w (0, delL X a.toNat (minG (X.getD a.toNat 0) (O.getD a.toNat 0)), delL O a.toNat (minG (X.getD a.toNat 0) (O.getD a.toNat 0)))) := by
  have HB := Lib.hid hB
  clear hB
  have hX0 := hX
  have hO0 := hO
  obtain ⟨A, c, rfl, hc, hh⟩ := hX
  obtain ⟨A', c', rfl, hc', hh'⟩ := hO
  clear hh hh'
  have h2 := hv.two
  have h40 := hv.most
  go_enter Tryz.func66, Tryz.ntmps66
  go_upto_region 6 with fail
  have hW : Arr (((((w.alloc (.cells #[.slice A X.length c, .slice A' O.length c'] 24)).alloc (.cells #[.int .i64 3, .bool rows, .int .i64 a, .int .i64 v] 85)).alloc (.cells #[.slice none 0 0, .slice none 0 0] 24)).alloc (.cells #[.int .i64 1, .int .i64 ((X.length : Int) - 1), .int .i64 (X.length : Int), .int .i64 ((X.length : Int) + 1)] 3)).alloc (.cells #[.int .i64 1, .int .i64 1, .int .i64 1, .int .i64 (2 * (X.length : Int))] 3)) w.heap.size 24 [.slice A X.length c, .slice A' O.length c'] ∧ Arr (((((w.alloc (.cells #[.slice A X.length c, .slice A' O.length c'] 24)).alloc (.cells #[.int .i64 3, .bool rows, .int .i64 a, .int .i64 v] 85)).alloc (.cells #[.slice none 0 0, .slice none 0 0] 24)).alloc (.cells #[.int .i64 1, .int .i64 ((X.length : Int) - 1), .int .i64 (X.length : Int), .int .i64 ((X.length : Int) + 1)] 3)).alloc (.cells #[.int .i64 1, .int .i64 1, .int .i64 1, .int .i64 (2 * (X.length : Int))] 3)) (w.heap.size + 1) 85 [.int .i64 3, .bool rows, .int .i64 a, .int .i64 v] ∧ Arr (((((w.alloc (.cells #[.slice A X.length c, .slice A' O.length c'] 24)).alloc (.cells #[.int .i64 3, .bool rows, .int .i64 a, .int .i64 v] 85)).alloc (.cells #[.slice none 0 0, .slice none 0 0] 24)).alloc (.cells #[.int .i64 1, .int .i64 ((X.length : Int) - 1), .int .i64 (X.length : Int), .int .i64 ((X.length : Int) + 1)] 3)).alloc (.cells #[.int .i64 1, .int .i64 1, .int .i64 1, .int .i64 (2 * (X.length : Int))] 3)) (w.heap.size + 2) 24 [.slice none 0 0, .slice none 0 0] ∧ Arr (((((w.alloc (.cells #[.slice A X.length c, .slice A' O.length c'] 24)).alloc (.cells #[.int .i64 3, .bool rows, .int .i64 a, .int .i64 v] 85)).alloc (.cells #[.slice none 0 0, .slice none 0 0] 24)).alloc (.cells #[.int .i64 1, .int .i64 ((X.length : Int) - 1), .int .i64 (X.length : Int), .int .i64 ((X.length : Int) + 1)] 3)).alloc (.cells #[.int .i64 1, .int .i64 1, .int .i64 1, .int .i64 (2 * (X.length : Int))] 3)) (w.heap.size + 3) 3 [.int .i64 1, .int .i64 ((X.length : Int) - 1), .int .i64 (X.length : Int), .int .i64 ((X.length : Int) + 1)] ∧ Arr (((((w.alloc (.cells #[.slice A X.length c, .slice A' O.length c'] 24)).alloc (.cells #[.int .i64 3, .bool rows, .int .i64 a, .int .i64 v] 85)).alloc (.cells #[.slice none 0 0, .slice none 0 0] 24)).alloc (.cells #[.int .i64 1, .int .i64 ((X.length : Int) - 1), .int .i64 (X.length : Int), .int .i64 ((X.length : Int) + 1)] 3)).alloc (.cells #[.int .i64 1, .int .i64 1, .int .i64 1, .int .i64 (2 * (X.length : Int))] 3)) (w.heap.size + 4) 3 [.int .i64 1, .int .i64 1, .int .i64 1, .int .i64 (2 * (X.length : Int))] ∧ Below w.heap.size w (((((w.alloc (.cells #[.slice A X.length c, .slice A' O.length c'] 24)).alloc (.cells #[.int .i64 3, .bool rows, .int .i64 a, .int .i64 v] 85)).alloc (.cells #[.slice none 0 0, .slice none 0 0] 24)).alloc (.cells #[.int .i64 1, .int .i64 ((X.length : Int) - 1), .int .i64 (X.length : Int), .int .i64 ((X.length : Int) + 1)] 3)).alloc (.cells #[.int .i64 1, .int .i64 1, .int .i64 1, .int .i64 (2 * (X.length : Int))] 3)) :=
    ⟨((((Arr.new _ _ [_, _]).alloc _).alloc _).alloc _).alloc _, (((Arr.newAt _ _ [_, _, _, _] _ (by simp)).alloc _).alloc _).alloc _, ((Arr.newAt _ _ [_, _] _ (by simp)).alloc _).alloc _, (Arr.newAt _ _ [_, _, _, _] _ (by simp)).alloc _, Arr.newAt _ _ [_, _, _, _] _ (by simp), by repeat (first | exact Below.refl _ _ | refine Below.alloc ?_ (by simp <;> omega) _)⟩
  generalize (((((w.alloc (.cells #[.slice A X.length c, .slice A' O.length c'] 24)).alloc (.cells #[.int .i64 3, .bool rows, .int .i64 a, .int .i64 v] 85)).alloc (.cells #[.slice none 0 0, .slice none 0 0] 24)).alloc (.cells #[.int .i64 1, .int .i64 ((X.length : Int) - 1), .int .i64 (X.length : Int), .int .i64 ((X.length : Int) + 1)] 3)).alloc (.cells #[.int .i64 1, .int .i64 1, .int .i64 1, .int .i64 (2 * (X.length : Int))] 3)) = w4 at hW ⊢
  obtain ⟨p0, p1, p2, p3, p4, hbw⟩ := hW
  have y0 := p0.cell 0
  have y1 := p0.cell 1
  have m0 := p1.cell 0
  have m2 := p1.cell 2
  have m3 := p1.cell 3
  have P0 := p3.cell 2
  have V0 := p4.cell 2
  have t1 : decide (a < 0) = false := by simp; omega
  have t2 : decide ((X.length : Int) ≤ a) = false := by simp; omega
  have t3 : decide (v < 0) = false := by simp; omega
  have t4 : decide (1 ≤ v) = false := by simp; omega
  go_quiet (fail)
  have hW : Arr (w4.drewN nq) w.heap.size 24 [.slice A X.length c, .slice A' O.length c'] ∧ Arr (w4.drewN nq) (w.heap.size + 1) 85 [.int .i64 3, .bool rows, .int .i64 a, .int .i64 v] ∧ Arr (w4.drewN nq) (w.heap.size + 2) 24 [.slice none 0 0, .slice none 0 0] ∧ Below w.heap.size w (w4.drewN nq) := ⟨p0.drewN _, p1.drewN _, p2.drewN _, bdrewN hbw _⟩
  clear m0 m2 m3 P0 V0 t1 t2 t3 t4 y0 y1 p0 p1 p2 p3 p4 hbw
  generalize w4.drewN nq = w5 at hW ⊢
  obtain ⟨p0, p1, p2, hbw⟩ := hW
  have HLL := Lib.hid hv.len
  have bX : ∀ x ∈ X, -1000 ≤ x ∧ x ≤ 1000 := fun x hx => by have := hv.pX.1 x hx; omega
  have bO : ∀ x ∈ O, -1000 ≤ x ∧ x ≤ 1000 := fun x hx => by have := hv.pO.1 x hx; have := hv.len; omega
  have BX := Lib.hid bX
  have BO := Lib.hid bO
  clear bX bO hv
  have lO : O.length ≤ 40 := by have := HLL.out; omega
  obtain ⟨an, rfl⟩ := Int.eq_ofNat_of_zero_le ha0
  have haO : an < O.length + 1 := by have := HLL.out; omega
  have y0 := p0.cell 0
  have y1 := p0.cell 1
  have m0 := p1.cell 0
  have m2 := p1.cell 2
  have m3 := p1.cell 3
  rw [Int.toNat_natCast] at HB ⊢
  have laX : an < X.length := by omega
  have laO : an < O.length := by have := HLL.out; omega
  skip
  skip
  have gX : X.getD an 0 = X[an] := by simp [List.getD_eq_getElem?_getD, laX]
  have gO : O.getD an 0 = O[an] := by simp [List.getD_eq_getElem?_getD, laO]
  skip
  skip
  rw [gX, gO] at HB
  have E3 := Lib.hid (show minG X[an] O[an] = minG (X.getD (an : Int).toNat 0) (O.getD (an : Int).toNat 0) by rw [Int.toNat_natCast, gX, gO])
  clear gX gO
  go_wp2_with fail
  refine (removable_any (.slice A X.length c) (.slice A' O.length c') X O an w5 (hX0.below hbw) (hO0.below hbw) (by omega) (by omega) laX laO (BX.out _ (List.getElem_mem _)) (BO.out _ (List.getElem_mem _))).mono ?_
  rintro e w6 ⟨rfl, hb6⟩
  rw [HB.out]
  have q0 := p0.below hb6 p0.lt
  have q1 := p1.below hb6 p1.lt
  have q2 := p2.below hb6 p2.lt
  have hbb := hbw.trans (hb6.mono hbw.size)
  clear y0 y1 m0 m2 m3 p0 p1 p2 hb6 hbw HB
  have y0 := q0.cell 0
  have y1 := q0.cell 1
  have m0 := q1.cell 0
  have m2 := q1.cell 2
  go_wp2_with fail
  refine (remove_any (.slice A X.length c) (.slice A' O.length c') X O an w6 (hX0.below hbb) (hO0.below hbb) (by omega) (by omega) laX laO BX.out BO.out).mono ?_
  rintro e w7 ⟨g7, rfl, ⟨A0, n0, c0, A1, n1, c1, rfl, hown0, hown1⟩, hb7⟩
  rw [E3.out] at hown0 hown1
  have q2' := q2.below hb7 q2.lt
  have hby := hbb.trans (hb7.mono hbb.size)
  have l2 := q2.lt
  have hsz := hbb.size
  have s0 := q2'.cell 0
  have s1 := q2'.cell 1
  have s2 := q2'.frozen 0
  have s3 := q2'.frozen 1
  have hres := Lib.hid ((q2'.set 0 (.slice A0 n0 c0)).set 1 (.slice A1 n1 c1))
  clear hb7
  go_wp2_with fail
  refine bodyPost_ret (v := .tuple #[.agg #[.slice A0 n0 c0, .slice A1 n1 c1], .int .i64 0]) (results_ct Tryz.results66 _ _ (w.heap.size + 2) 24 _ _ rfl hres.out Tryz.underlying24 rfl info_grid) rfl ?_
  exact ⟨bset2 (r := w.heap.size + 2) hby (by omega), _, _, _, _, _, _, rfl, ((hown0.far2 (r := w.heap.size + 2) l2).mono hsz).intsF, ((hown1.far2 (r := w.heap.size + 2) l2).mono hsz).intsF⟩
set_option maxRecDepth 100000 in
set_option maxHeartbeats 4000000 in
theorem refCols3N (vx vo : Value) (X O : List Int) (rows : Bool) (a v : Int) (w : World) (hX : Ints w vx X) (hO : Ints w vo O) (hv : Vd X O) (ha0 : 0 ≤ a) (ha1 : a < (X.length : Int)) (hv0 : 0 ≤ v) (hv1 : v < 1) (hB : remB X O (X.getD a.toNat 0) (O.getD a.toNat 0) = false) :
    Calls Tryz.prog 66 #[.agg #[vx, vo], .agg #[.int .i64 3, .bool rows, .int .i64 a, .int .i64 v]] w (GRf w.heap.size w (6, [], [])) := by
  have HB := Lib.hid hB
  clear hB
  have hX0 := hX
  have hO0 := hO
  obtain ⟨A, c, rfl, hc, hh⟩ := hX
  obtain ⟨A', c', rfl, hc', hh'⟩ := hO
  clear hh hh'
  have h2 := hv.two
  have h40 := hv.most
  go_enter Tryz.func66, Tryz.ntmps66
  go_upto_region 6 with fail
  have hW : Arr (((((w.alloc (.cells #[.slice A X.length c, .slice A' O.length c'] 24)).alloc (.cells #[.int .i64 3, .bool rows, .int .i64 a, .int .i64 v] 85)).alloc (.cells #[.slice none 0 0, .slice none 0 0] 24)).alloc (.cells #[.int .i64 1, .int .i64 ((X.length : Int) - 1), .int .i64 (X.length : Int), .int .i64 ((X.length : Int) + 1)] 3)).alloc (.cells #[.int .i64 1, .int .i64 1, .int .i64 1, .int .i64 (2 * (X.length : Int))] 3)) w.heap.size 24 [.slice A X.length c, .slice A' O.length c'] ∧ Arr (((((w.alloc (.cells #[.slice A X.length c, .slice A' O.length c'] 24)).alloc (.cells #[.int .i64 3, .bool rows, .int .i64 a, .int .i64 v] 85)).alloc (.cells #[.slice none 0 0, .slice none 0 0] 24)).alloc (.cells #[.int .i64 1, .int .i64 ((X.length : Int) - 1), .int .i64 (X.length : Int), .int .i64 ((X.length : Int) + 1)] 3)).alloc (.cells #[.int .i64 1, .int .i64 1, .int .i64 1, .int .i64 (2 * (X.length : Int))] 3)) (w.heap.size + 1) 85 [.int .i64 3, .bool rows, .int .i64 a, .int .i64 v] ∧ Arr (((((w.alloc (.cells #[.slice A X.length c, .slice A' O.length c'] 24)).alloc (.cells #[.int .i64 3, .bool rows, .int .i64 a, .int .i64 v] 85)).alloc (.cells #[.slice none 0 0, .slice none 0 0] 24)).alloc (.cells #[.int .i64 1, .int .i64 ((X.length : Int) - 1), .int .i64 (X.length : Int), .int .i64 ((X.length : Int) + 1)] 3)).alloc (.cells #[.int .i64 1, .int .i64 1, .int .i64 1, .int .i64 (2 * (X.length : Int))] 3)) (w.heap.size + 2) 24 [.slice none 0 0, .slice none 0 0] ∧ Arr (((((w.alloc (.cells #[.slice A X.length c, .slice A' O.length c'] 24)).alloc (.cells #[.int .i64 3, .bool rows, .int .i64 a, .int .i64 v] 85)).alloc (.cells #[.slice none 0 0, .slice none 0 0] 24)).alloc (.cells #[.int .i64 1, .int .i64 ((X.length : Int) - 1), .int .i64 (X.length : Int), .int .i64 ((X.length : Int) + 1)] 3)).alloc (.cells #[.int .i64 1, .int .i64 1, .int .i64 1, .int .i64 (2 * (X.length : Int))] 3)) (w.heap.size + 3) 3 [.int .i64 1, .int .i64 ((X.length : Int) - 1), .int .i64 (X.length : Int), .int .i64 ((X.length : Int) + 1)] ∧ Arr (((((w.alloc (.cells #[.slice A X.length c, .slice A' O.length c'] 24)).alloc (.cells #[.int .i64 3, .bool rows, .int .i64 a, .int .i64 v] 85)).alloc (.cells #[.slice none 0 0, .slice none 0 0] 24)).alloc (.cells #[.int .i64 1, .int .i64 ((X.length : Int) - 1), .int .i64 (X.length : Int), .int .i64 ((X.length : Int) + 1)] 3)).alloc (.cells #[.int .i64 1, .int .i64 1, .int .i64 1, .int .i64 (2 * (X.length : Int))] 3)) (w.heap.size + 4) 3 [.int .i64 1, .int .i64 1, .int .i64 1, .int .i64 (2 * (X.length : Int))] ∧ Below w.heap.size w (((((w.alloc (.cells #[.slice A X.length c, .slice A' O.length c'] 24)).alloc (.cells #[.int .i64 3, .bool rows, .int .i64 a, .int .i64 v] 85)).alloc (.cells #[.slice none 0 0, .slice none 0 0] 24)).alloc (.cells #[.int .i64 1, .int .i64 ((X.length : Int) - 1), .int .i64 (X.length : Int), .int .i64 ((X.length : Int) + 1)] 3)).alloc (.cells #[.int .i64 1, .int .i64 1, .int .i64 1, .int .i64 (2 * (X.length : Int))] 3)) :=
    ⟨((((Arr.new _ _ [_, _]).alloc _).alloc _).alloc _).alloc _, (((Arr.newAt _ _ [_, _, _, _] _ (by simp)).alloc _).alloc _).alloc _, ((Arr.newAt _ _ [_, _] _ (by simp)).alloc _).alloc _, (Arr.newAt _ _ [_, _, _, _] _ (by simp)).alloc _, Arr.newAt _ _ [_, _, _, _] _ (by simp), by repeat (first | exact Below.refl _ _ | refine Below.alloc ?_ (by simp <;> omega) _)⟩
  generalize (((((w.alloc (.cells #[.slice A X.length c, .slice A' O.length c'] 24)).alloc (.cells #[.int .i64 3, .bool rows, .int .i64 a, .int .i64 v] 85)).alloc (.cells #[.slice none 0 0, .slice none 0 0] 24)).alloc (.cells #[.int .i64 1, .int .i64 ((X.length : Int) - 1), .int .i64 (X.length : Int), .int .i64 ((X.length : Int) + 1)] 3)).alloc (.cells #[.int .i64 1, .int .i64 1, .int .i64 1, .int .i64 (2 * (X.length : Int))] 3)) = w4 at hW ⊢
  obtain ⟨p0, p1, p2, p3, p4, hbw⟩ := hW
  have y0 := p0.cell 0
  have y1 := p0.cell 1
  have m0 := p1.cell 0
  have m2 := p1.cell 2
  have m3 := p1.cell 3
  have P0 := p3.cell 2
  have V0 := p4.cell 2
  have t1 : decide (a < 0) = false := by simp; omega
  have t2 : decide ((X.length : Int) ≤ a) = false := by simp; omega
  have t3 : decide (v < 0) = false := by simp; omega
  have t4 : decide (1 ≤ v) = false := by simp; omega
  go_quiet (fail)
  have hW : Arr (w4.drewN nq) w.heap.size 24 [.slice A X.length c, .slice A' O.length c'] ∧ Arr (w4.drewN nq) (w.heap.size + 1) 85 [.int .i64 3, .bool rows, .int .i64 a, .int .i64 v] ∧ Arr (w4.drewN nq) (w.heap.size + 2) 24 [.slice none 0 0, .slice none 0 0] ∧ Below w.heap.size w (w4.drewN nq) := ⟨p0.drewN _, p1.drewN _, p2.drewN _, bdrewN hbw _⟩
  clear m0 m2 m3 P0 V0 t1 t2 t3 t4 y0 y1 p0 p1 p2 p3 p4 hbw
  generalize w4.drewN nq = w5 at hW ⊢
  obtain ⟨p0, p1, p2, hbw⟩ := hW
  have HLL := Lib.hid hv.len
  have bX : ∀ x ∈ X, -1000 ≤ x ∧ x ≤ 1000 := fun x hx => by have := hv.pX.1 x hx; omega
  have bO : ∀ x ∈ O, -1000 ≤ x ∧ x ≤ 1000 := fun x hx => by have := hv.pO.1 x hx; have := hv.len; omega
  have BX := Lib.hid bX
  have BO := Lib.hid bO
  clear bX bO hv
  have lO : O.length ≤ 40 := by have := HLL.out; omega
  obtain ⟨an, rfl⟩ := Int.eq_ofNat_of_zero_le ha0
  have haO : an < O.length + 1 := by have := HLL.out; omega
  have y0 := p0.cell 0
  have y1 := p0.cell 1
  have m0 := p1.cell 0
  have m2 := p1.cell 2
  have m3 := p1.cell 3
  rw [Int.toNat_natCast] at HB
  have laX : an < X.length := by omega
  have laO : an < O.length := by have := HLL.out; omega
  skip
  skip
  have gX : X.getD an 0 = X[an] := by simp [List.getD_eq_getElem?_getD, laX]
  have gO : O.getD an 0 = O[an] := by simp [List.getD_eq_getElem?_getD, laO]
  skip
  skip
  rw [gX, gO] at HB
  skip
  clear gX gO
  go_wp2_with fail
  refine (removable_any (.slice A X.length c) (.slice A' O.length c') X O an w5 (hX0.below hbw) (hO0.below hbw) (by omega) (by omega) laX laO (BX.out _ (List.getElem_mem _)) (BO.out _ (List.getElem_mem _))).mono ?_
  rintro e w6 ⟨rfl, hb6⟩
  rw [HB.out]
  have q0 := p0.below hb6 p0.lt
  have q1 := p1.below hb6 p1.lt
  have q2 := p2.below hb6 p2.lt
  have hbb := hbw.trans (hb6.mono hbw.size)
  clear y0 y1 m0 m2 m3 p0 p1 p2 hb6 hbw HB
  have y0 := q0.cell 0
  have y1 := q0.cell 1
  have m0 := q1.cell 0
  have m2 := q1.cell 2
  have s0 := q2.cell 0
  have s1 := q2.cell 1
  have s2 := q2.frozen 0
  have s3 := q2.frozen 1
  have hres := Lib.hid ((q2.set 0 (.slice none 0 0)).set 1 (.slice none 0 0))
  go_wp2_with fail
  refine bodyPost_ret (v := .tuple #[.agg #[.slice none 0 0, .slice none 0 0], .int .i64 6]) (results_ct Tryz.results66 _ _ (w.heap.size + 2) 24 _ _ rfl hres.out Tryz.underlying24 rfl info_grid) rfl ?_
  exact ⟨bset2 (r := w.heap.size + 2) hbb (by omega), _, _, _, _, _, _, rfl, (fun W _ => Ints.nil W), (fun W _ => Ints.nil W)⟩
set_option maxRecDepth 100000 in
set_option maxHeartbeats 4000000 in
theorem refCols4F (vx vo : Value) (X O : List Int) (rows : Bool) (a v : Int) (w : World) (hX : Ints w vx X) (hO : Ints w vo O) (hv : Vd X O) (hfull : 40 ≤ X.length) (ha0 : 0 ≤ a) (ha1 : a < (X.length : Int) + 1) (hv0 : 0 ≤ v) (hv1 : v < 2 * (X.length : Int)) :
    Calls Tryz.prog 66 #[.agg #[vx, vo], .agg #[.int .i64 4, .bool rows, .int .i64 a, .int .i64 v]] w (GRf w.heap.size w (5, [], [])) := by
  have hX0 := hX
  have hO0 := hO
  obtain ⟨A, c, rfl, hc, hh⟩ := hX
  obtain ⟨A', c', rfl, hc', hh'⟩ := hO
  clear hh hh'
  have h2 := hv.two
  have h40 := hv.most
  go_enter Tryz.func66, Tryz.ntmps66
  go_upto_region 6 with fail
  have hW : Arr (((((w.alloc (.cells #[.slice A X.length c, .slice A' O.length c'] 24)).alloc (.cells #[.int .i64 4, .bool rows, .int .i64 a, .int .i64 v] 85)).alloc (.cells #[.slice none 0 0, .slice none 0 0] 24)).alloc (.cells #[.int .i64 1, .int .i64 ((X.length : Int) - 1), .int .i64 (X.length : Int), .int .i64 ((X.length : Int) + 1)] 3)).alloc (.cells #[.int .i64 1, .int .i64 1, .int .i64 1, .int .i64 (2 * (X.length : Int))] 3)) w.heap.size 24 [.slice A X.length c, .slice A' O.length c'] ∧ Arr (((((w.alloc (.cells #[.slice A X.length c, .slice A' O.length c'] 24)).alloc (.cells #[.int .i64 4, .bool rows, .int .i64 a, .int .i64 v] 85)).alloc (.cells #[.slice none 0 0, .slice none 0 0] 24)).alloc (.cells #[.int .i64 1, .int .i64 ((X.length : Int) - 1), .int .i64 (X.length : Int), .int .i64 ((X.length : Int) + 1)] 3)).alloc (.cells #[.int .i64 1, .int .i64 1, .int .i64 1, .int .i64 (2 * (X.length : Int))] 3)) (w.heap.size + 1) 85 [.int .i64 4, .bool rows, .int .i64 a, .int .i64 v] ∧ Arr (((((w.alloc (.cells #[.slice A X.length c, .slice A' O.length c'] 24)).alloc (.cells #[.int .i64 4, .bool rows, .int .i64 a, .int .i64 v] 85)).alloc (.cells #[.slice none 0 0, .slice none 0 0] 24)).alloc (.cells #[.int .i64 1, .int .i64 ((X.length : Int) - 1), .int .i64 (X.length : Int), .int .i64 ((X.length : Int) + 1)] 3)).alloc (.cells #[.int .i64 1, .int .i64 1, .int .i64 1, .int .i64 (2 * (X.length : Int))] 3)) (w.heap.size + 2) 24 [.slice none 0 0, .slice none 0 0] ∧ Arr (((((w.alloc (.cells #[.slice A X.length c, .slice A' O.length c'] 24)).alloc (.cells #[.int .i64 4, .bool rows, .int .i64 a, .int .i64 v] 85)).alloc (.cells #[.slice none 0 0, .slice none 0 0] 24)).alloc (.cells #[.int .i64 1, .int .i64 ((X.length : Int) - 1), .int .i64 (X.length : Int), .int .i64 ((X.length : Int) + 1)] 3)).alloc (.cells #[.int .i64 1, .int .i64 1, .int .i64 1, .int .i64 (2 * (X.length : Int))] 3)) (w.heap.size + 3) 3 [.int .i64 1, .int .i64 ((X.length : Int) - 1), .int .i64 (X.length : Int), .int .i64 ((X.length : Int) + 1)] ∧ Arr (((((w.alloc (.cells #[.slice A X.length c, .slice A' O.length c'] 24)).alloc (.cells #[.int .i64 4, .bool rows, .int .i64 a, .int .i64 v] 85)).alloc (.cells #[.slice none 0 0, .slice none 0 0] 24)).alloc (.cells #[.int .i64 1, .int .i64 ((X.length : Int) - 1), .int .i64 (X.length : Int), .int .i64 ((X.length : Int) + 1)] 3)).alloc (.cells #[.int .i64 1, .int .i64 1, .int .i64 1, .int .i64 (2 * (X.length : Int))] 3)) (w.heap.size + 4) 3 [.int .i64 1, .int .i64 1, .int .i64 1, .int .i64 (2 * (X.length : Int))] ∧ Below w.heap.size w (((((w.alloc (.cells #[.slice A X.length c, .slice A' O.length c'] 24)).alloc (.cells #[.int .i64 4, .bool rows, .int .i64 a, .int .i64 v] 85)).alloc (.cells #[.slice none 0 0, .slice none 0 0] 24)).alloc (.cells #[.int .i64 1, .int .i64 ((X.length : Int) - 1), .int .i64 (X.length : Int), .int .i64 ((X.length : Int) + 1)] 3)).alloc (.cells #[.int .i64 1, .int .i64 1, .int .i64 1, .int .i64 (2 * (X.length : Int))] 3)) :=
    ⟨((((Arr.new _ _ [_, _]).alloc _).alloc _).alloc _).alloc _, (((Arr.newAt _ _ [_, _, _, _] _ (by simp)).alloc _).alloc _).alloc _, ((Arr.newAt _ _ [_, _] _ (by simp)).alloc _).alloc _, (Arr.newAt _ _ [_, _, _, _] _ (by simp)).alloc _, Arr.newAt _ _ [_, _, _, _] _ (by simp), by repeat (first | exact Below.refl _ _ | refine Below.alloc ?_ (by simp <;> omega) _)⟩
  generalize (((((w.alloc (.cells #[.slice A X.length c, .slice A' O.length c'] 24)).alloc (.cells #[.int .i64 4, .bool rows, .int .i64 a, .int .i64 v] 85)).alloc (.cells #[.slice none 0 0, .slice none 0 0] 24)).alloc (.cells #[.int .i64 1, .int .i64 ((X.length : Int) - 1), .int .i64 (X.length : Int), .int .i64 ((X.length : Int) + 1)] 3)).alloc (.cells #[.int .i64 1, .int .i64 1, .int .i64 1, .int .i64 (2 * (X.length : Int))] 3)) = w4 at hW ⊢
  obtain ⟨p0, p1, p2, p3, p4, hbw⟩ := hW
  have y0 := p0.cell 0
  have y1 := p0.cell 1
  have m0 := p1.cell 0
  have m2 := p1.cell 2
  have m3 := p1.cell 3
  have P0 := p3.cell 3
  have V0 := p4.cell 3
  have t1 : decide (a < 0) = false := by simp; omega
  have t2 : decide ((X.length : Int) + 1 ≤ a) = false := by simp; omega
  have t3 : decide (v < 0) = false := by simp; omega
  have t4 : decide (2 * (X.length : Int) ≤ v) = false := by simp; omega
  go_quiet (fail)
  have hW : Arr (w4.drewN nq) w.heap.size 24 [.slice A X.length c, .slice A' O.length c'] ∧ Arr (w4.drewN nq) (w.heap.size + 1) 85 [.int .i64 4, .bool rows, .int .i64 a, .int .i64 v] ∧ Arr (w4.drewN nq) (w.heap.size + 2) 24 [.slice none 0 0, .slice none 0 0] ∧ Below w.heap.size w (w4.drewN nq) := ⟨p0.drewN _, p1.drewN _, p2.drewN _, bdrewN hbw _⟩
  clear m0 m2 m3 P0 V0 t1 t2 t3 t4 y0 y1 p0 p1 p2 p3 p4 hbw
  generalize w4.drewN nq = w5 at hW ⊢
  obtain ⟨p0, p1, p2, hbw⟩ := hW
  have HLL := Lib.hid hv.len
  have bX : ∀ x ∈ X, -1000 ≤ x ∧ x ≤ 1000 := fun x hx => by have := hv.pX.1 x hx; omega
  have bO : ∀ x ∈ O, -1000 ≤ x ∧ x ≤ 1000 := fun x hx => by have := hv.pO.1 x hx; have := hv.len; omega
  have BX := Lib.hid bX
  have BO := Lib.hid bO
  clear bX bO hv
  have lO : O.length ≤ 40 := by have := HLL.out; omega
  obtain ⟨an, rfl⟩ := Int.eq_ofNat_of_zero_le ha0
  have haO : an < O.length + 1 := by have := HLL.out; omega
  have y0 := p0.cell 0
  have y1 := p0.cell 1
  have m0 := p1.cell 0
  have m2 := p1.cell 2
  have m3 := p1.cell 3
  have t5 : (40 : Int) ≤ (X.length : Int) := by omega
  have s0 := p2.cell 0
  have s1 := p2.cell 1
  have s2 := p2.frozen 0
  have s3 := p2.frozen 1
  have hres := Lib.hid ((p2.set 0 (.slice none 0 0)).set 1 (.slice none 0 0))
  go_wp2_with fail
  refine bodyPost_ret (v := .tuple #[.agg #[.slice none 0 0, .slice none 0 0], .int .i64 5]) (results_ct Tryz.results66 _ _ (w.heap.size + 2) 24 _ _ rfl hres.out Tryz.underlying24 rfl info_grid) rfl ?_
  exact ⟨bset2 (r := w.heap.size + 2) hbw (by omega), _, _, _, _, _, _, rfl, (fun W _ => Ints.nil W), (fun W _ => Ints.nil W)⟩
set_option maxRecDepth 100000 in
set_option maxHeartbeats 4000000 in
theorem refCols4A (vx vo : Value) (X O : List Int) (rows : Bool) (a v : Int) (w : World) (hX : Ints w vx X) (hO : Ints w vo O) (hv : Vd X O) (hfull : X.length < 40) (ha0 : 0 ≤ a) (ha1 : a < (X.length : Int) + 1) (hv0 : 0 ≤ v) (hv1 : v < 2 * (X.length : Int)) (hpar : v.toNat % 2 = 0) :
    Calls Tryz.prog 66 #[.agg #[vx, vo], .agg #[.int .i64 4, .bool rows, .int .i64 a, .int .i64 v]] w (GRf w.heap.size w (0, addL X a.toNat (v.toNat / 2 : Nat) false ((v.toNat / 2 : Nat) + 1 : Int), addL O a.toNat (v.toNat / 2 : Nat) true ((v.toNat / 2 : Nat) : Int))) := by
  have hX0 := hX
  have hO0 := hO
  obtain ⟨A, c, rfl, hc, hh⟩ := hX
  obtain ⟨A', c', rfl, hc', hh'⟩ := hO
  clear hh hh'
  have h2 := hv.two
  have h40 := hv.most
  go_enter Tryz.func66, Tryz.ntmps66
  go_upto_region 6 with fail
  have hW : Arr (((((w.alloc (.cells #[.slice A X.length c, .slice A' O.length c'] 24)).alloc (.cells #[.int .i64 4, .bool rows, .int .i64 a, .int .i64 v] 85)).alloc (.cells #[.slice none 0 0, .slice none 0 0] 24)).alloc (.cells #[.int .i64 1, .int .i64 ((X.length : Int) - 1), .int .i64 (X.length : Int), .int .i64 ((X.length : Int) + 1)] 3)).alloc (.cells #[.int .i64 1, .int .i64 1, .int .i64 1, .int .i64 (2 * (X.length : Int))] 3)) w.heap.size 24 [.slice A X.length c, .slice A' O.length c'] ∧ Arr (((((w.alloc (.cells #[.slice A X.length c, .slice A' O.length c'] 24)).alloc (.cells #[.int .i64 4, .bool rows, .int .i64 a, .int .i64 v] 85)).alloc (.cells #[.slice none 0 0, .slice none 0 0] 24)).alloc (.cells #[.int .i64 1, .int .i64 ((X.length : Int) - 1), .int .i64 (X.length : Int), .int .i64 ((X.length : Int) + 1)] 3)).alloc (.cells #[.int .i64 1, .int .i64 1, .int .i64 1, .int .i64 (2 * (X.length : Int))] 3)) (w.heap.size + 1) 85 [.int .i64 4, .bool rows, .int .i64 a, .int .i64 v] ∧ Arr (((((w.alloc (.cells #[.slice A X.length c, .slice A' O.length c'] 24)).alloc (.cells #[.int .i64 4, .bool rows, .int .i64 a, .int .i64 v] 85)).alloc (.cells #[.slice none 0 0, .slice none 0 0] 24)).alloc (.cells #[.int .i64 1, .int .i64 ((X.length : Int) - 1), .int .i64 (X.length : Int), .int .i64 ((X.length : Int) + 1)] 3)).alloc (.cells #[.int .i64 1, .int .i64 1, .int .i64 1, .int .i64 (2 * (X.length : Int))] 3)) (w.heap.size + 2) 24 [.slice none 0 0, .slice none 0 0] ∧ Arr (((((w.alloc (.cells #[.slice A X.length c, .slice A' O.length c'] 24)).alloc (.cells #[.int .i64 4, .bool rows, .int .i64 a, .int .i64 v] 85)).alloc (.cells #[.slice none 0 0, .slice none 0 0] 24)).alloc (.cells #[.int .i64 1, .int .i64 ((X.length : Int) - 1), .int .i64 (X.length : Int), .int .i64 ((X.length : Int) + 1)] 3)).alloc (.cells #[.int .i64 1, .int .i64 1, .int .i64 1, .int .i64 (2 * (X.length : Int))] 3)) (w.heap.size + 3) 3 [.int .i64 1, .int .i64 ((X.length : Int) - 1), .int .i64 (X.length : Int), .int .i64 ((X.length : Int) + 1)] ∧ Arr (((((w.alloc (.cells #[.slice A X.length c, .slice A' O.length c'] 24)).alloc (.cells #[.int .i64 4, .bool rows, .int .i64 a, .int .i64 v] 85)).alloc (.cells #[.slice none 0 0, .slice none 0 0] 24)).alloc (.cells #[.int .i64 1, .int .i64 ((X.length : Int) - 1), .int .i64 (X.length : Int), .int .i64 ((X.length : Int) + 1)] 3)).alloc (.cells #[.int .i64 1, .int .i64 1, .int .i64 1, .int .i64 (2 * (X.length : Int))] 3)) (w.heap.size + 4) 3 [.int .i64 1, .int .i64 1, .int .i64 1, .int .i64 (2 * (X.length : Int))] ∧ Below w.heap.size w (((((w.alloc (.cells #[.slice A X.length c, .slice A' O.length c'] 24)).alloc (.cells #[.int .i64 4, .bool rows, .int .i64 a, .int .i64 v] 85)).alloc (.cells #[.slice none 0 0, .slice none 0 0] 24)).alloc (.cells #[.int .i64 1, .int .i64 ((X.length : Int) - 1), .int .i64 (X.length : Int), .int .i64 ((X.length : Int) + 1)] 3)).alloc (.cells #[.int .i64 1, .int .i64 1, .int .i64 1, .int .i64 (2 * (X.length : Int))] 3)) :=
    ⟨((((Arr.new _ _ [_, _]).alloc _).alloc _).alloc _).alloc _, (((Arr.newAt _ _ [_, _, _, _] _ (by simp)).alloc _).alloc _).alloc _, ((Arr.newAt _ _ [_, _] _ (by simp)).alloc _).alloc _, (Arr.newAt _ _ [_, _, _, _] _ (by simp)).alloc _, Arr.newAt _ _ [_, _, _, _] _ (by simp), by repeat (first | exact Below.refl _ _ | refine Below.alloc ?_ (by simp <;> omega) _)⟩
  generalize (((((w.alloc (.cells #[.slice A X.length c, .slice A' O.length c'] 24)).alloc (.cells #[.int .i64 4, .bool rows, .int .i64 a, .int .i64 v] 85)).alloc (.cells #[.slice none 0 0, .slice none 0 0] 24)).alloc (.cells #[.int .i64 1, .int .i64 ((X.length : Int) - 1), .int .i64 (X.length : Int), .int .i64 ((X.length : Int) + 1)] 3)).alloc (.cells #[.int .i64 1, .int .i64 1, .int .i64 1, .int .i64 (2 * (X.length : Int))] 3)) = w4 at hW ⊢
  obtain ⟨p0, p1, p2, p3, p4, hbw⟩ := hW
  have y0 := p0.cell 0
  have y1 := p0.cell 1
  have m0 := p1.cell 0
  have m2 := p1.cell 2
  have m3 := p1.cell 3
  have P0 := p3.cell 3
  have V0 := p4.cell 3
  have t1 : decide (a < 0) = false := by simp; omega
  have t2 : decide ((X.length : Int) + 1 ≤ a) = false := by simp; omega
  have t3 : decide (v < 0) = false := by simp; omega
  have t4 : decide (2 * (X.length : Int) ≤ v) = false := by simp; omega
  go_quiet (fail)
  have hW : Arr (w4.drewN nq) w.heap.size 24 [.slice A X.length c, .slice A' O.length c'] ∧ Arr (w4.drewN nq) (w.heap.size + 1) 85 [.int .i64 4, .bool rows, .int .i64 a, .int .i64 v] ∧ Arr (w4.drewN nq) (w.heap.size + 2) 24 [.slice none 0 0, .slice none 0 0] ∧ Below w.heap.size w (w4.drewN nq) := ⟨p0.drewN _, p1.drewN _, p2.drewN _, bdrewN hbw _⟩
  clear m0 m2 m3 P0 V0 t1 t2 t3 t4 y0 y1 p0 p1 p2 p3 p4 hbw
  generalize w4.drewN nq = w5 at hW ⊢
  obtain ⟨p0, p1, p2, hbw⟩ := hW
  have HLL := Lib.hid hv.len
  have bX : ∀ x ∈ X, -1000 ≤ x ∧ x ≤ 1000 := fun x hx => by have := hv.pX.1 x hx; omega
  have bO : ∀ x ∈ O, -1000 ≤ x ∧ x ≤ 1000 := fun x hx => by have := hv.pO.1 x hx; have := hv.len; omega
  have BX := Lib.hid bX
  have BO := Lib.hid bO
  clear bX bO hv
  have lO : O.length ≤ 40 := by have := HLL.out; omega
  obtain ⟨an, rfl⟩ := Int.eq_ofNat_of_zero_le ha0
  have haO : an < O.length + 1 := by have := HLL.out; omega
  have y0 := p0.cell 0
  have y1 := p0.cell 1
  have m0 := p1.cell 0
  have m2 := p1.cell 2
  have m3 := p1.cell 3
  have t5 : ¬ (40 : Int) ≤ (X.length : Int) := by omega
  obtain ⟨vn, rfl⟩ := Int.eq_ofNat_of_zero_le hv0
  rw [Int.toNat_natCast, Int.toNat_natCast] at *
  have e2 : (vn : Int) % 2 = 0 := by omega
  have e1 : (vn : Int) / 2 = ((vn / 2 : Nat) : Int) := by omega
  have hr : vn / 2 ≤ 1000 := by omega
  generalize vn / 2 = r at *
  have E2 := Lib.hid e2
  have E1 := Lib.hid e1
  clear e2 e1 hpar
  go_wp2_with fail
  rw [E1.out, E2.out]
  refine (add_any0 (.slice A X.length c) (.slice A' O.length c') X O an r w5 (hX0.below hbw) (hO0.below hbw) (by omega) (by omega) (by omega) (by omega) hr BX.out BO.out).mono ?_
  rintro e w7 ⟨g7, rfl, ⟨A0, n0, c0, A1, n1, c1, rfl, hown0, hown1⟩, hb7⟩
  skip
  have q2 := p2.below hb7 p2.lt
  have hby := hbw.trans (hb7.mono hbw.size)
  have l2 := p2.lt
  have hsz := hbw.size
  have s0 := q2.cell 0
  have s1 := q2.cell 1
  have s2 := q2.frozen 0
  have s3 := q2.frozen 1
  have hres := Lib.hid ((q2.set 0 (.slice A0 n0 c0)).set 1 (.slice A1 n1 c1))
  clear hb7
  go_wp2_with fail
  refine bodyPost_ret (v := .tuple #[.agg #[.slice A0 n0 c0, .slice A1 n1 c1], .int .i64 0]) (results_ct Tryz.results66 _ _ (w.heap.size + 2) 24 _ _ rfl hres.out Tryz.underlying24 rfl info_grid) rfl ?_
  exact ⟨bset2 (r := w.heap.size + 2) hby (by omega), _, _, _, _, _, _, rfl, ((hown0.far2 (r := w.heap.size + 2) l2).mono hsz).intsF, ((hown1.far2 (r := w.heap.size + 2) l2).mono hsz).intsF⟩
set_option maxRecDepth 100000 in
set_option maxHeartbeats 4000000 in
theorem refCols4B (vx vo : Value) (X O : List Int) (rows : Bool) (a v : Int) (w : World) (hX : Ints w vx X) (hO : Ints w vo O) (hv : Vd X O) (hfull : X.length < 40) (ha0 : 0 ≤ a) (ha1 : a < (X.length : Int) + 1) (hv0 : 0 ≤ v) (hv1 : v < 2 * (X.length : Int)) (hpar : v.toNat % 2 = 1) :
    Calls Tryz.prog 66 #[.agg #[vx, vo], .agg #[.int .i64 4, .bool rows, .int .i64 a, .int .i64 v]] w (GRf w.heap.size w (0, addL X a.toNat (v.toNat / 2 : Nat) true ((v.toNat / 2 : Nat) : Int), addL O a.toNat (v.toNat / 2 : Nat) false ((v.toNat / 2 : Nat) + 1 : Int))) := by
  have hX0 := hX
  have hO0 := hO
  obtain ⟨A, c, rfl, hc, hh⟩ := hX
  obtain ⟨A', c', rfl, hc', hh'⟩ := hO
  clear hh hh'
  have h2 := hv.two
  have h40 := hv.most
  go_enter Tryz.func66, Tryz.ntmps66
  go_upto_region 6 with fail
  have hW : Arr (((((w.alloc (.cells #[.slice A X.length c, .slice A' O.length c'] 24)).alloc (.cells #[.int .i64 4, .bool rows, .int .i64 a, .int .i64 v] 85)).alloc (.cells #[.slice none 0 0, .slice none 0 0] 24)).alloc (.cells #[.int .i64 1, .int .i64 ((X.length : Int) - 1), .int .i64 (X.length : Int), .int .i64 ((X.length : Int) + 1)] 3)).alloc (.cells #[.int .i64 1, .int .i64 1, .int .i64 1, .int .i64 (2 * (X.length : Int))] 3)) w.heap.size 24 [.slice A X.length c, .slice A' O.length c'] ∧ Arr (((((w.alloc (.cells #[.slice A X.length c, .slice A' O.length c'] 24)).alloc (.cells #[.int .i64 4, .bool rows, .int .i64 a, .int .i64 v] 85)).alloc (.cells #[.slice none 0 0, .slice none 0 0] 24)).alloc (.cells #[.int .i64 1, .int .i64 ((X.length : Int) - 1), .int .i64 (X.length : Int), .int .i64 ((X.length : Int) + 1)] 3)).alloc (.cells #[.int .i64 1, .int .i64 1, .int .i64 1, .int .i64 (2 * (X.length : Int))] 3)) (w.heap.size + 1) 85 [.int .i64 4, .bool rows, .int .i64 a, .int .i64 v] ∧ Arr (((((w.alloc (.cells #[.slice A X.length c, .slice A' O.length c'] 24)).alloc (.cells #[.int .i64 4, .bool rows, .int .i64 a, .int .i64 v] 85)).alloc (.cells #[.slice none 0 0, .slice none 0 0] 24)).alloc (.cells #[.int .i64 1, .int .i64 ((X.length : Int) - 1), .int .i64 (X.length : Int), .int .i64 ((X.length : Int) + 1)] 3)).alloc (.cells #[.int .i64 1, .int .i64 1, .int .i64 1, .int .i64 (2 * (X.length : Int))] 3)) (w.heap.size + 2) 24 [.slice none 0 0, .slice none 0 0] ∧ Arr (((((w.alloc (.cells #[.slice A X.length c, .slice A' O.length c'] 24)).alloc (.cells #[.int .i64 4, .bool rows, .int .i64 a, .int .i64 v] 85)).alloc (.cells #[.slice none 0 0, .slice none 0 0] 24)).alloc (.cells #[.int .i64 1, .int .i64 ((X.length : Int) - 1), .int .i64 (X.length : Int), .int .i64 ((X.length : Int) + 1)] 3)).alloc (.cells #[.int .i64 1, .int .i64 1, .int .i64 1, .int .i64 (2 * (X.length : Int))] 3)) (w.heap.size + 3) 3 [.int .i64 1, .int .i64 ((X.length : Int) - 1), .int .i64 (X.length : Int), .int .i64 ((X.length : Int) + 1)] ∧ Arr (((((w.alloc (.cells #[.slice A X.length c, .slice A' O.length c'] 24)).alloc (.cells #[.int .i64 4, .bool rows, .int .i64 a, .int .i64 v] 85)).alloc (.cells #[.slice none 0 0, .slice none 0 0] 24)).alloc (.cells #[.int .i64 1, .int .i64 ((X.length : Int) - 1), .int .i64 (X.length : Int), .int .i64 ((X.length : Int) + 1)] 3)).alloc (.cells #[.int .i64 1, .int .i64 1, .int .i64 1, .int .i64 (2 * (X.length : Int))] 3)) (w.heap.size + 4) 3 [.int .i64 1, .int .i64 1, .int .i64 1, .int .i64 (2 * (X.length : Int))] ∧ Below w.heap.size w (((((w.alloc (.cells #[.slice A X.length c, .slice A' O.length c'] 24)).alloc (.cells #[.int .i64 4, .bool rows, .int .i64 a, .int .i64 v] 85)).alloc (.cells #[.slice none 0 0, .slice none 0 0] 24)).alloc (.cells #[.int .i64 1, .int .i64 ((X.length : Int) - 1), .int .i64 (X.length : Int), .int .i64 ((X.length : Int) + 1)] 3)).alloc (.cells #[.int .i64 1, .int .i64 1, .int .i64 1, .int .i64 (2 * (X.length : Int))] 3)) :=
    ⟨((((Arr.new _ _ [_, _]).alloc _).alloc _).alloc _).alloc _, (((Arr.newAt _ _ [_, _, _, _] _ (by simp)).alloc _).alloc _).alloc _, ((Arr.newAt _ _ [_, _] _ (by simp)).alloc _).alloc _, (Arr.newAt _ _ [_, _, _, _] _ (by simp)).alloc _, Arr.newAt _ _ [_, _, _, _] _ (by simp), by repeat (first | exact Below.refl _ _ | refine Below.alloc ?_ (by simp <;> omega) _)⟩
  generalize (((((w.alloc (.cells #[.slice A X.length c, .slice A' O.length c'] 24)).alloc (.cells #[.int .i64 4, .bool rows, .int .i64 a, .int .i64 v] 85)).alloc (.cells #[.slice none 0 0, .slice none 0 0] 24)).alloc (.cells #[.int .i64 1, .int .i64 ((X.length : Int) - 1), .int .i64 (X.length : Int), .int .i64 ((X.length : Int) + 1)] 3)).alloc (.cells #[.int .i64 1, .int .i64 1, .int .i64 1, .int .i64 (2 * (X.length : Int))] 3)) = w4 at hW ⊢
  obtain ⟨p0, p1, p2, p3, p4, hbw⟩ := hW
  have y0 := p0.cell 0
  have y1 := p0.cell 1
  have m0 := p1.cell 0
  have m2 := p1.cell 2
  have m3 := p1.cell 3
  have P0 := p3.cell 3
  have V0 := p4.cell 3
  have t1 : decide (a < 0) = false := by simp; omega
  have t2 : decide ((X.length : Int) + 1 ≤ a) = false := by simp; omega
  have t3 : decide (v < 0) = false := by simp; omega
  have t4 : decide (2 * (X.length : Int) ≤ v) = false := by simp; omega
  go_quiet (fail)
  have hW : Arr (w4.drewN nq) w.heap.size 24 [.slice A X.length c, .slice A' O.length c'] ∧ Arr (w4.drewN nq) (w.heap.size + 1) 85 [.int .i64 4, .bool rows, .int .i64 a, .int .i64 v] ∧ Arr (w4.drewN nq) (w.heap.size + 2) 24 [.slice none 0 0, .slice none 0 0] ∧ Below w.heap.size w (w4.drewN nq) := ⟨p0.drewN _, p1.drewN _, p2.drewN _, bdrewN hbw _⟩
  clear m0 m2 m3 P0 V0 t1 t2 t3 t4 y0 y1 p0 p1 p2 p3 p4 hbw
  generalize w4.drewN nq = w5 at hW ⊢
  obtain ⟨p0, p1, p2, hbw⟩ := hW
  have HLL := Lib.hid hv.len
  have bX : ∀ x ∈ X, -1000 ≤ x ∧ x ≤ 1000 := fun x hx => by have := hv.pX.1 x hx; omega
  have bO : ∀ x ∈ O, -1000 ≤ x ∧ x ≤ 1000 := fun x hx => by have := hv.pO.1 x hx; have := hv.len; omega
  have BX := Lib.hid bX
  have BO := Lib.hid bO
  clear bX bO hv
  have lO : O.length ≤ 40 := by have := HLL.out; omega
  obtain ⟨an, rfl⟩ := Int.eq_ofNat_of_zero_le ha0
  have haO : an < O.length + 1 := by have := HLL.out; omega
  have y0 := p0.cell 0
  have y1 := p0.cell 1
  have m0 := p1.cell 0
  have m2 := p1.cell 2
  have m3 := p1.cell 3
  have t5 : ¬ (40 : Int) ≤ (X.length : Int) := by omega
  obtain ⟨vn, rfl⟩ := Int.eq_ofNat_of_zero_le hv0
  rw [Int.toNat_natCast, Int.toNat_natCast] at *
  have e2 : (vn : Int) % 2 = 1 := by omega
  have e1 : (vn : Int) / 2 = ((vn / 2 : Nat) : Int) := by omega
  have hr : vn / 2 ≤ 1000 := by omega
  generalize vn / 2 = r at *
  have E2 := Lib.hid e2
  have E1 := Lib.hid e1
  clear e2 e1 hpar
  go_wp2_with fail
  rw [E1.out, E2.out]
  refine (add_any1 (.slice A X.length c) (.slice A' O.length c') X O an r w5 (hX0.below hbw) (hO0.below hbw) (by omega) (by omega) (by omega) (by omega) hr BX.out BO.out).mono ?_
  rintro e w7 ⟨g7, rfl, ⟨A0, n0, c0, A1, n1, c1, rfl, hown0, hown1⟩, hb7⟩
  skip
  have q2 := p2.below hb7 p2.lt
  have hby := hbw.trans (hb7.mono hbw.size)
  have l2 := p2.lt
  have hsz := hbw.size
  have s0 := q2.cell 0
  have s1 := q2.cell 1
  have s2 := q2.frozen 0
  have s3 := q2.frozen 1
  have hres := Lib.hid ((q2.set 0 (.slice A0 n0 c0)).set 1 (.slice A1 n1 c1))
  clear hb7
  go_wp2_with fail
  refine bodyPost_ret (v := .tuple #[.agg #[.slice A0 n0 c0, .slice A1 n1 c1], .int .i64 0]) (results_ct Tryz.results66 _ _ (w.heap.size + 2) 24 _ _ rfl hres.out Tryz.underlying24 rfl info_grid) rfl ?_
  exact ⟨bset2 (r := w.heap.size + 2) hby (by omega), _, _, _, _, _, _, rfl, ((hown0.far2 (r := w.heap.size + 2) l2).mono hsz).intsF, ((hown1.far2 (r := w.heap.size + 2) l2).mono hsz).intsF⟩
set_option maxRecDepth 100000 in
set_option maxHeartbeats 4000000 in
theorem refColsK (vx vo : Value) (X O : List Int) (rows : Bool) (k a v : Int) (w : World) (hX : Ints w vx X) (hO : Ints w vo O) (hk : k < 1 ∨ 4 < k) :
    Calls Tryz.prog 66 #[.agg #[vx, vo], .agg #[.int .i64 k, .bool rows, .int .i64 a, .int .i64 v]] w (GRf w.heap.size w (11, [], [])) := by
  obtain ⟨A, c, rfl, hc, hh⟩ := hX
  obtain ⟨A', c', rfl, hc', hh'⟩ := hO
  clear hh hh'
  by_cases h1 : k < 1
  · have t : decide (k < 1) = true := by simpa using h1
    clear h1 hk
    go_enter Tryz.func66, Tryz.ntmps66
    go_wp2_with fail
    refine bodyPost_ret (v := .tuple #[.agg #[.slice none 0 0, .slice none 0 0], .int .i64 11]) (by simp [results, Tryz.results66, go_sem]) rfl ?_
    exact ⟨by repeat (first | exact Below.refl _ _ | refine Below.setCell ?_ (by show w.heap.size ≤ w.heap.size + 2; omega) _ | refine Below.alloc ?_ (by simp <;> omega) _), _, _, _, _, _, _, rfl, (fun W _ => Ints.nil W), (fun W _ => Ints.nil W)⟩
  · have t : decide (k < 1) = false := by simpa using h1
    have t2 : decide (4 < k) = true := by simp; omega
    clear h1 hk
    go_enter Tryz.func66, Tryz.ntmps66
    go_wp2_with fail
    refine bodyPost_ret (v := .tuple #[.agg #[.slice none 0 0, .slice none 0 0], .int .i64 11]) (by simp [results, Tryz.results66, go_sem]) rfl ?_
    exact ⟨by repeat (first | exact Below.refl _ _ | refine Below.setCell ?_ (by show w.heap.size ≤ w.heap.size + 2; omega) _ | refine Below.alloc ?_ (by simp <;> omega) _), _, _, _, _, _, _, rfl, (fun W _ => Ints.nil W), (fun W _ => Ints.nil W)⟩
end Go.Proofs.YteliflcbegcdlaaGreatDoor

namespace Go.Proofs.YteliflcbegcdlaaGreatDoor
open Go.RowKit
set_option linter.unusedVariables false
theorem colIx_of {l : List Int} (h : l.Nodup) {i : Nat} (hi : i < l.length) {y : Int} (hy : l[i] = y) : colIx l y = i := by
  subst hy
  unfold colIx
  rw [if_pos (List.getElem_mem hi)]
  have := h.idxOf_getElem i hi
  rw [this]
theorem remB_eq {X O : List Int} {a : Nat} (h : Vd X O) (ha : a < X.length) : remB X O (X.getD a 0) (O.getD a 0) = desOk X O a (X.getD a 0) (O.getD a 0) := by
  have hO : a < O.length := by have := h.len; omega
  have gX : X.getD a 0 = X[a] := by simp [List.getD_eq_getElem?_getD, ha]
  have gO : O.getD a 0 = O[a] := by simp [List.getD_eq_getElem?_getD, hO]
  rw [gX, gO]
  have hne := h.ne a ha hO
  have hlen := h.len
  unfold remB desOk
  by_cases h1 : X.length < 3 ∨ (X[a] - O[a] ≠ 1 ∧ O[a] - X[a] ≠ 1)
  · rw [if_pos h1]
    have : (decide (3 ≤ X.length) && decide (maxG X[a] O[a] = minG X[a] O[a] + 1)) = false := by
      rcases h1 with h1 | h1
      · simp; omega
      · have : ¬ maxG X[a] O[a] = minG X[a] O[a] + 1 := by unfold maxG minG; split <;> split <;> omega
        simp [this]
    rw [this]
    rfl
  · rw [if_neg h1]
    have h3 : decide (3 ≤ X.length) = true := by simp; omega
    have h4 : decide (maxG X[a] O[a] = minG X[a] O[a] + 1) = true := by
      simp only [decide_eq_true_eq]; unfold maxG minG; split <;> split <;> omega
    rw [h3, h4, Bool.true_and, Bool.true_and]
    have gx := h.pX.get ha
    have go := h.pO.get hO
    obtain ⟨i, hi, hix⟩ := h.pO.surj (j := X[a].toNat) (by omega)
    obtain ⟨j, hj, hjx⟩ := h.pX.surj (j := O[a].toNat) (by omega)
    replace hix : O[i] = X[a] := by rw [hix]; omega
    replace hjx : X[j] = O[a] := by rw [hjx]; omega
    rw [colIx_of h.pO.2 hi hix, colIx_of h.pX.2 hj hjx]
    by_cases e : i = j
    · subst e
      have : desAll a X[a] O[a] 0 X O ≠ true := fun hd => desAll_spec a X[a] O[a] X O 0 hlen hd i hj hi (fun e => by
        rw [Nat.zero_add] at e; subst e; exact hne hix.symm) ⟨hix, hjx⟩
      simp [Bool.eq_false_iff.2 this]
    · have : desAll a X[a] O[a] 0 X O = true := desAll_of a X[a] O[a] X O 0 hlen (fun k hk hk' _ => by
        rintro ⟨e1, e2⟩
        have h1 : k = i := h.pO.inj hk' hi (e1.trans hix.symm)
        have h2 : k = j := h.pX.inj hk hj (e2.trans hjx.symm)
        exact e (h1.symm.trans h2))
      rw [this]
      simp only [bne_iff_ne, ne_eq]
      omega
/-- what the reference's columns returns -/
def refColsM (X O : List Int) (k a v : Int) : Int × List Int × List Int :=
  if ¬ (1 ≤ k ∧ k ≤ 4) then (11, [], [])
  else if a < 0 ∨ limAt k X.length ≤ a ∨ v < 0 ∨ limVar k X.length ≤ v then (2, [], [])
  else colsL X O k a.toNat v.toNat
theorem refCols_any (vx vo : Value) (X O : List Int) (rows : Bool) (k a v : Int) (w : World) (hX : Ints w vx X) (hO : Ints w vo O) (hv : Vd X O) :
    Calls Tryz.prog 66 #[.agg #[vx, vo], .agg #[.int .i64 k, .bool rows, .int .i64 a, .int .i64 v]] w (GRf w.heap.size w (refColsM X O k a v)) := by
  unfold refColsM
  by_cases hk : 1 ≤ k ∧ k ≤ 4
  rotate_left
  · rw [if_pos hk]
    exact refColsK vx vo X O rows k a v w hX hO (by omega)
  rw [if_neg (by simpa using hk)]
  by_cases hr : a < 0 ∨ limAt k X.length ≤ a ∨ v < 0 ∨ limVar k X.length ≤ v
  · rw [if_pos hr]
    obtain rfl | rfl | rfl | rfl : k = 1 ∨ k = 2 ∨ k = 3 ∨ k = 4 := by omega
    · exact refColsR1 vx vo X O rows a v w hX hO hv (by simpa [limAt, limVar] using hr)
    · exact refColsR2 vx vo X O rows a v w hX hO hv (by simpa [limAt, limVar] using hr)
    · exact refColsR3 vx vo X O rows a v w hX hO hv (by simpa [limAt, limVar] using hr)
    · exact refColsR4 vx vo X O rows a v w hX hO hv (by simpa [limAt, limVar] using hr)
  · rw [if_neg hr]
    have h2 := hv.two
    have h40 := hv.most
    obtain rfl | rfl | rfl | rfl : k = 1 ∨ k = 2 ∨ k = 3 ∨ k = 4 := by omega
    · simp [limAt, limVar] at hr
      refine (refCols1 vx vo X O rows a v w hX hO hv (by omega) (by omega) (by omega) (by omega)).mono ?_
      rintro e w' ⟨g, rfl, ⟨A0, n0, c0, A1, n1, c1, rfl, h0, h1⟩, hb⟩
      exact ⟨hb, _, _, _, _, _, _, rfl, h0.intsF, h1.intsF⟩
    · simp [limAt, limVar] at hr
      have e : colsL X O 2 a.toNat v.toNat = if commB (X.getD a.toNat 0) (O.getD a.toNat 0) (X.getD (a.toNat + 1) 0) (O.getD (a.toNat + 1) 0) = true then (0, swapL X a.toNat, swapL O a.toNat) else (6, [], []) := rfl
      rw [e]
      split
      · rename_i hB; exact refCols2Y vx vo X O rows a v w hX hO hv (by omega) (by omega) (by omega) (by omega) hB
      · rename_i hB; exact refCols2N vx vo X O rows a v w hX hO hv (by omega) (by omega) (by omega) (by omega) (by simpa using hB)
    · simp [limAt, limVar] at hr
      have e : colsL X O 3 a.toNat v.toNat = if remB X O (X.getD a.toNat 0) (O.getD a.toNat 0) = true then (0, delL X a.toNat (minG (X.getD a.toNat 0) (O.getD a.toNat 0)), delL O a.toNat (minG (X.getD a.toNat 0) (O.getD a.toNat 0))) else (6, [], []) := by
        rw [remB_eq hv (by omega)]; rfl
      rw [e]
      split
      · rename_i hB; exact refCols3Y vx vo X O rows a v w hX hO hv (by omega) (by omega) (by omega) (by omega) hB
      · rename_i hB; exact refCols3N vx vo X O rows a v w hX hO hv (by omega) (by omega) (by omega) (by omega) (by simpa using hB)
    · simp [limAt, limVar] at hr
      by_cases hf : X.length = 40
      · have e : colsL X O 4 a.toNat v.toNat = (5, [], []) := by simp [colsL, hf]
        rw [e]
        exact refCols4F vx vo X O rows a v w hX hO hv (by omega) (by omega) (by omega) (by omega) (by omega)
      · by_cases hp : v.toNat % 2 = 0
        · have e : colsL X O 4 a.toNat v.toNat = (0, addL X a.toNat (v.toNat / 2 : Nat) false ((v.toNat / 2 : Nat) + 1 : Int), addL O a.toNat (v.toNat / 2 : Nat) true ((v.toNat / 2 : Nat) : Int)) := by simp [colsL, hf, hp]
          rw [e]
          exact refCols4A vx vo X O rows a v w hX hO hv (by omega) (by omega) (by omega) (by omega) (by omega) hp
        · have hp' : v.toNat % 2 = 1 := by omega
          have e : colsL X O 4 a.toNat v.toNat = (0, addL X a.toNat (v.toNat / 2 : Nat) true ((v.toNat / 2 : Nat) : Int), addL O a.toNat (v.toNat / 2 : Nat) false ((v.toNat / 2 : Nat) + 1 : Int)) := by simp [colsL, hf, hp']
          rw [e]
          exact refCols4B vx vo X O rows a v w hX hO hv (by omega) (by omega) (by omega) (by omega) (by omega) hp'
def refApplyM (X O : List Int) (k : Int) (rows : Bool) (a v : Int) : Int × List Int × List Int :=
  if rows = false then refColsM X O k a v
  else if (refColsM (tr X) (tr O) k a v).1 = 0 then (0, tr (refColsM (tr X) (tr O) k a v).2.1, tr (refColsM (tr X) (tr O) k a v).2.2)
  else ((refColsM (tr X) (tr O) k a v).1, [], [])
theorem refApplyM_eq {X O : List Int} {k a v : Int} {rows : Bool} (h : Vd X O) : refApplyM X O k rows a v = applyM X O k rows a v := by
  have h2 := h.two
  have hz := limAt_zero (k := k) (n := X.length) (by omega)
  unfold applyM
  rw [if_neg (by rw [(validB_iff X O).2 h]; simp)]
  by_cases hk : 1 ≤ k ∧ k ≤ 4
  rotate_left
  · rw [if_pos (hz.2 hk)]
    simp only [refApplyM, refColsM, if_pos hk]
    cases rows <;> simp
  rw [if_neg (by rw [hz]; simpa using hk)]
  by_cases hr : a < 0 ∨ limAt k X.length ≤ a ∨ v < 0 ∨ limVar k X.length ≤ v
  · rw [if_pos hr]
    simp only [refApplyM, refColsM, if_neg (show ¬ ¬ (1 ≤ k ∧ k ≤ 4) by simpa using hk), tr_length, if_pos hr]
    cases rows <;> simp
  · rw [if_neg hr]
    have ha : a.toNat < limAt k X.length := by omega
    simp only [refApplyM, refColsM, if_neg (show ¬ ¬ (1 ≤ k ∧ k ≤ 4) by simpa using hk), tr_length, if_neg hr]
    rw [colsM_eq h2 h.len hk ha, colsM_eq (X := tr X) (O := tr O) (by rw [tr_length]; exact h2) (by rw [tr_length, tr_length]; exact h.len) hk (by rw [tr_length]; exact ha)]
end Go.Proofs.YteliflcbegcdlaaGreatDoor
