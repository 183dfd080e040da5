/- The reference's Apply. -/
import Derived.Test.YteliflcbegcdlaaGreatDoorWwRca
import Derived.Test.YteliflcbegcdlaaGreatDoorWwFresh
namespace Go.Proofs.YteliflcbegcdlaaGreatDoor
open Go.RowKit
set_option linter.unusedVariables false
theorem refColsM_vd {X O : List Int} {k a v : Int} (h : Vd X O) (h0 : (refColsM X O k a v).1 = 0) : Vd (refColsM X O k a v).2.1 (refColsM X O k a v).2.2 := by
  unfold refColsM at h0 ⊢
  by_cases hk : 1 ≤ k ∧ k ≤ 4
  rotate_left
  · rw [if_pos hk] at h0; cases h0
  rw [if_neg (by simpa using hk)] at h0 ⊢
  by_cases hr : a < 0 ∨ limAt k X.length ≤ a ∨ v < 0 ∨ limVar k X.length ≤ v
  · rw [if_pos hr] at h0; cases h0
  rw [if_neg hr] at h0 ⊢
  exact colsL_vd h hk (by omega) (by omega) h0
set_option maxHeartbeats 1000000 in
theorem refApplyC (vx vo : Value) (X O : List Int) (k a v : Int) (w : World) (hX : Ints w vx X) (hO : Ints w vo O) (hv : Vd X O) :
    Calls Tryz.prog 43 #[.agg #[vx, vo], .agg #[.int .i64 k, .bool false, .int .i64 a, .int .i64 v]] w (GRd w.heap.size w (refApplyM X O k false a v)) := by
  have E := Lib.hid (show refColsM X O k a v = refApplyM X O k false a v from rfl)
  have hX0 := hX
  have hO0 := hO
  obtain ⟨A, c, rfl, hc, hh⟩ := hX
  obtain ⟨A', c', rfl, hc', hh'⟩ := hO
  clear hh hh'
  go_enter Tryz.func43, Tryz.ntmps43
  go_upto_region 2 with fail
  have hW : Arr (((w.alloc (.cells #[.slice A X.length c, .slice A' O.length c'] 24)).alloc (.cells #[.int .i64 k, .bool false, .int .i64 a, .int .i64 v] 85)).alloc (.cells #[.slice none 0 0, .slice none 0 0] 24)) w.heap.size 24 [.slice A X.length c, .slice A' O.length c'] ∧ Arr (((w.alloc (.cells #[.slice A X.length c, .slice A' O.length c'] 24)).alloc (.cells #[.int .i64 k, .bool false, .int .i64 a, .int .i64 v] 85)).alloc (.cells #[.slice none 0 0, .slice none 0 0] 24)) (w.heap.size + 1) 85 [.int .i64 k, .bool false, .int .i64 a, .int .i64 v] ∧ Arr (((w.alloc (.cells #[.slice A X.length c, .slice A' O.length c'] 24)).alloc (.cells #[.int .i64 k, .bool false, .int .i64 a, .int .i64 v] 85)).alloc (.cells #[.slice none 0 0, .slice none 0 0] 24)) (w.heap.size + 2) 24 [.slice none 0 0, .slice none 0 0] ∧ Below w.heap.size w (((w.alloc (.cells #[.slice A X.length c, .slice A' O.length c'] 24)).alloc (.cells #[.int .i64 k, .bool false, .int .i64 a, .int .i64 v] 85)).alloc (.cells #[.slice none 0 0, .slice none 0 0] 24)) :=
    ⟨((Arr.new _ _ [_, _]).alloc _).alloc _, (Arr.newAt (w.alloc _) _ [_, _, _, _] _ (by simp)).alloc _, Arr.newAt ((w.alloc _).alloc _) _ [_, _] _ (by simp), (((Below.refl _ _).alloc (Nat.le_refl _) _).alloc (by simp) _).alloc (by simp <;> omega) _⟩
  generalize (((w.alloc (.cells #[.slice A X.length c, .slice A' O.length c'] 24)).alloc (.cells #[.int .i64 k, .bool false, .int .i64 a, .int .i64 v] 85)).alloc (.cells #[.slice none 0 0, .slice none 0 0] 24)) = w5 at hW ⊢
  obtain ⟨p0, p1, p2, hbw5⟩ := hW
  have y0 := p0.cell 0
  have y1 := p0.cell 1
  have z0 := p1.cell 0
  have z1 := p1.cell 1
  have z2 := p1.cell 2
  have z3 := p1.cell 3
  go_wp2_with fail
  refine (refCols_any _ _ X O false k a v _ (hX0.below hbw5) (hO0.below hbw5) hv).mono ?_
  rw [E.out]
  rintro e w7 ⟨hb7, A0, n0, c0, A1, n1, c1, rfl, i0, i1⟩
  have q2 := p2.below hb7 p2.lt
  have hby := hbw5.trans (hb7.mono hbw5.size)
  have l2 := p2.lt
  have s0 := q2.cell 0
  have s1 := q2.cell 1
  have s2 := q2.frozen 0
  have s3 := q2.frozen 1
  have hres := Lib.hid ((q2.set 0 (.slice A0 n0 c0)).set 1 (.slice A1 n1 c1))
  generalize refApplyM X O k false a v = R at *
  clear hb7 E
  go_wp2_with fail
  refine bodyPost_ret (v := .tuple #[.agg #[.slice A0 n0 c0, .slice A1 n1 c1], .int .i64 R.1]) (results_ct Tryz.results43 _ _ (w.heap.size + 2) 24 _ _ rfl hres.out Tryz.underlying24 rfl info_grid) rfl ?_
  exact ⟨bset2 (r := w.heap.size + 2) hby (by omega), _, _, _, _, _, _, rfl, i0.set2 l2 _ _ _ _, i1.set2 l2 _ _ _ _⟩
set_option maxHeartbeats 4000000 in
theorem refApplyR (vx vo : Value) (X O : List Int) (k a v : Int) (w : World) (hX : Ints w vx X) (hO : Ints w vo O) (hv : Vd X O) :
    Calls Tryz.prog 43 #[.agg #[vx, vo], .agg #[.int .i64 k, .bool true, .int .i64 a, .int .i64 v]] w (GRd w.heap.size w (refApplyM X O k true a v)) := by
  have hfin := Lib.hid (show refApplyM X O k true a v = if (refColsM (tr X) (tr O) k a v).1 = 0 then (0, tr (refColsM (tr X) (tr O) k a v).2.1, tr (refColsM (tr X) (tr O) k a v).2.2) else ((refColsM (tr X) (tr O) k a v).1, [], []) from rfl)
  have HRR := Lib.hid (fun h0 => refColsM_vd (k := k) (a := a) (v := v) (tr_vd hv) h0)
  have hX0 := hX
  have hO0 := hO
  obtain ⟨A, c, rfl, hc, hh⟩ := hX
  obtain ⟨A', c', rfl, hc', hh'⟩ := hO
  clear hh hh'
  go_enter Tryz.func43, Tryz.ntmps43
  go_upto_region 3 with fail
  have hW : Arr (((w.alloc (.cells #[.slice A X.length c, .slice A' O.length c'] 24)).alloc (.cells #[.int .i64 k, .bool true, .int .i64 a, .int .i64 v] 85)).alloc (.cells #[.slice none 0 0, .slice none 0 0] 24)) w.heap.size 24 [.slice A X.length c, .slice A' O.length c'] ∧ Arr (((w.alloc (.cells #[.slice A X.length c, .slice A' O.length c'] 24)).alloc (.cells #[.int .i64 k, .bool true, .int .i64 a, .int .i64 v] 85)).alloc (.cells #[.slice none 0 0, .slice none 0 0] 24)) (w.heap.size + 1) 85 [.int .i64 k, .bool true, .int .i64 a, .int .i64 v] ∧ Arr (((w.alloc (.cells #[.slice A X.length c, .slice A' O.length c'] 24)).alloc (.cells #[.int .i64 k, .bool true, .int .i64 a, .int .i64 v] 85)).alloc (.cells #[.slice none 0 0, .slice none 0 0] 24)) (w.heap.size + 2) 24 [.slice none 0 0, .slice none 0 0] ∧ Below w.heap.size w (((w.alloc (.cells #[.slice A X.length c, .slice A' O.length c'] 24)).alloc (.cells #[.int .i64 k, .bool true, .int .i64 a, .int .i64 v] 85)).alloc (.cells #[.slice none 0 0, .slice none 0 0] 24)) :=
    ⟨((Arr.new _ _ [_, _]).alloc _).alloc _, (Arr.newAt (w.alloc _) _ [_, _, _, _] _ (by simp)).alloc _, Arr.newAt ((w.alloc _).alloc _) _ [_, _] _ (by simp), (((Below.refl _ _).alloc (Nat.le_refl _) _).alloc (by simp) _).alloc (by simp <;> omega) _⟩
  generalize (((w.alloc (.cells #[.slice A X.length c, .slice A' O.length c'] 24)).alloc (.cells #[.int .i64 k, .bool true, .int .i64 a, .int .i64 v] 85)).alloc (.cells #[.slice none 0 0, .slice none 0 0] 24)) = w5 at hW ⊢
  obtain ⟨p0, p1, p2, hbw5⟩ := hW
  have y0 := p0.cell 0
  have y1 := p0.cell 1
  have z0 := p1.cell 0
  have z1 := p1.cell 1
  have z2 := p1.cell 2
  have z3 := p1.cell 3
  have HC := Lib.hid (fun vx vo W hx ho => refCols_any vx vo (tr X) (tr O) true k a v W hx ho (tr_vd hv))
  have HT := Lib.hid (fun W (hS : W.cell? ⟨w.heap.size, 0, none⟩ = some (.slice A X.length c) ∧ W.cell? ⟨w.heap.size, 1, none⟩ = some (.slice A' O.length c') ∧ W.cell? ⟨w.heap.size + 1, 0, none⟩ = some (.int .i64 k) ∧ W.cell? ⟨w.heap.size + 1, 1, none⟩ = some (.bool true) ∧ W.cell? ⟨w.heap.size + 1, 2, none⟩ = some (.int .i64 a) ∧ W.cell? ⟨w.heap.size + 1, 3, none⟩ = some (.int .i64 v) ∧ Below w5.heap.size w5 W) => refTranspose_any (.slice A X.length c) (.slice A' O.length c') X O W (hX0.below (hbw5.trans (Below.mono hS.2.2.2.2.2.2 hbw5.size))) (hO0.below (hbw5.trans (Below.mono hS.2.2.2.2.2.2 hbw5.size))) hv.len (by have := hv.most; omega) hv.pX.1 (by rw [hv.len]; exact hv.pO.1))
  have HJ := Lib.hid (fun W W' (hS : W.cell? ⟨w.heap.size, 0, none⟩ = some (.slice A X.length c) ∧ W.cell? ⟨w.heap.size, 1, none⟩ = some (.slice A' O.length c') ∧ W.cell? ⟨w.heap.size + 1, 0, none⟩ = some (.int .i64 k) ∧ W.cell? ⟨w.heap.size + 1, 1, none⟩ = some (.bool true) ∧ W.cell? ⟨w.heap.size + 1, 2, none⟩ = some (.int .i64 a) ∧ W.cell? ⟨w.heap.size + 1, 3, none⟩ = some (.int .i64 v) ∧ Below w5.heap.size w5 W) (hb : Below W.heap.size W W') => Below.trans hS.2.2.2.2.2.2 (hb.mono hS.2.2.2.2.2.2.size))
  have KS := Lib.hid (fun W (hb : Below w5.heap.size w5 W) => (⟨(hb.cell p0.lt).trans y0, (hb.cell p0.lt).trans y1, (hb.cell p1.lt).trans z0, (hb.cell p1.lt).trans z1, (hb.cell p1.lt).trans z2, (hb.cell p1.lt).trans z3, hb⟩ : W.cell? ⟨w.heap.size, 0, none⟩ = some (.slice A X.length c) ∧ W.cell? ⟨w.heap.size, 1, none⟩ = some (.slice A' O.length c') ∧ W.cell? ⟨w.heap.size + 1, 0, none⟩ = some (.int .i64 k) ∧ W.cell? ⟨w.heap.size + 1, 1, none⟩ = some (.bool true) ∧ W.cell? ⟨w.heap.size + 1, 2, none⟩ = some (.int .i64 a) ∧ W.cell? ⟨w.heap.size + 1, 3, none⟩ = some (.int .i64 v) ∧ Below w5.heap.size w5 W))
  clear hv
  generalize refColsM (tr X) (tr O) k a v = R at *
  go_cut [6, 7] (fun s8 s9 wx => RowMid w.heap.size wx s8 s9 R ∧ Below w.heap.size w wx)
  case first =>
    go_region_held3 (fun w' => w'.cell? ⟨w.heap.size, 0, none⟩ = some (.slice A X.length c) ∧ w'.cell? ⟨w.heap.size, 1, none⟩ = some (.slice A' O.length c') ∧ w'.cell? ⟨w.heap.size + 1, 0, none⟩ = some (.int .i64 k) ∧ w'.cell? ⟨w.heap.size + 1, 1, none⟩ = some (.bool true) ∧ w'.cell? ⟨w.heap.size + 1, 2, none⟩ = some (.int .i64 a) ∧ w'.cell? ⟨w.heap.size + 1, 3, none⟩ = some (.int .i64 v) ∧ Below w5.heap.size w5 w') ((refine KS.out _ ?_; repeat (first | exact Below.refl _ _ | exact hb8 | exact hb10 | refine Below.drew ?_ | refine Below.alloc ?_ (by first | exact hb10.size | exact hb8.size | exact Nat.le_refl _) _ | refine Below.setCell ?_ (by first | exact hb8.size | exact Nat.le_refl _) _)))
      (first
        | (go_at_call 67; refine (HT.out _ (by assumption)).mono ?_; rintro e w7 ⟨v7, rfl, ⟨gx, go, rfl, e1, e2, e3, a1, a2⟩, hb7⟩; have hb8 := HJ.out _ _ (by assumption) hb7; (first | have hz7 := allocked hb7 | have hz7 := allockedD hb7 | skip); clear hb7; have hi1 := Ints.of_arr a1; have hi2 := Ints.of_arr a2; clear e1 e2 e3 a1 a2)
        | (go_at_call 66; refine (HC.out _ _ _ (by first | exact hi1 | exact hi1.alloc _) (by first | exact hi2 | exact hi2.alloc _)).mono ?_; rintro e w9 ⟨hb9, A0, n0, c0, A1, n1, c1, rfl, hin0, hin1⟩; have hb10 := HJ.out _ _ (by assumption) hb9; (first | have hz9 := Arr.below hz7 hb9 hz7.lt | have hz9 := allocked hb9 | skip); (first | (have x0 := Arr.cell hz9 0; have x1 := Arr.cell hz9 1; have x2 := Arr.frozen hz9 0; have x3 := Arr.frozen hz9 1) | skip); clear hb9))
    · go_wp2_with fail
      go_meet
      exact ⟨⟨w9.heap.size, _, _, rfl, rfl, Arr.new w9 _ [_, _], (p2.below hb10 p2.lt).alloc _, fun h0 => ⟨hin0 _ (fun b _ hb => Below.heap_alloc _ _ _ hb), hin1 _ (fun b _ hb => Below.heap_alloc _ _ _ hb)⟩⟩, hbw5.trans ((hb10.alloc hb10.size _).mono hbw5.size)⟩
    · go_wp2_with fail
      go_meet
      exact ⟨⟨w7.heap.size, _, _, rfl, rfl, (hz9.set 0 _).set 1 _, (p2.below hb10 p2.lt).far2 (r := w7.heap.size) (by have := p2.lt; have := hb8.size; omega), fun h0 => ⟨hin0 _ (fun b hb _ => heap_set2 _ _ _ _ _ _ _ (by simp at hb; omega)), hin1 _ (fun b hb _ => heap_set2 _ _ _ _ _ _ _ (by simp at hb; omega))⟩⟩, hbw5.trans ((bset2 (r := w7.heap.size) hb10 hb8.size).mono hbw5.size)⟩
    · go_wp2_with fail
      go_meet
      exact ⟨⟨w5.heap.size, _, _, rfl, rfl, (hz9.set 0 _).set 1 _, (p2.below hb10 p2.lt).far2 (r := w5.heap.size) (by have := p2.lt; omega), fun h0 => ⟨hin0 _ (fun b hb _ => heap_set2 _ _ _ _ _ _ _ (by have := hz7.lt; omega)), hin1 _ (fun b hb _ => heap_set2 _ _ _ _ _ _ _ (by have := hz7.lt; omega))⟩⟩, hbw5.trans ((bset2 (r := w5.heap.size) hb10 (Nat.le_refl _)).mono hbw5.size)⟩
  case rest =>
    clear y0 y1 z0 z1 z2 z3 p0 p1 p2 HC HT HJ KS
    obtain ⟨⟨g, v0, v1, rfl, rfl, hg, hr, hin⟩, hbw⟩ := hcut
    obtain ⟨R1, R2, R3⟩ := R
    simp only at hin HRR hfin
    have s0 := hr.cell 0
    have s1 := hr.cell 1
    have s2 := hr.frozen 0
    have s3 := hr.frozen 1
    have t0 := hg.cell 0
    have t1 := hg.cell 1
    by_cases h0 : R1 = 0
    · subst h0
      have hfin := Lib.hid (hfin.out.trans (if_pos rfl))
      have HV := Lib.hid (HRR.out rfl)
      obtain ⟨i1, i2⟩ := hin rfl
      obtain ⟨D0, k0, rfl, _, _⟩ := id i1
      obtain ⟨D1, k1, rfl, _, _⟩ := id i2
      clear hin
      go_wp2_with fail
      refine (refTranspose_any _ _ R2 R3 _ i1 i2 HV.out.len (by have := HV.out.most; omega) HV.out.pX.1 (by rw [HV.out.len]; exact HV.out.pO.1)).mono ?_
      rintro e w7 ⟨v7, rfl, ⟨gx, go, rfl, e1, e2, e3, a1, a2⟩, hb7⟩
      have hr' := hr.below hb7 hr.lt
      have hbw' := hbw.trans (hb7.mono hbw.size)
      have hlt := hr.lt
      clear s0 s1 s2 s3
      have s0 := hr'.cell 0
      have s1 := hr'.cell 1
      have s2 := hr'.frozen 0
      have s3 := hr'.frozen 1
      have hres := Lib.hid ((hr'.set 0 (.slice (some ⟨gx, 0, none⟩) (tr R2).length (tr R2).length)).set 1 (.slice (some ⟨go, 0, none⟩) (tr R3).length (tr R3).length))
      go_wp2_with fail
      refine bodyPost_ret (v := .tuple #[.agg #[.slice (some ⟨gx, 0, none⟩) (tr R2).length (tr R2).length, .slice (some ⟨go, 0, none⟩) (tr R3).length (tr R3).length], .int .i64 0]) (results_ct Tryz.results43 _ _ (w.heap.size + 2) 24 _ _ rfl hres.out Tryz.underlying24 rfl info_grid) rfl ?_
      rw [hfin.out]
      exact ⟨bset2 (r := w.heap.size + 2) hbw' (by omega), _, _, _, _, _, _, rfl, Ints.of_arr (a1.far2 (r := w.heap.size + 2) (by omega)), Ints.of_arr (a2.far2 (r := w.heap.size + 2) (by omega))⟩
    · have hfin := Lib.hid (hfin.out.trans (if_neg h0))
      have hb0 : (R1 != 0) = true := by simpa using h0
      clear h0
      have hres := Lib.hid ((hr.set 0 (.slice none 0 0)).set 1 (.slice none 0 0))
      go_wp2_with fail
      refine bodyPost_ret (v := .tuple #[.agg #[.slice none 0 0, .slice none 0 0], .int .i64 R1]) (results_ct Tryz.results43 _ _ (w.heap.size + 2) 24 _ _ rfl hres.out Tryz.underlying24 rfl info_grid) rfl ?_
      rw [hfin.out]
      exact ⟨bset2 (r := w.heap.size + 2) hbw (by omega), _, _, _, _, _, _, rfl, Ints.nil _, Ints.nil _⟩
theorem refApply_any (vx vo : Value) (X O : List Int) (k : Int) (rows : Bool) (a v : Int) (w : World) (hX : Ints w vx X) (hO : Ints w vo O) (hv : Vd X O) :
    Calls Tryz.prog 43 #[.agg #[vx, vo], .agg #[.int .i64 k, .bool rows, .int .i64 a, .int .i64 v]] w (GRd w.heap.size w (applyM X O k rows a v)) := by
  rw [← refApplyM_eq hv]
  cases rows
  · exact refApplyC vx vo X O k a v w hX hO hv
  · exact refApplyR vx vo X O k a v w hX hO hv
end Go.Proofs.YteliflcbegcdlaaGreatDoor
