/- GridmoveTransposes returns true. -/
import Derived.Test.YtgclngoeglopcaaAwake
import Derived.Test.YtgclngoeglopcaaTurn
import Derived.Test.YtgclngoeglopcaaFresh
namespace Go.Proofs.Ytgclngoeglopcaa
open Go.RowKit

/-- the law's mathematics: a move of rows is the move of columns of the transposed grid -/
theorem transposes_plain {X O : List Int} {k a v : Int} {rows : Bool} (h : Vd X O) :
    (applyM (tr X) (tr O) k (!rows) a v).1 = (applyM X O k rows a v).1 ∧ ((applyM X O k rows a v).1 = 0 → (applyM (tr X) (tr O) k (!rows) a v).2 = (tr (applyM X O k rows a v).2.1, tr (applyM X O k rows a v).2.2)) := by
  have hv := (validB_iff X O).2 h
  have hv' := (validB_iff _ _).2 (tr_vd h)
  by_cases hr : inRange k a v X.length
  · have hr' : inRange k a v (tr X).length := by rw [tr_length]; exact hr
    rw [applyM_vw h hr, applyM_vw (tr_vd h) hr']
    have e1 : vw (!rows) (tr X) = vw rows X := by cases rows; exact tr_tr h.pX; rfl
    have e2 : vw (!rows) (tr O) = vw rows O := by cases rows; exact tr_tr h.pO; rfl
    rw [e1, e2]
    have hvd : (colsL (vw rows X) (vw rows O) k a.toNat v.toNat).1 = 0 → Vd (colsL (vw rows X) (vw rows O) k a.toNat v.toNat).2.1 (colsL (vw rows X) (vw rows O) k a.toNat v.toNat).2.2 := fun h0 =>
      colsL_vd (a := a.toNat) (v := v.toNat) (vw_vd (rows := rows) h) hr.1 (by rw [vw_length]; have := hr.2.1; omega) (by rw [vw_length]; have := hr.2.2; omega) h0
    generalize colsL (vw rows X) (vw rows O) k a.toNat v.toNat = R at *
    by_cases h0 : R.1 = 0
    · rw [if_pos h0, if_pos h0]
      have hvd := hvd h0
      refine ⟨rfl, fun _ => ?_⟩
      cases rows with
      | false => rfl
      | true =>
        show (R.2.1, R.2.2) = (tr (tr R.2.1), tr (tr R.2.2))
        rw [tr_tr hvd.pX, tr_tr hvd.pO]
    · rw [if_neg h0, if_neg h0]
      exact ⟨rfl, fun h => absurd h h0⟩
  · have hn : ∀ (Y P : List Int) (rw' : Bool), validB Y P = true → Y.length = X.length → applyM Y P k rw' a v = if limAt k X.length = 0 then (11, [], []) else (2, [], []) := by
      intro Y P rw' hvd hl
      unfold applyM
      rw [if_neg (by simp [hvd]), hl]
      split
      · rfl
      · rename_i h1
        rw [if_pos]
        apply Classical.byContradiction
        intro h2
        rw [limAt_zero (by have := h.two; omega)] at h1
        exact hr ⟨Decidable.not_not.1 h1, by omega, by omega⟩
    rw [hn X O rows hv rfl, hn (tr X) (tr O) (!rows) hv' (tr_length X)]
    split <;> exact ⟨rfl, fun h => by simp at h⟩

set_option maxHeartbeats 4000000 in
theorem transposes_any (vx vo : Value) (X O : List Int) (k : Int) (rows : Bool) (a v : Int) (w : World) (hX : Ints w vx X) (hO : Ints w vo O) :
    Calls Try.prog 5 #[.agg #[vx, vo], .agg #[.int .i64 k, .bool rows, .int .i64 a, .int .i64 v]] w fun e w' => e = .returned (.bool true) ∧ Below w.heap.size w w' := by
  have hX0 := hX
  have hO0 := hO
  obtain ⟨A, c, rfl, hc, hh⟩ := hX
  obtain ⟨A', c', rfl, hc', hh'⟩ := hO
  clear hh hh'
  go_enter Try.func5, Try.ntmps5
  go_wp2_with fail
  have hW : Arr ((w.alloc (.cells #[.slice A X.length c, .slice A' O.length c'] 24)).alloc (.cells #[.int .i64 k, .bool rows, .int .i64 a, .int .i64 v] 26)) w.heap.size 24 [.slice A X.length c, .slice A' O.length c'] ∧ Arr ((w.alloc (.cells #[.slice A X.length c, .slice A' O.length c'] 24)).alloc (.cells #[.int .i64 k, .bool rows, .int .i64 a, .int .i64 v] 26)) (w.heap.size + 1) 26 [.int .i64 k, .bool rows, .int .i64 a, .int .i64 v] ∧ Below w.heap.size w ((w.alloc (.cells #[.slice A X.length c, .slice A' O.length c'] 24)).alloc (.cells #[.int .i64 k, .bool rows, .int .i64 a, .int .i64 v] 26)) :=
    ⟨(Arr.new _ _ [_, _]).alloc _, Arr.newAt (w.alloc _) _ [_, _, _, _] _ (by simp), ((Below.refl _ _).alloc (Nat.le_refl _) _).alloc (by simp) _⟩
  generalize ((w.alloc (.cells #[.slice A X.length c, .slice A' O.length c'] 24)).alloc (.cells #[.int .i64 k, .bool rows, .int .i64 a, .int .i64 v] 26)) = w4 at hW ⊢
  obtain ⟨q0, q1, hb4⟩ := hW
  refine (awake_any _).mono ?_
  rintro e w5 ⟨rfl, hb5⟩
  have hbw5 := hb4.trans (hb5.mono hb4.size)
  have p0 := q0.below hb5 q0.lt
  have p1 := q1.below hb5 q1.lt
  clear q0 q1 hb5 hb4
  have y0 := p0.cell 0
  have y1 := p0.cell 1
  go_wp2_with fail
  refine (great_any _ _ _ _ _ _ _).mono ?_
  rintro e w6 ⟨rfl, hb6⟩
  have hbw6 := hbw5.trans (hb6.mono hbw5.size)
  have r0 := p0.below hb6 p0.lt
  have r1 := p1.below hb6 p1.lt
  have hX6 := hX0.below hbw6
  have hO6 := hO0.below hbw6
  clear p0 p1 hb6 hbw5 y0 y1
  have y0 := r0.cell 0
  have y1 := r0.cell 1
  have z0 := r1.cell 0
  have z1 := r1.cell 1
  have z2 := r1.cell 2
  have z3 := r1.cell 3
  cases hg : greatB X.length O.length with
  | true =>
    clear hg
    go_wp2_with fail
    go_ret
    exact ⟨rfl, hbw6⟩
  | false =>
    have hg' : X.length ≤ 50 ∧ O.length ≤ 50 := by simp only [greatB, decide_eq_false_iff_not] at hg; omega
    clear hg
    obtain ⟨gl, gl'⟩ := hg'
    go_wp2_with fail
    refine (valid_any _ _ X O _ hX6 hO6 (by omega) (by omega)).mono ?_
    rintro e w7 ⟨rfl, hb7⟩
    have hbw7 := hbw6.trans (hb7.mono hbw6.size)
    have s0 := r0.below hb7 r0.lt
    have s1 := r1.below hb7 r1.lt
    have hX7 := hX6.below hb7
    have hO7 := hO6.below hb7
    clear y0 y1 z0 z1 z2 z3 r0 r1 hb7 hX6 hO6
    cases hv : validB X O with
    | false =>
      clear hv
      go_wp2_with fail
      go_ret
      exact ⟨rfl, hbw7⟩
    | true =>
      have vd := (validB_iff X O).1 hv
      clear hv
      have l0 := s0.lt
      have l1 := s1.lt
      have d0 := s0.cell 0
      have d1 := s0.cell 1
      have f0 := s1.cell 0
      have f1 := s1.cell 1
      have f2 := s1.cell 2
      have f3 := s1.cell 3
      go_wp2_with fail
      refine (apply_rd _ _ X O k rows a v _ (hX7.alloc _) (hO7.alloc _) (by omega) (by omega)).mono ?_
      rintro e w8 ⟨hb8, A0, n0, c0, A1, n1, c1, rfl, i1, i2⟩
      have ho : Arr (w7.alloc (.cells #[.int .i64 k, .bool (!rows), .int .i64 a, .int .i64 v] 26)) w7.heap.size 26 [.int .i64 k, .bool (!rows), .int .i64 a, .int .i64 v] := Arr.new w7 _ [_, _, _, _]
      have ho8 := ho.below hb8 ho.lt
      have hbw8 := (hbw7.alloc hbw7.size _).trans (hb8.mono (hbw7.alloc hbw7.size _).size)
      have s0' := (s0.alloc _).below hb8 (s0.alloc _).lt
      have hsz7 : w7.heap.size < w8.heap.size := ho8.lt
      clear d0 d1 f0 f1 f2 f3 s0 s1 hb8 ho hX7 hO7
      have tp := transposes_plain (k := k) (a := a) (v := v) (rows := rows) vd
      have hvr := @applyM_res_vd X O (applyM X O k rows a v).2.1 (applyM X O k rows a v).2.2 k a v rows
      generalize hR : applyM X O k rows a v = R at *
      obtain ⟨code, X1, O1⟩ := R
      simp only at i1 i2 tp hvr
      have HV := Lib.hid hvr
      have TP := Lib.hid tp
      clear hvr tp hR
      have e0 := (s0'.alloc (.cells #[.slice A0 n0 c0, .slice A1 n1 c1] 24)).cell 0
      have e1 := (s0'.alloc (.cells #[.slice A0 n0 c0, .slice A1 n1 c1] 24)).cell 1
      have e2 := (ho8.alloc (.cells #[.slice A0 n0 c0, .slice A1 n1 c1] 24)).cell 0
      have e3 := (ho8.alloc (.cells #[.slice A0 n0 c0, .slice A1 n1 c1] 24)).cell 1
      have e4 := (ho8.alloc (.cells #[.slice A0 n0 c0, .slice A1 n1 c1] 24)).cell 2
      have e5 := (ho8.alloc (.cells #[.slice A0 n0 c0, .slice A1 n1 c1] 24)).cell 3
      go_upto_region 8 with fail
      have hWa : Arr (w8.alloc (.cells #[.slice A0 n0 c0, .slice A1 n1 c1] 24)) w8.heap.size 24 [.slice A0 n0 c0, .slice A1 n1 c1] := Arr.new w8 _ [_, _]
      have ia1 := i1.alloc (.cells #[.slice A0 n0 c0, .slice A1 n1 c1] 24)
      have ia2 := i2.alloc (.cells #[.slice A0 n0 c0, .slice A1 n1 c1] 24)
      have hbwa := hbw8.alloc hbw8.size (.cells #[.slice A0 n0 c0, .slice A1 n1 c1] 24)
      have b0 := s0'.alloc (.cells #[.slice A0 n0 c0, .slice A1 n1 c1] 24)
      have b1 := ho8.alloc (.cells #[.slice A0 n0 c0, .slice A1 n1 c1] 24)
      generalize w8.alloc (.cells #[.slice A0 n0 c0, .slice A1 n1 c1] 24) = wa at *
      generalize w8.heap.size = g6 at *
      have HT := Lib.hid (fun W (hS : W.cell? ⟨w.heap.size, 0, none⟩ = some (.slice A X.length c) ∧ W.cell? ⟨w.heap.size, 1, none⟩ = some (.slice A' O.length c') ∧ W.cell? ⟨w7.heap.size, 0, none⟩ = some (.int .i64 k) ∧ W.cell? ⟨w7.heap.size, 1, none⟩ = some (.bool (!rows)) ∧ W.cell? ⟨w7.heap.size, 2, none⟩ = some (.int .i64 a) ∧ W.cell? ⟨w7.heap.size, 3, none⟩ = some (.int .i64 v) ∧ Below wa.heap.size wa W) => turned_any (.slice A X.length c) (.slice A' O.length c') X O W (hX0.below (hbwa.trans (Below.mono hS.2.2.2.2.2.2 hbwa.size))) (hO0.below (hbwa.trans (Below.mono hS.2.2.2.2.2.2 hbwa.size))) vd.len (by omega) vd.pX.1 (by have := vd.pO.1; rw [← vd.len] at this; exact this))
      have HJ := Lib.hid (fun W W' (hS : W.cell? ⟨w.heap.size, 0, none⟩ = some (.slice A X.length c) ∧ W.cell? ⟨w.heap.size, 1, none⟩ = some (.slice A' O.length c') ∧ W.cell? ⟨w7.heap.size, 0, none⟩ = some (.int .i64 k) ∧ W.cell? ⟨w7.heap.size, 1, none⟩ = some (.bool (!rows)) ∧ W.cell? ⟨w7.heap.size, 2, none⟩ = some (.int .i64 a) ∧ W.cell? ⟨w7.heap.size, 3, none⟩ = some (.int .i64 v) ∧ Below wa.heap.size wa W) (hb : Below W.heap.size W W') => Below.trans hS.2.2.2.2.2.2 (hb.mono hS.2.2.2.2.2.2.size))
      have KS := Lib.hid (fun W (hb : Below wa.heap.size wa W) => (⟨(hb.cell b0.lt).trans e0, (hb.cell b0.lt).trans e1, (hb.cell b1.lt).trans e2, (hb.cell b1.lt).trans e3, (hb.cell b1.lt).trans e4, (hb.cell b1.lt).trans e5, hb⟩ : W.cell? ⟨w.heap.size, 0, none⟩ = some (.slice A X.length c) ∧ W.cell? ⟨w.heap.size, 1, none⟩ = some (.slice A' O.length c') ∧ W.cell? ⟨w7.heap.size, 0, none⟩ = some (.int .i64 k) ∧ W.cell? ⟨w7.heap.size, 1, none⟩ = some (.bool (!rows)) ∧ W.cell? ⟨w7.heap.size, 2, none⟩ = some (.int .i64 a) ∧ W.cell? ⟨w7.heap.size, 3, none⟩ = some (.int .i64 v) ∧ Below wa.heap.size wa W))
      have HA := Lib.hid (fun vx vo W hx ho => apply_rf vx vo (tr X) (tr O) k (!rows) a v W hx ho (by rw [tr_length]; omega) (by rw [tr_length]; omega))
      go_cut [8, 9] (fun s8 s9 wx => ∃ g8 C0 m0 d0 C1 m1 d1, s8 = .pointer (some ⟨g8, 0, none⟩) ∧ s9 = .int .i64 (applyM (tr X) (tr O) k (!rows) a v).1 ∧ Arr wx g8 24 [.slice C0 m0 d0, .slice C1 m1 d1] ∧ Ints wx (.slice C0 m0 d0) (applyM (tr X) (tr O) k (!rows) a v).2.1 ∧ Ints wx (.slice C1 m1 d1) (applyM (tr X) (tr O) k (!rows) a v).2.2 ∧ Below wa.heap.size wa wx)
      case first =>
        go_region_held3 (fun w' => w'.cell? ⟨w.heap.size, 0, none⟩ = some (.slice A X.length c) ∧ w'.cell? ⟨w.heap.size, 1, none⟩ = some (.slice A' O.length c') ∧ w'.cell? ⟨w7.heap.size, 0, none⟩ = some (.int .i64 k) ∧ w'.cell? ⟨w7.heap.size, 1, none⟩ = some (.bool (!rows)) ∧ w'.cell? ⟨w7.heap.size, 2, none⟩ = some (.int .i64 a) ∧ w'.cell? ⟨w7.heap.size, 3, none⟩ = some (.int .i64 v) ∧ Below wa.heap.size wa w') ((refine KS.out _ ?_; repeat (first | exact Below.refl _ _ | exact hb8 | exact hb10 | refine Below.drew ?_ | refine Below.alloc ?_ (by first | exact hb10.size | exact hb8.size | exact Nat.le_refl _) _ | refine Below.setCell ?_ (by first | exact hb8.size | exact Nat.le_refl _) _)))
          (first
            | (go_at_call 18; refine (HT.out _ (by assumption)).mono ?_; rintro e wt ⟨v7, rfl, ⟨gx, go, rfl, q1, q2, q3, a1, a2⟩, hb7⟩; have hb8 := HJ.out _ _ (by assumption) hb7; (first | have hz7 := allocked hb7 | have hz7 := allockedD hb7 | skip); clear hb7; have hi1 := Ints.of_arr a1; have hi2 := Ints.of_arr a2; clear q1 q2 q3 a1 a2)
            | (go_at_call 13; refine (HA.out _ _ _ (by first | exact hi1 | exact hi1.alloc _) (by first | exact hi2 | exact hi2.alloc _)).mono ?_; rintro e w9 ⟨hb9, C0, m0, d0, C1, m1, d1, rfl, j1, j2⟩; have hb10 := HJ.out _ _ (by assumption) hb9; (first | have hz9 := Arr.below hz7 hb9 hz7.lt | have hz9 := allocked hb9 | skip); (first | (have x0 := Arr.cell hz9 0; have x1 := Arr.cell hz9 1; have x2 := Arr.frozen hz9 0; have x3 := Arr.frozen hz9 1) | skip); clear hb9))
        · go_wp2_with fail
          go_meet
          exact ⟨w9.heap.size, _, _, _, _, _, _, rfl, rfl, Arr.new w9 _ [_, _], j1.ints.alloc _, j2.ints.alloc _, hb10.alloc hb10.size _⟩
        · go_wp2_with fail
          go_meet
          exact ⟨wt.heap.size, _, _, _, _, _, _, rfl, rfl, (hz9.set 0 _).set 1 _, j1.set2 (by simp) _ _ _ _, j2.set2 (by simp) _ _ _ _, bset2 (r := wt.heap.size) hb10 hb8.size⟩
        · go_wp2_with fail
          go_meet
          exact ⟨wa.heap.size, _, _, _, _, _, _, rfl, rfl, (hz9.set 0 _).set 1 _, j1.set2 hz7.lt _ _ _ _, j2.set2 hz7.lt _ _ _ _, bset2 (r := wa.heap.size) hb10 (Nat.le_refl _)⟩
      case rest =>
        clear e0 e1 e2 e3 e4 e5 HT HJ KS HA b0 b1
        obtain ⟨g8, C0, m0, d0, C1, m1, d1, rfl, rfl, hg8, j1, j2, hbc⟩ := hcut
        have hbwc := hbwa.trans (hbc.mono hbwa.size)
        rw [TP.out.1]
        have hg6 := hWa.below hbc hWa.lt
        have ib1 := ia1.below hbc
        have ib2 := ia2.below hbc
        have e0 := hg6.cell 0
        have e1 := hg6.cell 1
        have e2 := hg8.cell 0
        have e3 := hg8.cell 1
        by_cases h0 : code = 0
        rotate_left
        · have hb0 : (code != 0) = true := by simpa using h0
          have hb1 : (code != code) = false := by simp
          clear h0
          go_wp2_with fail
          go_quiet (fail)
          go_wp2_with fail
          go_ret
          exact ⟨rfl, bdrewN hbwc _⟩
        · subst h0
          have vd1 := HV.out rfl
          have hpair := TP.out.2 rfl
          rw [hpair] at j1 j2
          simp only at j1 j2
          have vb := Lib.hid ((validB_iff X1 O1).2 vd1)
          have hl1 : X1.length ≤ 40 := vd1.most
          have hl2 : O1.length ≤ 40 := by have := vd1.len; omega
          have HVA := Lib.hid (fun W (hS : W.cell? ⟨g6, 0, none⟩ = some (.slice A0 n0 c0) ∧ W.cell? ⟨g6, 1, none⟩ = some (.slice A1 n1 c1) ∧ W.cell? ⟨g8, 0, none⟩ = some (.slice C0 m0 d0) ∧ W.cell? ⟨g8, 1, none⟩ = some (.slice C1 m1 d1) ∧ Below wc.heap.size wc W) => valid_any (.slice A0 n0 c0) (.slice A1 n1 c1) X1 O1 W (ib1.below hS.2.2.2.2) (ib2.below hS.2.2.2.2) (by omega) (by omega))
          have HTU := Lib.hid (fun W (hS : W.cell? ⟨g6, 0, none⟩ = some (.slice A0 n0 c0) ∧ W.cell? ⟨g6, 1, none⟩ = some (.slice A1 n1 c1) ∧ W.cell? ⟨g8, 0, none⟩ = some (.slice C0 m0 d0) ∧ W.cell? ⟨g8, 1, none⟩ = some (.slice C1 m1 d1) ∧ Below wc.heap.size wc W) => turned_any (.slice A0 n0 c0) (.slice A1 n1 c1) X1 O1 W (ib1.below hS.2.2.2.2) (ib2.below hS.2.2.2.2) vd1.len (by omega) vd1.pX.1 (by have := vd1.pO.1; rw [← vd1.len] at this; exact this))
          have HSA := Lib.hid (fun vx vo W (hS : W.cell? ⟨g6, 0, none⟩ = some (.slice A0 n0 c0) ∧ W.cell? ⟨g6, 1, none⟩ = some (.slice A1 n1 c1) ∧ W.cell? ⟨g8, 0, none⟩ = some (.slice C0 m0 d0) ∧ W.cell? ⟨g8, 1, none⟩ = some (.slice C1 m1 d1) ∧ Below wc.heap.size wc W) hx ho => same_any vx vo (.slice C0 m0 d0) (.slice C1 m1 d1) (tr X1) (tr O1) (tr X1) (tr O1) W hx ho (j1.below hS.2.2.2.2) (j2.below hS.2.2.2.2) (by rw [tr_length]; omega) (by rw [tr_length]; omega))
          have HJ := Lib.hid (fun W W' (hS : W.cell? ⟨g6, 0, none⟩ = some (.slice A0 n0 c0) ∧ W.cell? ⟨g6, 1, none⟩ = some (.slice A1 n1 c1) ∧ W.cell? ⟨g8, 0, none⟩ = some (.slice C0 m0 d0) ∧ W.cell? ⟨g8, 1, none⟩ = some (.slice C1 m1 d1) ∧ Below wc.heap.size wc W) (hb : Below W.heap.size W W') => Below.trans hS.2.2.2.2 (hb.mono hS.2.2.2.2.size))
          have KS := Lib.hid (fun W (hb : Below wc.heap.size wc W) => (⟨(hb.cell hg6.lt).trans e0, (hb.cell hg6.lt).trans e1, (hb.cell hg8.lt).trans e2, (hb.cell hg8.lt).trans e3, hb⟩ : W.cell? ⟨g6, 0, none⟩ = some (.slice A0 n0 c0) ∧ W.cell? ⟨g6, 1, none⟩ = some (.slice A1 n1 c1) ∧ W.cell? ⟨g8, 0, none⟩ = some (.slice C0 m0 d0) ∧ W.cell? ⟨g8, 1, none⟩ = some (.slice C1 m1 d1) ∧ Below wc.heap.size wc W))
          have hb0 : ((0 : Int) != 0) = false := rfl
          go_wp2_with fail
          go_region_held3 (fun w' => w'.cell? ⟨g6, 0, none⟩ = some (.slice A0 n0 c0) ∧ w'.cell? ⟨g6, 1, none⟩ = some (.slice A1 n1 c1) ∧ w'.cell? ⟨g8, 0, none⟩ = some (.slice C0 m0 d0) ∧ w'.cell? ⟨g8, 1, none⟩ = some (.slice C1 m1 d1) ∧ Below wc.heap.size wc w') ((refine KS.out _ ?_; repeat (first | exact Below.refl _ _ | exact hbs | exact hbt | exact hbv | refine Below.drew ?_)))
            (first
              | (go_at_call 17; refine (HVA.out _ (by assumption)).mono ?_; rintro e wv ⟨rfl, hbv0⟩; rw [vb.out]; have hbv := HJ.out _ _ (by assumption) hbv0; clear hbv0)
              | (go_at_call 18; refine (HTU.out _ (by assumption)).mono ?_; rintro e wt ⟨v7, rfl, ⟨gx, go, rfl, q1, q2, q3, a1, a2⟩, hbt0⟩; have hbt := HJ.out _ _ (by assumption) hbt0; clear hbt0; have hi1 := Ints.of_arr a1; have hi2 := Ints.of_arr a2; clear q1 q2 q3 a1 a2)
              | (go_at_call 15; refine (HSA.out _ _ _ (by assumption) hi1 hi2).mono ?_; rintro e ws ⟨rfl, hbs0⟩; have hbs := HJ.out _ _ (by assumption) hbs0; clear hbs0))
          all_goals
            go_wp2_with fail
            go_ret
            exact ⟨by simp, hbwc.trans (hbs.mono hbwc.size)⟩
end Go.Proofs.Ytgclngoeglopcaa
