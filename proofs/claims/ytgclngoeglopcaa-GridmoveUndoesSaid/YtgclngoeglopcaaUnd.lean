/- GridmoveUndoes returns true. -/
import Derived.Test.YtgclngoeglopcaaAwake
import Derived.Test.YtgclngoeglopcaaFresh
import Derived.Test.YtgclngoeglopcaaPl5
namespace Go.Proofs.Ytgclngoeglopcaa
open Go.RowKit

set_option maxHeartbeats 2000000 in
theorem undoes_any (vx vo : Value) (X O : List Int) (k : Int) (rows : Bool) (a v : Int) (w : World) (hX : Ints w vx X) (hO : Ints w vo O) :
    Calls Try.prog 4 #[.agg #[vx, vo], .agg #[.int .i64 k, .bool rows, .int .i64 a, .int .i64 v]] w fun e w' => e = .returned (.bool true) ∧ Below w.heap.size w w' := by
  have hX0 := hX
  have hO0 := hO
  obtain ⟨A, c, rfl, hc, hh⟩ := hX
  obtain ⟨A', c', rfl, hc', hh'⟩ := hO
  clear hh hh'
  go_enter Try.func4, Try.ntmps4
  go_wp2_with fail
  have hW : Arr ((w.alloc (.cells #[.slice A X.length c, .slice A' O.length c'] 24)).alloc (.cells #[.int .i64 k, .bool rows, .int .i64 a, .int .i64 v] 26)) w.heap.size 24 [.slice A X.length c, .slice A' O.length c'] ∧ Arr ((w.alloc (.cells #[.slice A X.length c, .slice A' O.length c'] 24)).alloc (.cells #[.int .i64 k, .bool rows, .int .i64 a, .int .i64 v] 26)) (w.heap.size + 1) 26 [.int .i64 k, .bool rows, .int .i64 a, .int .i64 v] ∧ Below w.heap.size w ((w.alloc (.cells #[.slice A X.length c, .slice A' O.length c'] 24)).alloc (.cells #[.int .i64 k, .bool rows, .int .i64 a, .int .i64 v] 26)) :=
    ⟨(Arr.new _ _ [_, _]).alloc _, Arr.newAt (w.alloc _) _ [_, _, _, _] _ (by simp), ((Below.refl _ _).alloc (Nat.le_refl _) _).alloc (by simp) _⟩
  generalize ((w.alloc (.cells #[.slice A X.length c, .slice A' O.length c'] 24)).alloc (.cells #[.int .i64 k, .bool rows, .int .i64 a, .int .i64 v] 26)) = w4 at hW ⊢
  obtain ⟨q0, q1, hb4⟩ := hW
  refine (awake_any _).mono ?_
  rintro e w5 ⟨rfl, hb5⟩
  have hbw5 := hb4.trans (hb5.mono hb4.size)
  have p0 := q0.below hb5 q0.lt
  have p1 := q1.below hb5 q1.lt
  clear q0 q1 hb5 hb4
  have y0 := p0.cell 0
  have y1 := p0.cell 1
  go_wp2_with fail
  refine (great_any _ _ _ _ _ _ _).mono ?_
  rintro e w6 ⟨rfl, hb6⟩
  have hbw6 := hbw5.trans (hb6.mono hbw5.size)
  have r0 := p0.below hb6 p0.lt
  have r1 := p1.below hb6 p1.lt
  have hX6 := hX0.below hbw6
  have hO6 := hO0.below hbw6
  clear p0 p1 hb6 hbw5 y0 y1
  have y0 := r0.cell 0
  have y1 := r0.cell 1
  have z0 := r1.cell 0
  have z1 := r1.cell 1
  have z2 := r1.cell 2
  have z3 := r1.cell 3
  cases hg : greatB X.length O.length with
  | true =>
    clear hg
    go_wp2_with fail
    go_ret
    exact ⟨rfl, hbw6⟩
  | false =>
    have hg' : X.length ≤ 50 ∧ O.length ≤ 50 := by simp only [greatB, decide_eq_false_iff_not] at hg; omega
    clear hg
    obtain ⟨gl, gl'⟩ := hg'
    by_cases t8 : 8 < X.length
    · have u8 : decide (8 < (X.length : Int)) = true := by simp; omega
      go_wp2_with fail
      go_ret
      exact ⟨rfl, hbw6⟩
    have u8 : decide (8 < (X.length : Int)) = false := by simp; omega
    have t8' : X.length ≤ 8 := by omega
    clear t8
    go_wp2_with fail
    refine (apply_rd _ _ X O k rows a v _ hX6 hO6 (by omega) (by omega)).mono ?_
    rintro e w7 ⟨hb7, A0, n0, c0, A1, n1, c1, rfl, i1, i2⟩
    have hbw7 := hbw6.trans (hb7.mono hbw6.size)
    have s0 := r0.below hb7 r0.lt
    have s1 := r1.below hb7 r1.lt
    have hX7 := hX6.below hb7
    have hO7 := hO6.below hb7
    clear y0 y1 z0 z1 z2 z3 r0 r1 hb7 hX6 hO6 u8
    generalize hR : applyM X O k rows a v = R at *
    obtain ⟨code, X1, O1⟩ := R
    simp only at i1 i2
    have HR := Lib.hid hR
    clear hR
    have l0 := s0.lt
    have l1 := s1.lt
    have W8 : ∃ W, W = w7.alloc (.cells #[.slice A0 n0 c0, .slice A1 n1 c1] 24) := ⟨_, rfl⟩
    have hW8 : Arr (w7.alloc (.cells #[.slice A0 n0 c0, .slice A1 n1 c1] 24)) w7.heap.size 24 [.slice A0 n0 c0, .slice A1 n1 c1] := Arr.new w7 _ [_, _]
    have d0 := (s0.alloc (.cells #[.slice A0 n0 c0, .slice A1 n1 c1] 24)).cell 0
    have d1 := (s0.alloc (.cells #[.slice A0 n0 c0, .slice A1 n1 c1] 24)).cell 1
    have f0 := (s1.alloc (.cells #[.slice A0 n0 c0, .slice A1 n1 c1] 24)).cell 0
    have f1 := (s1.alloc (.cells #[.slice A0 n0 c0, .slice A1 n1 c1] 24)).cell 1
    have f2 := (s1.alloc (.cells #[.slice A0 n0 c0, .slice A1 n1 c1] 24)).cell 2
    have f3 := (s1.alloc (.cells #[.slice A0 n0 c0, .slice A1 n1 c1] 24)).cell 3
    by_cases h0 : code = 0
    rotate_left
    · have hb0 : (code != 0) = true := by simpa using h0
      clear h0
      go_wp2_with fail
      go_ret
      exact ⟨rfl, hbw7.alloc hbw7.size _⟩
    subst h0
    obtain ⟨hvd, hrg, _⟩ := applyM_inv HR.out
    have hvd1 := applyM_res_vd HR.out
    by_cases k1 : k = 1
    · subst k1
      go_wp2_with fail
      clear d0 d1 f0 f1 f2 f3
      obtain ⟨eX, eO⟩ := rotV_one HR.out
      have htwo := hvd.two
      have hlen := Lib.hid hvd.len
      go_loopw [40] (fun s wr => ∃ i : Nat, i + 1 ≤ X.length ∧ s = .int .i64 i ∧ (∃ A0 n0 c0 A1 n1 c1, Arr wr w7.heap.size 24 [.slice A0 n0 c0, .slice A1 n1 c1] ∧ Ints wr (.slice A0 n0 c0) (rotV rows X (i + 1)) ∧ Ints wr (.slice A1 n1 c1) (rotV rows O (i + 1))) ∧
        Arr wr w.heap.size 24 [.slice A X.length c, .slice A' O.length c'] ∧ Arr wr (w.heap.size + 1) 26 [.int .i64 1, .bool rows, .int .i64 a, .int .i64 v] ∧ Below w.heap.size w wr) (fun s _ => X.length - (intOf s).toNat)
      case atStart =>
        refine ⟨0, by omega, rfl, ⟨A0, n0, c0, A1, n1, c1, hW8, ?_, ?_⟩, s0.alloc _, s1.alloc _, hbw7.alloc hbw7.size _⟩
        · rw [← eX]; exact i1.alloc _
        · rw [← eO]; exact i2.alloc _
      case round =>
        clear hW8 i1 i2 s0 s1 eX eO
        obtain ⟨i, hi, rfl, ⟨B0, m0, e0, B1, m1, e1, hg, j1, j2⟩, s0, s1, hbr⟩ := hrel
        have d0 := s0.cell 0
        have d1 := s0.cell 1
        have f0 := s1.cell 0
        have f1 := s1.cell 1
        have f2 := s1.cell 2
        have f3 := s1.cell 3
        have g0 := hg.cell 0
        have g1 := hg.cell 1
        by_cases hlt : i + 1 < X.length
        · go_wp2_with fail
          refine (apply_rf _ _ (rotV rows X (i + 1)) (rotV rows O (i + 1)) 1 rows a v _ j1 j2 (by unfold rotV; rw [vw_length, rotN_length, vw_length]; omega) (by unfold rotV; rw [vw_length, rotN_length, vw_length]; omega)).mono ?_
          rw [rotV_step hvd hrg hlt]
          rintro e w8 ⟨hb8, C0, o0, h0, C1, o1, h1, rfl, t1, t2⟩
          simp only at t1 t2
          have hg' := hg.below hb8 hg.lt
          have x0 := hg'.cell 0
          have x1 := hg'.cell 1
          have x2 := hg'.frozen 0
          have x3 := hg'.frozen 1
          have hbr' := hbr.trans (hb8.mono hbr.size)
          have s0' := s0.below hb8 s0.lt
          have s1' := s1.below hb8 s1.lt
          have hlt7 := hg.lt
          clear d0 d1 f0 f1 f2 f3 g0 g1
          go_wp2_with fail
          go_roundw
          case rel =>
            refine ⟨i + 1, by omega, by go_num, ⟨C0, o0, h0, C1, o1, h1, (hg'.set 0 _).set 1 _, ?_, ?_⟩, s0'.far2 (r := w7.heap.size) (by omega), s1'.far2 (r := w7.heap.size) (by omega), bset2 (r := w7.heap.size) hbr' hbw7.size⟩
            · exact t1.set2 hg.lt _ _ _ _
            · exact t2.set2 hg.lt _ _ _ _
          case measure => simp [intOf]; omega
        · go_wp2_with fail
          have he : i + 1 = X.length := by omega
          have k1 : Ints wr (.slice B0 m0 e0) X := by have := rotV_full (rows := rows) hvd.pX; rw [he, this] at j1; exact j1
          have k2 : Ints wr (.slice B1 m1 e1) O := by have := rotV_full (rows := rows) hvd.pO; rw [he, hlen.out, this] at j2; exact j2
          refine (same_any _ _ _ _ X O X O _ k1 k2 (hX0.below hbr) (hO0.below hbr) (by omega) (by omega)).mono ?_
          rintro e w8 ⟨rfl, hb8⟩
          go_wp2_with fail
          go_ret
          exact ⟨by simp, hbr.trans (hb8.mono hbr.size)⟩
    by_cases k2 : k = 2
    · subst k2
      go_wp2_with fail
      refine (apply_rd _ _ X1 O1 2 rows a v _ (i1.alloc _) (i2.alloc _) (by have := hvd1.most; omega) (by have := hvd1.most; have := hvd1.len; omega)).mono ?_
      rw [undo_swap HR.out]
      rintro e w8 ⟨hb8, C0, o0, h0, C1, o1, h1, rfl, t1, t2⟩
      simp only at t1 t2
      have hbw8 := (hbw7.alloc hbw7.size _).trans (hb8.mono (hbw7.alloc hbw7.size _).size)
      have s0' := (s0.alloc _).below hb8 (s0.alloc _).lt
      have x0 := (s0'.alloc (.cells #[.slice C0 o0 h0, .slice C1 o1 h1] 24)).cell 0
      have x1 := (s0'.alloc (.cells #[.slice C0 o0 h0, .slice C1 o1 h1] 24)).cell 1
      clear d0 d1 f0 f1 f2 f3
      go_wp2_with fail
      refine (same_any _ _ _ _ X O X O _ (t1.alloc _) (t2.alloc _) ((hX0.below hbw8).alloc _) ((hO0.below hbw8).alloc _) (by omega) (by omega)).mono ?_
      rintro e w9 ⟨rfl, hb9⟩
      go_wp2_with fail
      go_ret
      exact ⟨by simp, (hbw8.alloc hbw8.size _).trans (hb9.mono (hbw8.alloc hbw8.size _).size)⟩
    by_cases k4 : k = 4
    · subst k4
      go_wp2_with fail
      refine (apply_rd _ _ X1 O1 3 rows a 0 _ (i1.alloc _) (i2.alloc _) (by have := hvd1.most; omega) (by have := hvd1.most; have := hvd1.len; omega)).mono ?_
      rw [undo_sta HR.out]
      rintro e w8 ⟨hb8, C0, o0, h0, C1, o1, h1, rfl, t1, t2⟩
      simp only at t1 t2
      have hbw8 := (hbw7.alloc hbw7.size _).trans (hb8.mono (hbw7.alloc hbw7.size _).size)
      have s0' := (s0.alloc _).below hb8 (s0.alloc _).lt
      have x0 := (s0'.alloc (.cells #[.slice C0 o0 h0, .slice C1 o1 h1] 24)).cell 0
      have x1 := (s0'.alloc (.cells #[.slice C0 o0 h0, .slice C1 o1 h1] 24)).cell 1
      clear d0 d1 f0 f1 f2 f3
      go_wp2_with fail
      refine (same_any _ _ _ _ X O X O _ (t1.alloc _) (t2.alloc _) ((hX0.below hbw8).alloc _) ((hO0.below hbw8).alloc _) (by omega) (by omega)).mono ?_
      rintro e w9 ⟨rfl, hb9⟩
      go_wp2_with fail
      go_ret
      exact ⟨by simp, (hbw8.alloc hbw8.size _).trans (hb9.mono (hbw8.alloc hbw8.size _).size)⟩
    obtain rfl : k = 3 := by have := hrg.1; omega
    obtain ⟨u, hu, hus⟩ := undo_des HR.out
    have HU := Lib.hid hus
    have hl1 := hvd1.most
    have hl2 := Lib.hid hvd1.len
    clear hus k1 k2 k4
    have hn0 : n0 = X1.length := by obtain ⟨_, _, e, _⟩ := i1; injection e
    subst hn0
    go_wp2_with fail
    clear d0 d1 f0 f1 f2 f3
    go_loopw [92] (fun s wr => ∃ i : Nat, i ≤ u ∧ s = .int .i64 i ∧ Arr wr w7.heap.size 24 [.slice A0 X1.length c0, .slice A1 n1 c1] ∧
        Arr wr w.heap.size 24 [.slice A X.length c, .slice A' O.length c'] ∧ Arr wr (w.heap.size + 1) 26 [.int .i64 3, .bool rows, .int .i64 a, .int .i64 v] ∧ Below w7.heap.size w7 wr) (fun s _ => 2 * X1.length - (intOf s).toNat)
    case atStart => exact ⟨0, Nat.zero_le _, rfl, hW8, s0.alloc _, s1.alloc _, (Below.refl _ _).alloc (Nat.le_refl _) _⟩
    case round =>
      clear hW8 s0 s1
      obtain ⟨i, hi, rfl, hg, s0, s1, hbr⟩ := hrel
      have d0 := s0.cell 0
      have d1 := s0.cell 1
      have f0 := s1.cell 0
      have f1 := s1.cell 1
      have f2 := s1.cell 2
      have f3 := s1.cell 3
      have g0 := hg.cell 0
      have g1 := hg.cell 1
      have hlt : i < 2 * X1.length := by omega
      go_wp2_with fail
      refine (apply_rd _ _ X1 O1 4 rows a i _ (i1.below hbr) (i2.below hbr) (by omega) (by have := hl2.out; omega)).mono ?_
      rintro e w8 ⟨hb8, C0, o0, h0, C1, o1, h1, rfl, t1, t2⟩
      have hbr' := hbr.trans (hb8.mono hbr.size)
      have hbw8 := hbw7.trans (hbr'.mono hbw7.size)
      have hg' := hg.below hb8 hg.lt
      have s0' := s0.below hb8 s0.lt
      have s1' := s1.below hb8 s1.lt
      have x0 := (s0'.alloc (.cells #[.slice C0 o0 h0, .slice C1 o1 h1] 24)).cell 0
      have x1 := (s0'.alloc (.cells #[.slice C0 o0 h0, .slice C1 o1 h1] 24)).cell 1
      clear d0 d1 f0 f1 f2 f3 g0 g1
      generalize hS : applyM X1 O1 4 rows a i = S at *
      obtain ⟨cd, X2, O2⟩ := S
      simp only at t1 t2
      by_cases hcd : cd = 0
      · subst hcd
        have hvd2 := applyM_res_vd hS
        have HS := Lib.hid hS
        clear hS
        go_wp2_with fail
        refine (same_any _ _ _ _ X2 O2 X O _ (t1.alloc _) (t2.alloc _) ((hX0.below hbw8).alloc _) ((hO0.below hbw8).alloc _) (by have := hvd2.most; omega) (by have := hvd2.most; have := hvd2.len; omega)).mono ?_
        rintro e w9 ⟨rfl, hb9⟩
        have hbw9 := (hbr'.alloc hbr'.size _).trans (hb9.mono (hbr'.alloc hbr'.size _).size)
        have s0'' := (s0'.alloc _).below hb9 (s0'.alloc _).lt
        have s1'' := (s1'.alloc _).below hb9 (s1'.alloc _).lt
        have hg'' := (hg'.alloc _).below hb9 (hg'.alloc _).lt
        by_cases hsm : X2 = X ∧ O2 = O
        · rw [decide_eq_true hsm]
          clear hsm
          go_wp2_with fail
          go_ret
          exact ⟨rfl, hbw7.trans (hbw9.mono hbw7.size)⟩
        · rw [decide_eq_false hsm]
          have hiu : i ≠ u := by
            rintro rfl
            have := HU.out.symm.trans HS.out
            injection this with _ this
            injection this with q1 q2
            exact hsm ⟨q1.symm, q2.symm⟩
          clear hsm
          go_wp2_with fail
          go_roundw
          case rel => exact ⟨i + 1, by omega, by go_num, hg'', s0'', s1'', hbw9⟩
          case measure => simp [intOf]; omega
      · have hb0 : (cd == 0) = false := by simpa using hcd
        have hiu : i ≠ u := by
          rintro rfl
          have := HU.out.symm.trans hS
          injection this with q1 _
          exact hcd q1.symm
        clear hS hcd
        go_wp2_with fail
        go_roundw
        case rel => exact ⟨i + 1, by omega, by go_num, hg'.alloc _, s0'.alloc _, s1'.alloc _, hbr'.alloc hbr'.size _⟩
        case measure => simp [intOf]; omega
end Go.Proofs.Ytgclngoeglopcaa
