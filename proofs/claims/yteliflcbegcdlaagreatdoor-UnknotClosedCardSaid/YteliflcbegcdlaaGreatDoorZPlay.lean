/- gridmove.Play. -/
import Derived.Test.YteliflcbegcdlaaGreatDoorZUnp
namespace Go.Proofs.YteliflcbegcdlaaGreatDoor
open Go.RowKit
set_option linter.unusedVariables false
def PRes (w : World) (r : Int × List Int × List Int × Int) (e : Ending) (w' : World) : Prop :=
  Below w.heap.size w w' ∧ ∃ A0 n0 c0 A1 n1 c1, e = .returned (.tuple #[.agg #[.slice A0 n0 c0, .slice A1 n1 c1], .int .i64 r.2.2.2, .int .i64 r.1]) ∧ Ints w' (.slice A0 n0 c0) r.2.1 ∧ Ints w' (.slice A1 n1 c1) r.2.2.1
set_option maxHeartbeats 4000000 in
theorem play_any (vx vo vm : Value) (X O : List Int) (ms : List Mv) (w : World) (hX : Ints w vx X) (hO : Ints w vo O) (hM : Moves w vm ms) (hl : X.length ≤ 1000) (hl' : O.length ≤ 1000) (hn : ms.length ≤ 10000) :
    Calls Tryz.prog 49 #[.agg #[vx, vo], vm] w (PRes w (playM X O ms)) := by
  have hM0 := hM
  obtain ⟨Am, cm, rfl, hm'⟩ := hM
  clear hm'
  have hX0 := hX
  have hO0 := hO
  obtain ⟨A, c, rfl, hc, hh⟩ := hX
  obtain ⟨A', c', rfl, hc', hh'⟩ := hO
  clear hh hh'
  go_enter Tryz.func49, Tryz.ntmps49
  go_wp2_with fail
  have hW : Arr ((w.alloc (.cells #[.slice A X.length c, .slice A' O.length c'] 24)).alloc (.cells #[.slice none 0 0, .slice none 0 0] 24)) w.heap.size 24 [.slice A X.length c, .slice A' O.length c'] ∧ Arr ((w.alloc (.cells #[.slice A X.length c, .slice A' O.length c'] 24)).alloc (.cells #[.slice none 0 0, .slice none 0 0] 24)) (w.heap.size + 1) 24 [.slice none 0 0, .slice none 0 0] ∧ Below w.heap.size w ((w.alloc (.cells #[.slice A X.length c, .slice A' O.length c'] 24)).alloc (.cells #[.slice none 0 0, .slice none 0 0] 24)) :=
    ⟨(Arr.new _ _ [_, _]).alloc _, Arr.newAt (w.alloc _) _ [_, _] _ (by simp), ((Below.refl _ _).alloc (Nat.le_refl _) _).alloc (by simp) _⟩
  generalize ((w.alloc (.cells #[.slice A X.length c, .slice A' O.length c'] 24)).alloc (.cells #[.slice none 0 0, .slice none 0 0] 24)) = w4 at hW ⊢
  obtain ⟨q0, q1, hb4⟩ := hW
  refine (valid_any _ _ X O _ (hX0.below hb4) (hO0.below hb4) hl hl').mono ?_
  rintro e w5 ⟨rfl, hb5⟩
  have hbw5 := hb4.trans (hb5.mono hb4.size)
  have p0 := q0.below hb5 q0.lt
  have p1 := q1.below hb5 q1.lt
  clear q0 q1 hb5 hb4
  have y0 := p0.cell 0
  have y1 := p0.cell 1
  have y2 := p1.cell 0
  have y3 := p1.cell 1
  have y4 := p1.frozen 0
  have y5 := p1.frozen 1
  have l1 := p1.lt
  have hzr := Lib.hid ((p1.set 0 (.slice none 0 0)).set 1 (.slice none 0 0))
  cases hv : validB X O with
  | false =>
    have hfin := Lib.hid (show playM X O ms = (1, [], [], -1) by unfold playM; rw [if_pos hv])
    clear hv
    go_wp2_with fail
    refine bodyPost_ret (v := .tuple #[.agg #[.slice none 0 0, .slice none 0 0], .int .i64 (-1), .int .i64 1]) (results_ctt Tryz.results49 _ _ (w.heap.size + 1) 24 _ _ rfl hzr.out Tryz.underlying24 rfl info_grid) rfl ?_
    rw [hfin.out]
    exact ⟨bset2 (r := w.heap.size + 1) hbw5 (by omega), _, _, _, _, _, _, rfl, Ints.nil _, Ints.nil _⟩
  | true =>
    have vd := (validB_iff X O).1 hv
    have hfin := Lib.hid (show playM X O ms = playFrom 0 X O (ms.drop 0) by unfold playM; rw [if_neg (by simp [hv]), List.drop_zero])
    clear hv
    go_wp2_with fail
    refine (shift_any _ _ X O 0 0 _ (hX0.below hbw5) (hO0.below hbw5) hl hl').mono ?_
    rw [shiftM_zero vd]
    rintro e w6 ⟨hb6, v6, rfl, hng⟩
    rw [if_pos rfl] at hng
    obtain ⟨gx, go, rfl, e1, e2, e3, a1, a2⟩ := hng
    have hbw6 := hbw5.trans (hb6.mono hbw5.size)
    have p1' := p1.below hb6 p1.lt
    have hlt6 := p1'.lt
    have f1 := a1.lt
    have f2 := a2.lt
    clear y0 y1 y2 y3 y4 y5 hzr p0 p1 hb6
    go_wp2_with fail
    go_loopw [28] (fun s wr => ∃ (i : Nat) (Y P : List Int) (B0 : Option Addr) (m0 d0 : Nat) (B1 : Option Addr) (m1 d1 : Nat), i ≤ ms.length ∧ s = .int .i64 i ∧ Arr wr w6.heap.size 24 [.slice B0 m0 d0, .slice B1 m1 d1] ∧ Arr wr (w.heap.size + 1) 24 [.slice none 0 0, .slice none 0 0] ∧
      IntsE (fun b => b = w.heap.size + 1 ∨ b = w6.heap.size) wr (.slice B0 m0 d0) Y ∧ IntsE (fun b => b = w.heap.size + 1 ∨ b = w6.heap.size) wr (.slice B1 m1 d1) P ∧ Below w.heap.size w wr ∧ Hid (Vd Y P ∧ playM X O ms = playFrom i Y P (ms.drop i))) (fun s _ => ms.length - (intOf s).toNat)
    case atStart =>
      refine ⟨0, X, O, _, _, _, _, _, _, Nat.zero_le _, rfl, Arr.new w6 _ [_, _], p1'.alloc _, ?_, ?_, hbw6.alloc hbw6.size _, vd, hfin.out⟩
      · exact IntsE.of_arr (a1.alloc _) (by omega)
      · exact IntsE.of_arr (a2.alloc _) (by omega)
    case round =>
      clear hfin a1 a2 p1' f1 f2 e1 e2 e3
      obtain ⟨i, Y, P, B0, m0, d0, B1, m1, d1, hi, rfl, hg, hr, j1, j2, hbr, H⟩ := hrel
      have g0 := hg.cell 0
      have g1 := hg.cell 1
      have x0 := hr.cell 0
      have x1 := hr.cell 1
      have x2 := hr.frozen 0
      have x3 := hr.frozen 1
      have lg := hg.lt
      have lr := hr.lt
      have hY := H.out.1.most
      have hYP := Lib.hid H.out.1.len
      by_cases hlt : i < ms.length
      · obtain ⟨b, o, rfl, hbl, c0, c1, c2, c3⟩ := hM0.at_ hlt
        have c0' := (hbr.cell (p := ⟨b, o + i * 4, none⟩) hbl).trans c0
        have c1' := (hbr.cell (p := ⟨b, o + i * 4 + 1, none⟩) hbl).trans c1
        have c2' := (hbr.cell (p := ⟨b, o + i * 4 + 2, none⟩) hbl).trans c2
        have c3' := (hbr.cell (p := ⟨b, o + i * 4 + 3, none⟩) hbl).trans c3
        clear c0 c1 c2 c3
        have hpl := Lib.hid (And.intro (fun h : (ms[i].app Y P).1 = 0 => H.out.2.trans ((playFrom_drop Y P ms hlt).trans (if_pos h))) (fun h : ¬ (ms[i].app Y P).1 = 0 => H.out.2.trans ((playFrom_drop Y P ms hlt).trans (if_neg h))))
        generalize ms[i] = m at *
        obtain ⟨mk, mr, ma, mv⟩ := m
        simp only [Mv.app] at hpl c0' c1' c2' c3'
        have lgr : w6.heap.size ≠ w.heap.size + 1 := by omega
        go_wp2_with fail
        refine (apply_rf _ _ Y P mk mr ma mv _ (j1.ints.alloc _) (j2.ints.alloc _) (by omega) (by have := hYP.out; omega)).mono ?_
        rintro e w8 ⟨hb8, C0, o0, h0, C1, o1, h1, rfl, t1, t2⟩
        have hba := hbr.alloc hbr.size (.cells #[.int .i64 mk, .bool mr, .int .i64 ma, .int .i64 mv] 94)
        have hbr' := hba.trans (hb8.mono hba.size)
        have hg' := (hg.alloc _).below hb8 (hg.alloc _).lt
        have hr' := (hr.alloc _).below hb8 (hr.alloc _).lt
        have sz8 := hb8.size
        have hvr := Lib.hid (@applyM_res_vd Y P (applyM Y P mk mr ma mv).2.1 (applyM Y P mk mr ma mv).2.2 mk ma mv mr)
        clear g0 g1 x0 x1 x2 x3 c0' c1' c2' c3'
        generalize hR : applyM Y P mk mr ma mv = R at *
        obtain ⟨code, Y1, P1⟩ := R
        simp only at t1 t2 hpl hvr
        clear hR
        have g0 := (hg'.alloc (.cells #[.slice C0 o0 h0, .slice C1 o1 h1] 24)).cell 0
        have g1 := (hg'.alloc (.cells #[.slice C0 o0 h0, .slice C1 o1 h1] 24)).cell 1
        have g2 := (hg'.alloc (.cells #[.slice C0 o0 h0, .slice C1 o1 h1] 24)).frozen 0
        have g3 := (hg'.alloc (.cells #[.slice C0 o0 h0, .slice C1 o1 h1] 24)).frozen 1
        have x0 := (hr'.alloc (.cells #[.slice C0 o0 h0, .slice C1 o1 h1] 24)).cell 0
        have x1 := (hr'.alloc (.cells #[.slice C0 o0 h0, .slice C1 o1 h1] 24)).cell 1
        have x2 := (hr'.alloc (.cells #[.slice C0 o0 h0, .slice C1 o1 h1] 24)).frozen 0
        have x3 := (hr'.alloc (.cells #[.slice C0 o0 h0, .slice C1 o1 h1] 24)).frozen 1
        have hbx := hbr'.alloc hbr'.size (.cells #[.slice C0 o0 h0, .slice C1 o1 h1] 24)
        by_cases hcd : code = 0
        · subst hcd
          have hv1 := hvr.out rfl
          have k1 : IntsE (fun b => b = w.heap.size + 1 ∨ b = w6.heap.size) w8 (.slice C0 o0 h0) Y1 := IntsE.of_fresh t1 (fun b hb => by simp; omega)
          have k2 : IntsE (fun b => b = w.heap.size + 1 ∨ b = w6.heap.size) w8 (.slice C1 o1 h1) P1 := IntsE.of_fresh t2 (fun b hb => by simp; omega)
          have hpl' := Lib.hid (hpl.out.1 rfl)
          go_wp2_with fail
          go_roundw
          case rel =>
            exact ⟨i + 1, Y1, P1, _, _, _, _, _, _, by omega, by go_num, ((hg'.alloc _).set 0 _).set 1 _, (hr'.alloc _).far2 (r := w6.heap.size) (by omega), (k1.below ((Below.refl _ _).alloc (Nat.le_refl _) _)).set2 (.inr rfl) _ _ _ _, (k2.below ((Below.refl _ _).alloc (Nat.le_refl _) _)).set2 (.inr rfl) _ _ _ _, bset2 (r := w6.heap.size) hbx (by omega), hv1, hpl'.out⟩
          case measure => simp [intOf]; omega
        · have hb0 : (code != 0) = true := by simpa using hcd
          have hfin := Lib.hid (hpl.out.2 hcd)
          clear hcd
          have hzr := Lib.hid (((hr'.alloc (.cells #[.slice C0 o0 h0, .slice C1 o1 h1] 24)).set 0 (.slice none 0 0)).set 1 (.slice none 0 0))
          go_wp2_with fail
          refine bodyPost_ret (v := .tuple #[.agg #[.slice none 0 0, .slice none 0 0], .int .i64 (i : Int), .int .i64 code]) (results_ctt Tryz.results49 _ _ (w.heap.size + 1) 24 _ _ rfl hzr.out Tryz.underlying24 rfl info_grid) rfl ?_
          rw [hfin.out]
          exact ⟨bset2 (r := w.heap.size + 1) hbx (by omega), _, _, _, _, _, _, rfl, Ints.nil _, Ints.nil _⟩
      · have hie : i = ms.length := by omega
        have hpl := Lib.hid (show playM X O ms = (0, Y, P, -1) by rw [H.out.2, hie, List.drop_length]; rfl)
        clear hie
        have hres := Lib.hid ((hr.set 0 (.slice B0 m0 d0)).set 1 (.slice B1 m1 d1))
        go_wp2_with fail
        refine bodyPost_ret (v := .tuple #[.agg #[.slice B0 m0 d0, .slice B1 m1 d1], .int .i64 (-1), .int .i64 0]) (results_ctt Tryz.results49 _ _ (w.heap.size + 1) 24 _ _ rfl hres.out Tryz.underlying24 rfl info_grid) rfl ?_
        rw [hpl.out]
        exact ⟨bset2 (r := w.heap.size + 1) hbr (by omega), _, _, _, _, _, _, rfl, (j1.set2 (.inl rfl) _ _ _ _).ints, (j2.set2 (.inl rfl) _ _ _ _).ints⟩
end Go.Proofs.YteliflcbegcdlaaGreatDoor
