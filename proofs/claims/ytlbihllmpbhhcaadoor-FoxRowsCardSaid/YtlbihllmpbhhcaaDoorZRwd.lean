/- The reference's wide integers: norm, plus, small. -/
import Derived.Test.YtlbihllmpbhhcaaDoorZBase2
import Derived.Test.YtlbihllmpbhhcaaDoorChecked
import Derived.Test.YtlbihllmpbhhcaaDoorZRwp
import Derived.Outline
import Derived.Deep.CutBlock
import Derived.Deep.LoopGhost
namespace Go.Proofs.YtlbihllmpbhhcaaDoor
open Go.RowKit
set_option linter.unusedVariables false

theorem info_rw : (Tryd.prog.info? 114).map (·.size) = some 2 := by kernel_rfl
set_option maxHeartbeats 1000000 in
theorem norm_any (h l : Int) (w : World) (hh : -2305843009213693952 ≤ h ∧ h ≤ 2305843009213693952) (hl : -1125899906842624 ≤ l ∧ l ≤ 2305843009213693952) :
    Calls Tryd.prog 87 #[.agg #[.int .i64 h, .int .i64 l]] w fun e w' => e = .returned (.agg #[.int .i64 (nh (h * 1125899906842624 + l)), .int .i64 (nl (h * 1125899906842624 + l))]) ∧ Below w.heap.size w w' := by
  have hW : ∀ W, W = ((w.alloc (.cells #[.int .i64 h, .int .i64 l] 114)).alloc (.cells #[.int .i64 0, .int .i64 0] 114)) → Arr W w.heap.size 114 [.int .i64 h, .int .i64 l] ∧ Arr W (w.heap.size + 1) 114 [.int .i64 0, .int .i64 0] ∧ Below w.heap.size w W := by
    intro W hW
    subst hW
    exact ⟨(Arr.new _ _ [_, _]).alloc _, Arr.newAt (w.alloc _) _ [_, _] _ (by simp), ((Below.refl _ _).alloc (Nat.le_refl _) _).alloc (by simp) _⟩
  obtain ⟨X, hX⟩ : ∃ X, X = h * 1125899906842624 + l := ⟨_, rfl⟩
  rw [← hX]
  have HX := Lib.hid hX
  clear hX
  go_enter Tryd.func87, Tryd.ntmps87
  go_upto_region 1 with fail
  generalize ((w.alloc (.cells #[.int .i64 h, .int .i64 l] 114)).alloc (.cells #[.int .i64 0, .int .i64 0] 114)) = w3 at hW ⊢
  obtain ⟨q0, q1, hb3⟩ := hW w3 rfl
  clear hW
  have HST := Lib.hid (And.intro q0 (And.intro q1 hb3))
  clear q0 q1 hb3
  go_loopg [5] (if l < 0 then 1 else 0) (fun gk s5 wr => ∃ h' l' : Int, gk = (if l' < 0 then 1 else 0) ∧ (-2305843009213693954 ≤ h' ∧ h' ≤ 2305843009213693954) ∧ (-1125899906842624 ≤ l' ∧ l' ≤ 2305843009213693952) ∧ (l' < 0 → -2305843009213693952 ≤ h') ∧ Hid (X = h' * 1125899906842624 + l' ∧ Arr wr w.heap.size 114 [.int .i64 h', .int .i64 l'] ∧ Arr wr (w.heap.size + 1) 114 [.int .i64 0, .int .i64 0] ∧ Below w.heap.size w wr))
  case atStart => exact ⟨h, l, rfl, by omega, hl, fun _ => hh.1, Lib.hid ⟨HX.out, HST.out⟩⟩
  case round =>
    clear HST HX hh hl
    obtain ⟨h', l', rfl, hh', hl', hlh, HR⟩ := hrel
    have q0 := HR.out.2.1
    have y0 := q0.cell 0
    have y1 := q0.cell 1
    have f0 := q0.frozen 0
    have f1 := q0.frozen 1
    by_cases hneg : l' < 0
    · have hlow := hlh hneg
      have HN := Lib.hid (show Arr ((wr.setCell ⟨w.heap.size, 1, none⟩ (.int .i64 (l' + 1125899906842624))).setCell ⟨w.heap.size, 0, none⟩ (.int .i64 (h' - 1))) w.heap.size 114 [.int .i64 (h' - 1), .int .i64 (l' + 1125899906842624)] from (q0.set 1 _).set 0 _)
      have HN1 := Lib.hid ((HR.out.2.2.1.far (p := ⟨w.heap.size, 1, none⟩) (show w.heap.size + 1 ≠ w.heap.size by omega) (.int .i64 (l' + 1125899906842624))).far (p := ⟨w.heap.size, 0, none⟩) (show w.heap.size + 1 ≠ w.heap.size by omega) (.int .i64 (h' - 1)))
      have HB := Lib.hid ((HR.out.2.2.2.setCell (p := ⟨w.heap.size, 1, none⟩) (Nat.le_refl _) (.int .i64 (l' + 1125899906842624))).setCell (p := ⟨w.heap.size, 0, none⟩) (Nat.le_refl _) (.int .i64 (h' - 1)))
      have HXX := Lib.hid HR.out.1
      clear HR q0 hlh
      go_wp2_with fail
      go_roundg 0
      case measure => omega
      case rel => exact ⟨h' - 1, l' + 1125899906842624, by rw [if_neg (by omega)], by omega, by omega, fun h => by omega, Lib.hid ⟨by rw [HXX.out]; omega, HN.out, HN1.out, HB.out⟩⟩
    · have HE := Lib.hid (norm_end h' l' (by omega))
      have e1 : l'.tdiv 1125899906842624 = l' / 1125899906842624 := Int.tdiv_eq_ediv_of_nonneg (by omega)
      have e2 : l'.tmod 1125899906842624 = l' % 1125899906842624 := Int.tmod_eq_emod_of_nonneg (by omega)
      have hq1 : 0 ≤ l' / 1125899906842624 ∧ l' / 1125899906842624 ≤ 2048 := by omega
      obtain ⟨LQ, hLQ⟩ : ∃ z, z = l' / 1125899906842624 := ⟨_, rfl⟩
      obtain ⟨LM, hLM⟩ : ∃ z, z = l' % 1125899906842624 := ⟨_, rfl⟩
      rw [← hLQ] at HE hq1 e1
      rw [← hLM] at HE e2
      have HQ := Lib.hid hLQ
      have HM := Lib.hid hLM
      have HR2 := Lib.hid (show Arr (((wr.setCell ⟨w.heap.size, 0, none⟩ (.int .i64 (h' + LQ))).setCell ⟨w.heap.size, 1, none⟩ (.int .i64 LM))) w.heap.size 114 [.int .i64 (h' + LQ), .int .i64 LM] from (q0.set 0 _).set 1 _)
      have HR3 := Lib.hid ((HR.out.2.2.1.far (p := ⟨w.heap.size, 0, none⟩) (show w.heap.size + 1 ≠ w.heap.size by omega) (.int .i64 (h' + LQ))).far (p := ⟨w.heap.size, 1, none⟩) (show w.heap.size + 1 ≠ w.heap.size by omega) (.int .i64 LM))
      have HB := Lib.hid ((HR.out.2.2.2.setCell (p := ⟨w.heap.size, 0, none⟩) (Nat.le_refl _) (.int .i64 (h' + LQ))).setCell (p := ⟨w.heap.size, 1, none⟩) (Nat.le_refl _) (.int .i64 LM))
      have HXX := Lib.hid HR.out.1
      clear HR q0 hlh hLQ hLM
      go_upto_region 4 with fail
      generalize ((wr.setCell ⟨w.heap.size, 0, none⟩ (.int .i64 (h' + LQ))).setCell ⟨w.heap.size, 1, none⟩ (.int .i64 LM)) = w5 at HR2 HR3 HB ⊢
      clear y0 y1 f0 f1
      have z0 := HR2.out.cell 0
      have z1 := HR2.out.cell 1
      have x0 := HR3.out.cell 0
      have x1 := HR3.out.cell 1
      have f0 := HR3.out.frozen 0
      have f1 := HR3.out.frozen 1
      have hres := Lib.hid ((HR3.out.set 0 (.int .i64 (h' + LQ))).set 1 (.int .i64 LM))
      go_wp2_with fail
      refine bodyPost_ret (v := .agg #[.int .i64 (h' + LQ), .int .i64 LM]) (results_c Tryd.results87 _ _ (w.heap.size + 1) 114 _ _ rfl hres.out Tryd.underlying114 rfl info_rw) rfl ?_
      exact ⟨by rw [HE.out.1, HE.out.2, HXX.out], (HB.out.setCell (p := ⟨w.heap.size + 1, 0, none⟩) (by show w.heap.size ≤ w.heap.size + 1; omega) _).setCell (p := ⟨w.heap.size + 1, 1, none⟩) (by show w.heap.size ≤ w.heap.size + 1; omega) _⟩
set_option maxHeartbeats 1000000 in
theorem rplus_any (X Y : Int) (w : World) (hx : -1298074214633706907132624082305024 ≤ X ∧ X ≤ 1298074214633706907132624082305024) (hy : -1298074214633706907132624082305024 ≤ Y ∧ Y ≤ 1298074214633706907132624082305024) :
    Calls Tryd.prog 86 #[.agg #[.int .i64 (nh X), .int .i64 (nl X)], .agg #[.int .i64 (nh Y), .int .i64 (nl Y)]] w fun e w' => e = .returned (.agg #[.int .i64 (nh (X + Y)), .int .i64 (nl (X + Y))]) ∧ Below w.heap.size w w' := by
  have hW : ∀ (c1 c2 c3 c4 : Int) W, W = (((w.alloc (.cells #[.int .i64 c1, .int .i64 c2] 114)).alloc (.cells #[.int .i64 c3, .int .i64 c4] 114)).alloc (.cells #[.int .i64 0, .int .i64 0] 114)) → Arr W w.heap.size 114 [.int .i64 c1, .int .i64 c2] ∧ Arr W (w.heap.size + 1) 114 [.int .i64 c3, .int .i64 c4] ∧ Arr W (w.heap.size + 2) 114 [.int .i64 0, .int .i64 0] ∧ Below w.heap.size w W ∧ W.heap.size = w.heap.size + 3 := by
    intro c1 c2 c3 c4 W hW
    subst hW
    exact ⟨((Arr.new _ _ [_, _]).alloc _).alloc _, (Arr.newAt (w.alloc _) _ [_, _] _ (by simp)).alloc _, Arr.newAt ((w.alloc _).alloc _) _ [_, _] _ (by simp), (((Below.refl _ _).alloc (Nat.le_refl _) _).alloc (by simp) _).alloc (by simp <;> omega) _, by simp⟩
  have b1 := nh_bd (x := X) (B := 1152921504606846976) (by omega)
  have b2 := nh_bd (x := Y) (B := 1152921504606846976) (by omega)
  have b3 := nl_bd X
  have b4 := nl_bd Y
  have HN := Lib.hid (fun W => norm_any (nh X + nh Y) (nl X + nl Y) W (by omega) (by omega))
  rw [nw_add] at HN
  replace hW := hW (nh X) (nl X) (nh Y) (nl Y)
  clear hx hy
  generalize nh X = a1 at *
  generalize nl X = a2 at *
  generalize nh Y = a3 at *
  generalize nl Y = a4 at *
  generalize nh (X + Y) = a5 at *
  generalize nl (X + Y) = a6 at *
  go_enter Tryd.func86, Tryd.ntmps86
  go_upto_region 1 with fail
  generalize (((w.alloc (.cells #[.int .i64 a1, .int .i64 a2] 114)).alloc (.cells #[.int .i64 a3, .int .i64 a4] 114)).alloc (.cells #[.int .i64 0, .int .i64 0] 114)) = w3 at hW ⊢
  obtain ⟨q0, q1, q2, hb3, hs3⟩ := hW w3 rfl
  have x0 := q0.cell 0
  have x1 := q0.cell 1
  have y0 := q1.cell 0
  have y1 := q1.cell 1
  have HQ := Lib.hid q2
  have HB := Lib.hid hb3
  have HN3 := Lib.hid (HN.out w3)
  clear hW HN q0 q1 q2 hb3 hs3
  go_wp2_with fail
  refine HN3.out.mono ?_
  rintro e w4 ⟨rfl, hb4⟩
  have q4 := HQ.out.below hb4 HQ.out.lt
  have HB4 := Lib.hid (HB.out.trans (hb4.mono HB.out.size))
  clear x0 x1 y0 y1 hb4 HN3
  have r0 := q4.cell 0
  have r1 := q4.cell 1
  have f0 := q4.frozen 0
  have f1 := q4.frozen 1
  have hres := Lib.hid ((q4.set 0 (.int .i64 a5)).set 1 (.int .i64 a6))
  clear q4
  go_wp2_with fail
  refine bodyPost_ret (v := .agg #[.int .i64 a5, .int .i64 a6]) (results_c Tryd.results86 _ _ (w.heap.size + 2) 114 _ _ rfl hres.out Tryd.underlying114 rfl info_rw) rfl ?_
  exact ⟨rfl, (HB4.out.setCell (p := ⟨w.heap.size + 2, 0, none⟩) (by show w.heap.size ≤ w.heap.size + 2; omega) _).setCell (p := ⟨w.heap.size + 2, 1, none⟩) (by show w.heap.size ≤ w.heap.size + 2; omega) _⟩
def rsN (x : Int) : Int := if -2 ≤ nh x ∧ nh x ≤ 2 then x else 0
def rsB (x : Int) : Bool := decide (-1125899906842624 ≤ x ∧ x ≤ 1125899906842624)
theorem rsN_of {x : Int} (h : rsB x = true) : rsN x = x := by
  have h2 := of_decide_eq_true h
  unfold rsN nh
  rw [if_pos (by omega)]
set_option maxHeartbeats 1000000 in
theorem rsmall_any (X : Int) (w : World) :
    Calls Tryd.prog 88 #[.agg #[.int .i64 (nh X), .int .i64 (nl X)]] w fun e w' => e = .returned (.tuple #[.int .i64 (rsN X), .bool (rsB X)]) ∧ Below w.heap.size w w' := by
  have hW : ∀ (c1 c2 : Int) W, W = (w.alloc (.cells #[.int .i64 c1, .int .i64 c2] 114)) → Arr W w.heap.size 114 [.int .i64 c1, .int .i64 c2] ∧ Below w.heap.size w W := by
    intro c1 c2 W hW
    subst hW
    exact ⟨(Arr.new _ _ [_, _]), ((Below.refl _ _).alloc (Nat.le_refl _) _)⟩
  replace hW := hW (nh X) (nl X)
  have b4 := nl_bd X
  have HE := Lib.hid (nw_eq X)
  have HC := Lib.hid (show ¬ (-2 ≤ nh X ∧ nh X ≤ 2) → rsN X = 0 ∧ rsB X = false from fun h => ⟨by unfold rsN; rw [if_neg h], by unfold rsB; refine decide_eq_false ?_; unfold nh at h; omega⟩)
  have HD := Lib.hid (show (-2 ≤ nh X ∧ nh X ≤ 2) → rsN X = X ∧ rsB X = (decide (-1125899906842624 ≤ X) && decide (X ≤ 1125899906842624)) from fun h => ⟨by unfold rsN; rw [if_pos h], by unfold rsB; simp⟩)
  obtain ⟨RN, hRN⟩ : ∃ r, r = rsN X := ⟨_, rfl⟩
  obtain ⟨RB, hRB⟩ : ∃ r, r = rsB X := ⟨_, rfl⟩
  rw [← hRN, ← hRB] at HC HD ⊢
  clear hRN hRB
  generalize nh X = a1 at *
  generalize nl X = a2 at *
  go_enter Tryd.func88, Tryd.ntmps88
  go_upto_region 1 with fail
  generalize (w.alloc (.cells #[.int .i64 a1, .int .i64 a2] 114)) = w3 at hW ⊢
  obtain ⟨q0, hb3⟩ := hW w3 rfl
  have x0 := q0.cell 0
  have x1 := q0.cell 1
  have HB := Lib.hid hb3
  clear hW q0 hb3
  by_cases h1 : a1 < -2
  · have HR := Lib.hid (HC.out (by omega))
    clear HC HD
    go_wp2_with fail
    go_ret2
    exact ⟨by rw [HR.out.1, HR.out.2]; rfl, HB.out⟩
  · by_cases h2 : a1 > 2
    · have HR := Lib.hid (HC.out (by omega))
      clear HC HD
      go_wp2_with fail
      go_ret2
      exact ⟨by rw [HR.out.1, HR.out.2]; rfl, HB.out⟩
    · have HR := Lib.hid (HD.out (by omega))
      have hE := HE.out
      clear HC HD HE
      by_cases h3 : -1125899906842624 ≤ X
      · by_cases h4 : X ≤ 1125899906842624
        · have HR2 := Lib.hid (show RB = true by rw [HR.out.2, decide_eq_true h3, decide_eq_true h4]; rfl)
          have HR1 := Lib.hid HR.out.1
          clear HR
          go_wp2_with fail
          go_ret2
          exact ⟨by rw [HR1.out, HR2.out]; rfl, HB.out⟩
        · have HR2 := Lib.hid (show RB = false by rw [HR.out.2, decide_eq_true h3, decide_eq_false h4]; rfl)
          have HR1 := Lib.hid HR.out.1
          clear HR
          go_wp2_with fail
          go_ret2
          exact ⟨by rw [HR1.out, HR2.out]; rfl, HB.out⟩
      · have HR2 := Lib.hid (show RB = false by rw [HR.out.2, decide_eq_false h3]; rfl)
        have HR1 := Lib.hid HR.out.1
        clear HR
        go_wp2_with fail
        go_ret2
        exact ⟨by rw [HR1.out, HR2.out]; rfl, HB.out⟩
end Go.Proofs.YtlbihllmpbhhcaaDoor
