/- The reference's Transpose. -/
import Derived.Test.YteliflcbegcdlaaGreatDoorZTurn
namespace Go.Proofs.YteliflcbegcdlaaGreatDoor
open Go.RowKit
set_option linter.unusedVariables false
set_option maxHeartbeats 2000000 in
theorem refTranspose_any (vx vo : Value) (X O : List Int) (w : World) (hX : Ints w vx X) (hO : Ints w vo O) (hlen : X.length = O.length) (hn : X.length ≤ 1000) (rX : Rows X.length X) (rO : Rows X.length O) :
    Calls Tryz.prog 67 #[.agg #[vx, vo]] w fun e w' => ∃ v, e = .returned v ∧ NewGrid w.heap.size w' v (tr X) (tr O) ∧ Below w.heap.size w w' := by
  obtain ⟨i0, hi0, hz0, hz1, hz2⟩ := info_parts info_int
  have hmk := fun W => run_make_one (P := Tryz.prog) 22 3 i0 (.int .i64 0) Tryz.underlying22 hi0 hz0 hz1 rfl (by rw [hz2]; decide) X.length (by omega) W
  clear hi0 hz0 hz1 hz2
  have HL := Lib.hid hlen
  clear hlen
  have hX0 := hX
  have hO0 := hO
  obtain ⟨A, c, rfl, hc, hh⟩ := hX
  obtain ⟨A', c', rfl, hc', hh'⟩ := hO
  clear hh hh'
  go_enter Tryz.func67, Tryz.ntmps67
  go_upto_region 2 with fail
  have hW : ((w.alloc (.cells #[.slice A X.length c, .slice A' O.length c'] 24)).alloc (.cells #[.slice none 0 0, .slice none 0 0] 24)).heap[w.heap.size]? = some (.cells #[.slice A X.length c, .slice A' O.length c'] 24 (0, 0)) ∧ ((w.alloc (.cells #[.slice A X.length c, .slice A' O.length c'] 24)).alloc (.cells #[.slice none 0 0, .slice none 0 0] 24)).heap[w.heap.size + 1]? = some (.cells #[.slice none 0 0, .slice none 0 0] 24 (0, 0)) ∧ Below w.heap.size w ((w.alloc (.cells #[.slice A X.length c, .slice A' O.length c'] 24)).alloc (.cells #[.slice none 0 0, .slice none 0 0] 24)) ∧ ((w.alloc (.cells #[.slice A X.length c, .slice A' O.length c'] 24)).alloc (.cells #[.slice none 0 0, .slice none 0 0] 24)).heap.size = w.heap.size + 2 :=
    ⟨(Arr.new _ _ [_, _]).alloc _, Arr.newAt (w.alloc _) _ [_, _] _ (by simp), ((Below.refl _ _).alloc (Nat.le_refl _) _).alloc (by simp) _, by simp⟩
  generalize ((w.alloc (.cells #[.slice A X.length c, .slice A' O.length c'] 24)).alloc (.cells #[.slice none 0 0, .slice none 0 0] 24)) = w2 at hW ⊢
  obtain ⟨hw0, hw1, hb2, hs2⟩ := hW
  have HW0 := Lib.hid hw0
  have HW1 := Lib.hid hw1
  have HS2 := Lib.hid hs2
  clear hw0 hw1 hs2
  go_cut [4, 10, 12] (fun s4 s10 s12 wx => Mid w.heap.size wx s4 s10 s12 (.slice A X.length c) (.slice A' O.length c') (List.replicate X.length 0) (List.replicate X.length 0) ∧ Below w.heap.size w wx)
  case first =>
    go_region
    all_goals
      go_wp2_with fail
      go_meet
      have hs2 := HS2.out
      have hw0 := HW0.out
      have hw1 := HW1.out
      refine ⟨?_, ?_⟩
      rotate_left
      · repeat (first | exact hb2 | refine Below.alloc ?_ (by simp [hs2] <;> omega) _ | refine Below.drew ?_)
      exact mid_of2 w _ _ _ X.length X.length (by simp only [heap_push, heap_drew, Array.getElem?_push, Array.size_push]; repeat (first | rw [if_pos trivial] | rw [if_neg (by omega)] | exact hw0 | exact hw1)) (by simp only [heap_push, heap_drew, Array.getElem?_push, Array.size_push]; repeat (first | rw [if_pos trivial] | rw [if_neg (by omega)] | exact hw0 | exact hw1)) (by simp only [heap_push, heap_drew, Array.getElem?_push, Array.size_push]; repeat (first | rw [if_pos trivial] | rw [if_neg (by omega)] | exact hw0 | exact hw1)) (by simp only [heap_push, heap_drew, Array.getElem?_push, Array.size_push]; repeat (first | rw [if_pos trivial] | rw [if_neg (by omega)] | exact hw0 | exact hw1)) (by simp only [heap_push, heap_drew, Array.getElem?_push, Array.size_push]; repeat (first | rw [if_pos trivial] | rw [if_neg (by omega)] | exact hw0 | exact hw1)) (by omega) (by omega) (by omega) (by omega) (by omega) (by omega)
  case rest =>
    clear hmk
    obtain ⟨⟨g, gx, go, rfl, e14, e16, hm⟩, hb⟩ := hcut
    clear e14 e16
    go_wp2_with fail
    go_loopw [5] (fun i wr => ∃ (k : Nat) (aX aO : List Int), k ≤ X.length ∧ i = .int .i64 k ∧ Mid3 w.heap.size wr g gx go (.slice A X.length c) (.slice A' O.length c') aX aO ∧ Below w.heap.size w wr ∧
      Hid (aX.length = X.length ∧ aO.length = X.length ∧ tr X = relTo mvT true k (X.drop k) aX ∧ tr O = relTo mvT true k (O.drop k) aO)) (fun i _ => X.length - (intOf i).toNat)
    case atStart =>
      exact ⟨0, _, _, Nat.zero_le _, rfl, hm, hb, by simp, by simp, rfl, by simp only [tr, reloc, HL.out, List.drop_zero]⟩
    case round =>
      obtain ⟨k, aX, aO, hk, rfl, hm', hb', H⟩ := hrel
      clear hb hm
      by_cases hlt : k < X.length
      · obtain ⟨b, o, rfl, hbl, hcell⟩ := hX0.at_ hlt
        have hltO : k < O.length := by have := HL.out; omega
        obtain ⟨b', o', rfl, hbl', hcell'⟩ := hO0.at_ hltO
        have hcX := (hb'.cell (p := ⟨b, o + k, none⟩) hbl).trans hcell
        have rx := rX.get hlt
        have ro := rO.get hltO
        rw [relTo_drop mvT true X aX hlt, relTo_drop mvT true O aO hltO, relStep_mvT _ _ _ rx.1, relStep_mvT _ _ _ ro.1] at H
        generalize X[k] = x at *
        generalize O[k] = y at *
        clear hcell
        obtain ⟨x, rfl⟩ := Int.eq_ofNat_of_zero_le rx.1
        obtain ⟨y, rfl⟩ := Int.eq_ofNat_of_zero_le ro.1
        simp only [Int.toNat_natCast] at H
        have hx1 : x < aX.length := by have := H.out.1; omega
        have hy1 : y < aO.length := by have := H.out.2.1; omega
        have w5 := hm'.2.2.2.2.1
        have w6 := hm'.2.2.2.2.2.1
        have n3 := hm'.2.1.symm
        have n4 := hm'.2.2.1.symm
        have n5 : gx ≠ w.heap.size := by omega
        have n6 : go ≠ w.heap.size := by omega
        have n7 : gx ≠ b := by omega
        have n10 : go ≠ b' := by omega
        go_wp2_with fail
        have z0 := hm'.2.2.2.2.2.2.2.2.2.1.cell 0
        have z1 := hm'.2.2.2.2.2.2.1.cell 0
        have z2 := (hm'.2.2.2.2.2.2.2.1.cell x).trans (ints_get _ hx1)
        have z3 := hm'.2.2.2.2.2.2.2.1.frozen x
        have z5 : (x : Int) < (aX.length : Int) := by omega
        have z6 : (k : Int) < (X.length : Int) := by omega
        have z7 : (k : Int) < (O.length : Int) := by omega
        go_region_held3 (fun w' => w'.cell? ⟨w.heap.size, 0, none⟩ = some (.slice (some ⟨b, o, none⟩) X.length c) ∧ w'.cell? ⟨g, 0, none⟩ = some (.slice (some ⟨gx, 0, none⟩) aX.length aX.length) ∧ w'.cell? ⟨b, o + k, none⟩ = some (.int .i64 (x : Int))) (go_keep) (first | fail)
        clear z0 z1 z2 z3 z5 z6 z7
        have hm2 := (hm'.setX x k).drew
        have hb2 := (hb'.setCell (p := ⟨gx, x, none⟩) (by show w.heap.size ≤ gx; omega) (.int .i64 (k : Int))).drew
        have hcO := (hb2.cell (p := ⟨b', o' + k, none⟩) hbl').trans hcell'
        generalize (wr.setCell ⟨gx, x, none⟩ (.int .i64 (k : Int))).drew = wr2 at *
        clear hm' hb' hcX hcell'
        go_wp2_with fail
        have z0 := hm2.2.2.2.2.2.2.2.2.2.1.cell 1
        have z1 := hm2.2.2.2.2.2.2.1.cell 1
        have z2 := (hm2.2.2.2.2.2.2.2.2.1.cell y).trans (ints_get _ hy1)
        have z3 := hm2.2.2.2.2.2.2.2.2.1.frozen y
        have z5 : (y : Int) < (aO.length : Int) := by omega
        have z6 : (k : Int) < (X.length : Int) := by omega
        have z7 : (k : Int) < (O.length : Int) := by omega
        go_region_held3 (fun w' => w'.cell? ⟨w.heap.size, 1, none⟩ = some (.slice (some ⟨b', o', none⟩) O.length c') ∧ w'.cell? ⟨g, 1, none⟩ = some (.slice (some ⟨go, 0, none⟩) aO.length aO.length) ∧ w'.cell? ⟨b', o' + k, none⟩ = some (.int .i64 (y : Int))) (go_keep) (first | fail)
        clear z0 z1 z2 z3 z5 z6 z7
        go_wp2_with fail
        go_roundw
        case rel => exact ⟨k + 1, _, _, by omega, by go_num, (hm2.setO y k).drew, (hb2.setCell (p := ⟨go, y, none⟩) (by show w.heap.size ≤ go; omega) _).drew, by simp [H.out.1], by simp [H.out.2.1], H.out.2.2.1, H.out.2.2.2⟩
        case measure => simp [intOf]; omega
      · obtain rfl : k = X.length := by omega
        obtain ⟨hl1, hl2, hr1, hr2⟩ := H.out
        rw [List.drop_length] at hr1
        rw [HL.out, List.drop_length] at hr2
        have hg0 := hm'.2.2.2.2.2.2.1.cell 0
        have hg1 := hm'.2.2.2.2.2.2.1.cell 1
        obtain ⟨e1, e2, e3, e4, e5, e6, q1, q2, q3, q4, a, b, q5⟩ := hm'
        have hz0 := q5.cell 0
        have hz1 := q5.cell 1
        have hz2 := q5.frozen 0
        have hz3 := q5.frozen 1
        have R1 := Lib.hid hr1
        have R2 := Lib.hid hr2
        have hres := Lib.hid ((q5.set 0 (.slice (some ⟨gx, 0, none⟩) aX.length aX.length)).set 1 (.slice (some ⟨go, 0, none⟩) aO.length aO.length))
        clear hr1 hr2 hl1 hl2 q1 q4 q5 hX0 hO0
        go_wp2_with fail
        refine bodyPost_ret (v := .agg #[.slice (some ⟨gx, 0, none⟩) aX.length aX.length, .slice (some ⟨go, 0, none⟩) aO.length aO.length]) (results_c Tryz.results67 _ _ (w.heap.size + 1) 24 _ _ rfl hres.out Tryz.underlying24 rfl info_grid) rfl ⟨_, rfl, ?_, ?_⟩
        · rw [R1.out, R2.out]
          exact ⟨gx, go, rfl, e1, by omega, by omega, q2.far2 (r := w.heap.size + 1) (by omega), q3.far2 (r := w.heap.size + 1) (by omega)⟩
        · exact bset2 (r := w.heap.size + 1) hb' (by omega)
end Go.Proofs.YteliflcbegcdlaaGreatDoor
