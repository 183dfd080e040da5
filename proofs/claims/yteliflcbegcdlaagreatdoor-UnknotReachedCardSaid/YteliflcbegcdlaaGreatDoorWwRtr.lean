/- The reference's mod and Shift (layer 42). -/
/- The reference's Ints (layer 1) and Same (layer 42). -/
/- cmp.Compare, slices.Compare and grid.compare. -/
/- grid.Least. -/
/- gridmove.Play. -/
/- The reference's Transpose. -/
import Derived.Test.YteliflcbegcdlaaGreatDoorWwUnp
import Derived.Test.YteliflcbegcdlaaGreatDoorWwFresh
import Derived.Deep.RegionHeld3
import Derived.Deep.DeepCutAuto
import Derived.IntWalk
namespace Go.Proofs.YteliflcbegcdlaaGreatDoor
open Go.RowKit
set_option linter.unusedVariables false
theorem mod_any (x : Int) (y n : Nat) (w : World) (hx : x = (y : Int)) (hn : 0 < n) (h1 : y ≤ 1000000) (h2 : n ≤ 1000000) : Calls Tryz.prog 65 #[.int .i64 x, .int .i64 n] w fun e w' => e = .returned (.int .i64 ((y % n : Nat) : Int)) ∧ w = w' := by
  subst hx
  have e1 : Int.tmod (y : Int) (n : Int) = ((y % n : Nat) : Int) := by rw [← Int.ofNat_tmod]
  have hlt := Nat.mod_lt y hn
  obtain ⟨r, hr⟩ : ∃ r, r = y % n := ⟨_, rfl⟩
  rw [← hr] at e1 hlt ⊢
  have e2 : Int.tmod ((r : Int) + (n : Int)) (n : Int) = (r : Int) := by
    rw [show (r : Int) + (n : Int) = ((r + n : Nat) : Int) by omega, ← Int.ofNat_tmod, Nat.add_mod_right, Nat.mod_eq_of_lt hlt]
  have e3 : IntKind.i64.wrap ((r : Int) + (n : Int)) = (r : Int) + (n : Int) := IntWalk.i64_in _ (by omega)
  have n1 : ¬ (n : Int) = 0 := by omega
  have n2 : ¬ n = 0 := by omega
  clear hr hlt
  go_enter Tryz.func65, Tryz.ntmps65
  go_wp2_with fail
  go_ret
  exact ⟨rfl, rfl⟩
set_option maxHeartbeats 2000000 in
theorem refShift_any (vx vo : Value) (X O : List Int) (cc rr : Nat) (w : World) (hX : Ints w vx X) (hO : Ints w vo O) (hv : Vd X O) (hcc : cc < X.length) (hrr : rr < X.length) :
    Calls Tryz.prog 41 #[.agg #[vx, vo], .int .i64 cc, .int .i64 rr] w fun e w' => ∃ v, e = .returned v ∧ NewGrid w.heap.size w' v (trl cc rr X) (trl cc rr O) ∧ Below w.heap.size w w' := by
  obtain ⟨i0, hi0, hz0, hz1, hz2⟩ := info_parts info_int
  have hn := hv.most
  have hmk := fun W => run_make_one (P := Tryz.prog) 22 3 i0 (.int .i64 0) Tryz.underlying22 hi0 hz0 hz1 rfl (by rw [hz2]; decide) X.length (by omega) W
  clear hi0 hz0 hz1 hz2
  have HL := Lib.hid hv.len
  have HVD := Lib.hid hv
  have hn0 : 0 < X.length := by omega
  have HMC := Lib.hid (fun W => mod_any (cc : Int) cc X.length W rfl hn0 (by omega) (by omega))
  have HMR := Lib.hid (fun W => mod_any (rr : Int) rr X.length W rfl hn0 (by omega) (by omega))
  rw [Nat.mod_eq_of_lt hcc] at HMC
  rw [Nat.mod_eq_of_lt hrr] at HMR
  clear hv
  have hX0 := hX
  have hO0 := hO
  obtain ⟨A, c, rfl, hc, hh⟩ := hX
  obtain ⟨A', c', rfl, hc', hh'⟩ := hO
  clear hh hh'
  go_enter Tryz.func41, Tryz.ntmps41
  go_upto_region 2 with fail
  have hW : Arr ((w.alloc (.cells #[.slice A X.length c, .slice A' O.length c'] 24)).alloc (.cells #[.slice none 0 0, .slice none 0 0] 24)) w.heap.size 24 [.slice A X.length c, .slice A' O.length c'] ∧ Arr ((w.alloc (.cells #[.slice A X.length c, .slice A' O.length c'] 24)).alloc (.cells #[.slice none 0 0, .slice none 0 0] 24)) (w.heap.size + 1) 24 [.slice none 0 0, .slice none 0 0] ∧ Below w.heap.size w ((w.alloc (.cells #[.slice A X.length c, .slice A' O.length c'] 24)).alloc (.cells #[.slice none 0 0, .slice none 0 0] 24)) ∧ ((w.alloc (.cells #[.slice A X.length c, .slice A' O.length c'] 24)).alloc (.cells #[.slice none 0 0, .slice none 0 0] 24)).heap.size = w.heap.size + 2 :=
    ⟨(Arr.new _ _ [_, _]).alloc _, Arr.newAt (w.alloc _) _ [_, _] _ (by simp), ((Below.refl _ _).alloc (Nat.le_refl _) _).alloc (by simp) _, by simp⟩
  generalize ((w.alloc (.cells #[.slice A X.length c, .slice A' O.length c'] 24)).alloc (.cells #[.slice none 0 0, .slice none 0 0] 24)) = w2 at hW ⊢
  obtain ⟨q0, q1, hb2, hS2⟩ := hW
  have HW0 := Lib.hid q0
  have HW1 := Lib.hid q1
  have HS2 := Lib.hid hS2
  clear q0 q1 hS2
  go_cut [8, 15, 17] (fun s4 s10 s12 wx => Mid w.heap.size wx s4 s10 s12 (.slice A X.length c) (.slice A' O.length c') (List.replicate X.length 0) (List.replicate X.length 0) ∧ Below w.heap.size w wx)
  case first =>
    go_region
    all_goals
      go_wp2_with fail
      go_meet
      have hs2 := HS2.out
      have hw0 : w2.heap[w.heap.size]? = some (.cells #[.slice A X.length c, .slice A' O.length c'] 24 (0, 0)) := HW0.out
      have hw1 : w2.heap[w.heap.size + 1]? = some (.cells #[.slice none 0 0, .slice none 0 0] 24 (0, 0)) := HW1.out
      refine ⟨?_, ?_⟩
      rotate_left
      · repeat (first | exact hb2 | refine Below.alloc ?_ (by first | omega | (simp; omega)) _ | refine Below.drew ?_)
      exact mid_of2 w _ _ _ X.length X.length (by simp only [heap_push, heap_drew, Array.getElem?_push, Array.size_push]; repeat (first | rw [if_pos trivial] | rw [if_neg (by omega)] | exact hw0 | exact hw1)) (by simp only [heap_push, heap_drew, Array.getElem?_push, Array.size_push]; repeat (first | rw [if_pos trivial] | rw [if_neg (by omega)] | exact hw0 | exact hw1)) (by simp only [heap_push, heap_drew, Array.getElem?_push, Array.size_push]; repeat (first | rw [if_pos trivial] | rw [if_neg (by omega)] | exact hw0 | exact hw1)) (by simp only [heap_push, heap_drew, Array.getElem?_push, Array.size_push]; repeat (first | rw [if_pos trivial] | rw [if_neg (by omega)] | exact hw0 | exact hw1)) (by simp only [heap_push, heap_drew, Array.getElem?_push, Array.size_push]; repeat (first | rw [if_pos trivial] | rw [if_neg (by omega)] | exact hw0 | exact hw1)) (by omega) (by omega) (by omega) (by omega) (by omega) (by omega)
  case rest =>
    clear hmk
    obtain ⟨⟨g, gx, go, rfl, e14, e16, hm⟩, hb⟩ := hcut
    clear e14 e16
    go_wp2_with fail
    go_loopw [9] (fun i wr => ∃ (k : Nat) (aX aO : List Int), k ≤ X.length ∧ i = .int .i64 k ∧ Mid3 w.heap.size wr g gx go (.slice A X.length c) (.slice A' O.length c') aX aO ∧ Below w.heap.size w wr ∧
      Hid (aX.length = X.length ∧ aO.length = X.length ∧ trl cc rr X = relTo (mvTr X.length cc rr) true k (X.drop k) aX ∧ trl cc rr O = relTo (mvTr X.length cc rr) true k (O.drop k) aO)) (fun i _ => X.length - (intOf i).toNat)
    case atStart =>
      exact ⟨0, _, _, Nat.zero_le _, rfl, hm, hb, by simp, by simp, rfl, by unfold trl reloc; rw [← HL.out]; rfl⟩
    case round =>
      obtain ⟨k, aX, aO, hk, rfl, hm', hb', H⟩ := hrel
      clear hb hm
      by_cases hlt : k < X.length
      · obtain ⟨b, o, rfl, hbl, hcell⟩ := hX0.at_ hlt
        have hltO : k < O.length := by have := HL.out; omega
        obtain ⟨b', o', rfl, hbl', hcell'⟩ := hO0.at_ hltO
        have hcX := (hb'.cell (p := ⟨b, o + k, none⟩) hbl).trans hcell
        have rx := HVD.out.pX.1 _ (List.getElem_mem hlt)
        have ro := HVD.out.pO.1 _ (List.getElem_mem hltO)
        rw [relTo_drop (mvTr X.length cc rr) true X aX hlt, relTo_drop (mvTr X.length cc rr) true O aO hltO] at H
        generalize X[k] = x at *
        generalize O[k] = y at *
        clear hcell
        obtain ⟨x, rfl⟩ := Int.eq_ofNat_of_zero_le rx.1
        obtain ⟨y, rfl⟩ := Int.eq_ofNat_of_zero_le ro.1
        have hyl : (y : Int) < (X.length : Int) := by have := ro.2; have := HL.out; omega
        rw [relStep_mvTr _ _ _ _ _ _ hn0, relStep_mvTr _ _ _ _ _ _ hn0] at H
        obtain ⟨p, hp⟩ : ∃ p, p = (k + cc) % X.length := ⟨_, rfl⟩
        have hpn : p < X.length := by rw [hp]; exact Nat.mod_lt _ hn0
        rw [← hp] at H
        have HMP := Lib.hid (fun W => mod_any ((k : Int) + (cc : Int)) (k + cc) X.length W (by omega) hn0 (by omega) (by omega))
        have HMx := Lib.hid (fun W => mod_any ((x : Int) + (rr : Int)) (x + rr) X.length W (by omega) hn0 (by have := rx.2; omega) (by omega))
        have HMy := Lib.hid (fun W => mod_any ((y : Int) + (rr : Int)) (y + rr) X.length W (by omega) hn0 (by omega) (by omega))
        rw [← hp] at HMP
        obtain ⟨u, hu⟩ : ∃ u, u = (x + rr) % X.length := ⟨_, rfl⟩
        obtain ⟨v, hv⟩ : ∃ v, v = (y + rr) % X.length := ⟨_, rfl⟩
        have hu2 : ((x : Int) + (rr : Int)) % (X.length : Int) = (u : Int) := by rw [hu]; rfl
        have hv2 : ((y : Int) + (rr : Int)) % (X.length : Int) = (v : Int) := by rw [hv]; rfl
        rw [hu2, hv2] at H
        rw [← hu] at HMx
        rw [← hv] at HMy
        clear hp hu hv hu2 hv2
        have hp1 : p < aX.length := by have := H.out.1; omega
        have hp2 : p < aO.length := by have := H.out.2.1; omega
        have w5 := hm'.2.2.2.2.1
        have w6 := hm'.2.2.2.2.2.1
        have n3 := hm'.2.1.symm
        have n4 := hm'.2.2.1.symm
        have n5 : gx ≠ w.heap.size := by omega
        have n6 : go ≠ w.heap.size := by omega
        have n7 : gx ≠ b := by omega
        have n10 : go ≠ b' := by omega
        have za : IntKind.i64.wrap ((k : Int) + (cc : Int)) = (k : Int) + (cc : Int) := IntWalk.i64_in _ (by omega)
        have zk : (k : Int) < (X.length : Int) := by omega
        go_upto_region 7 with (first | (go_at_call_of 65 (Value.int .i64 (cc : Int)); refine (HMC.out _).mono ?_; rintro e wq ⟨rfl, rfl⟩) | (go_at_call_of 65 (Value.int .i64 ((k : Int) + (cc : Int))); refine (HMP.out _).mono ?_; rintro e wq ⟨rfl, rfl⟩))
        have z0 := hm'.2.2.2.2.2.2.2.2.2.1.cell 0
        have z1 := hm'.2.2.2.2.2.2.1.cell 0
        have z2 := (hm'.2.2.2.2.2.2.2.1.cell p).trans (ints_get _ hp1)
        have z3 := hm'.2.2.2.2.2.2.2.1.frozen p
        have z5 : (p : Int) < (aX.length : Int) := by omega
        have z6 : (k : Int) < (X.length : Int) := by omega
        have z7 : (k : Int) < (O.length : Int) := by omega
        have z8 : IntKind.i64.wrap ((x : Int) + (rr : Int)) = (x : Int) + (rr : Int) := IntWalk.i64_in _ (by omega)
        go_region_held3 (fun w' => w'.cell? ⟨w.heap.size, 0, none⟩ = some (.slice (some ⟨b, o, none⟩) X.length c) ∧ w'.cell? ⟨g, 0, none⟩ = some (.slice (some ⟨gx, 0, none⟩) aX.length aX.length) ∧ w'.cell? ⟨b, o + k, none⟩ = some (.int .i64 (x : Int))) (go_keep)
          (first
            | (go_at_call_of 65 (Value.int .i64 (rr : Int)); refine (HMR.out _).mono ?_; rintro e wq ⟨rfl, rfl⟩)
            | (go_at_call_of 65 (Value.int .i64 ((x : Int) + (rr : Int))); refine (HMx.out _).mono ?_; rintro e wq ⟨rfl, rfl⟩))
        clear z0 z1 z2 z3 z5 z6 z7 z8
        have hm2 := (hm'.setX p u).drew
        have hb2 := (hb'.setCell (p := ⟨gx, p, none⟩) (by show w.heap.size ≤ gx; omega) (.int .i64 (u : Int))).drew
        have hcO := (hb2.cell (p := ⟨b', o' + k, none⟩) hbl').trans hcell'
        generalize (wr.setCell ⟨gx, p, none⟩ (.int .i64 (u : Int))).drew = wr2 at *
        clear hm' hb' hcX hcell'
        go_wp2_with fail
        have z0 := hm2.2.2.2.2.2.2.2.2.2.1.cell 1
        have z1 := hm2.2.2.2.2.2.2.1.cell 1
        have z2 := (hm2.2.2.2.2.2.2.2.2.1.cell p).trans (ints_get _ hp2)
        have z3 := hm2.2.2.2.2.2.2.2.2.1.frozen p
        have z5 : (p : Int) < (aO.length : Int) := by omega
        have z6 : (k : Int) < (X.length : Int) := by omega
        have z7 : (k : Int) < (O.length : Int) := by omega
        have z8 : IntKind.i64.wrap ((y : Int) + (rr : Int)) = (y : Int) + (rr : Int) := IntWalk.i64_in _ (by omega)
        go_region_held3 (fun w' => w'.cell? ⟨w.heap.size, 1, none⟩ = some (.slice (some ⟨b', o', none⟩) O.length c') ∧ w'.cell? ⟨g, 1, none⟩ = some (.slice (some ⟨go, 0, none⟩) aO.length aO.length) ∧ w'.cell? ⟨b', o' + k, none⟩ = some (.int .i64 (y : Int))) (go_keep)
          (first
            | (go_at_call_of 65 (Value.int .i64 (rr : Int)); refine (HMR.out _).mono ?_; rintro e wq ⟨rfl, rfl⟩)
            | (go_at_call_of 65 (Value.int .i64 ((y : Int) + (rr : Int))); refine (HMy.out _).mono ?_; rintro e wq ⟨rfl, rfl⟩))
        clear z0 z1 z2 z3 z5 z6 z7 z8
        go_wp2_with fail
        go_roundw
        case rel => exact ⟨k + 1, _, _, by omega, by go_num, (hm2.setO p v).drew, (hb2.setCell (p := ⟨go, p, none⟩) (by show w.heap.size ≤ go; omega) _).drew, by simp [H.out.1], by simp [H.out.2.1], H.out.2.2.1, H.out.2.2.2⟩
        case measure => simp [intOf]; omega
      · obtain rfl : k = X.length := by omega
        obtain ⟨hl1, hl2, hr1, hr2⟩ := H.out
        rw [List.drop_length] at hr1
        rw [HL.out, List.drop_length] at hr2
        have hg0 := hm'.2.2.2.2.2.2.1.cell 0
        have hg1 := hm'.2.2.2.2.2.2.1.cell 1
        obtain ⟨e1, e2, e3, e4, e5, e6, q1, q2, q3, q4, a, b, q5⟩ := hm'
        have hz0 := q5.cell 0
        have hz1 := q5.cell 1
        have hz2 := q5.frozen 0
        have hz3 := q5.frozen 1
        have R1 := Lib.hid hr1
        have R2 := Lib.hid hr2
        have hres := Lib.hid ((q5.set 0 (.slice (some ⟨gx, 0, none⟩) aX.length aX.length)).set 1 (.slice (some ⟨go, 0, none⟩) aO.length aO.length))
        clear hr1 hr2 hl1 hl2 q1 q4 q5 hX0 hO0
        go_wp2_with fail
        refine bodyPost_ret (v := .agg #[.slice (some ⟨gx, 0, none⟩) aX.length aX.length, .slice (some ⟨go, 0, none⟩) aO.length aO.length]) (results_c Tryz.results41 _ _ (w.heap.size + 1) 24 _ _ rfl hres.out Tryz.underlying24 rfl info_grid) rfl ⟨_, rfl, ?_, ?_⟩
        · rw [R1.out, R2.out]
          exact ⟨gx, go, rfl, e1, by omega, by omega, q2.far2 (r := w.heap.size + 1) (by omega), q3.far2 (r := w.heap.size + 1) (by omega)⟩
        · exact bset2 (r := w.heap.size + 1) hb' (by omega)
end Go.Proofs.YteliflcbegcdlaaGreatDoor

namespace Go.Proofs.YteliflcbegcdlaaGreatDoor
open Go.RowKit
set_option linter.unusedVariables false
theorem drop_eq_iff {X Y : List Int} {k : Nat} (h : k < X.length) (h' : k < Y.length) : X.drop k = Y.drop k ↔ X[k] = Y[k] ∧ X.drop (k + 1) = Y.drop (k + 1) := by
  rw [List.drop_eq_getElem_cons h, List.drop_eq_getElem_cons h', List.cons.injEq]
set_option maxHeartbeats 1000000 in
theorem refInts_any (vx vy : Value) (X Y : List Int) (w : World) (hX : Ints w vx X) (hY : Ints w vy Y) (hl : X.length ≤ 1000) (hl' : Y.length ≤ 1000) :
    Calls Tryz.prog 27 #[vx, vy] w fun e w' => e = .returned (.bool (decide (X = Y))) ∧ Below w.heap.size w w' := by
  have hX0 := hX
  have hY0 := hY
  obtain ⟨A, c, rfl, hc, hh⟩ := hX
  obtain ⟨A', c', rfl, hc', hh'⟩ := hY
  clear hh hh' hc hc'
  by_cases hlen : X.length = Y.length
  rotate_left
  · have z1 : ((X.length : Int) != (Y.length : Int)) = true := by simp; omega
    have hfin := Lib.hid (show decide (X = Y) = false from decide_eq_false (fun e => hlen (by rw [e])))
    clear hlen
    go_enter Tryz.func27, Tryz.ntmps27
    go_wp2_with fail
    go_ret
    exact ⟨by rw [hfin.out]; rfl, Below.refl _ _⟩
  have z1 : ((X.length : Int) != (Y.length : Int)) = false := by simp; omega
  have HL := Lib.hid hlen
  clear hlen
  go_enter Tryz.func27, Tryz.ntmps27
  go_wp2_with fail
  clear z1
  go_loopw [5] (fun i wr => ∃ k : Nat, k ≤ X.length ∧ i = .int .i64 k ∧ Below w.heap.size w wr ∧ Hid (X = Y ↔ X.drop k = Y.drop k)) (fun i _ => X.length - (intOf i).toNat)
  case atStart => exact ⟨0, Nat.zero_le _, rfl, Below.refl _ _, Iff.rfl⟩
  case round =>
    obtain ⟨k, hk, rfl, hb, H⟩ := hrel
    by_cases hlt : k < X.length
    · have hlt' : k < Y.length := by have := HL.out; omega
      obtain ⟨b, o, rfl, hbl, hcell⟩ := hX0.at_ hlt
      obtain ⟨b', o', rfl, hbl', hcell'⟩ := hY0.at_ hlt'
      have hcX := (hb.cell (p := ⟨b, o + k, none⟩) hbl).trans hcell
      have hcY := (hb.cell (p := ⟨b', o' + k, none⟩) hbl').trans hcell'
      rw [drop_eq_iff hlt hlt'] at H
      generalize X[k] = x at *
      generalize Y[k] = y at *
      clear hcell hcell' hX0 hY0
      have z2 : (k : Int) < (X.length : Int) := by omega
      have z3 : (k : Int) < (Y.length : Int) := by omega
      by_cases hxy : x = y
      · have h1 : (x != y) = false := by simp [hxy]
        have H2 := Lib.hid (show X = Y ↔ X.drop (k + 1) = Y.drop (k + 1) from H.out.trans ⟨fun h => h.2, fun h => ⟨hxy, h⟩⟩)
        clear hxy H
        go_wp2_with fail
        go_quiet (fail)
        go_wp2_with fail
        go_roundw
        case rel => exact ⟨k + 1, by omega, by go_num, bdrewN hb _, H2⟩
        case measure => simp [intOf]; omega
      · have h1 : (x != y) = true := by simp [hxy]
        have hfin := Lib.hid (show decide (X = Y) = false from decide_eq_false (fun e => hxy (H.out.1 e).1))
        clear hxy H
        go_wp2_with fail
        go_quiet (fail)
        go_wp2_with fail
        go_ret
        exact ⟨by rw [hfin.out]; rfl, bdrewN hb _⟩
    · obtain rfl : k = X.length := by omega
      have hfin := Lib.hid (show decide (X = Y) = true from decide_eq_true (H.out.2 (by rw [List.drop_length, HL.out, List.drop_length])))
      clear H
      go_wp2_with fail
      go_ret
      exact ⟨by rw [hfin.out]; rfl, hb⟩
set_option maxHeartbeats 1000000 in
theorem refSame_any (va vb vc vd : Value) (X O Y R : List Int) (w : World) (hX : Ints w va X) (hO : Ints w vb O) (hY : Ints w vc Y) (hR : Ints w vd R) (l1 : X.length ≤ 1000) (l2 : O.length ≤ 1000) (l3 : Y.length ≤ 1000) (l4 : R.length ≤ 1000) :
    Calls Tryz.prog 11 #[.agg #[va, vb], .agg #[vc, vd]] w fun e w' => e = .returned (.bool (decide ((X, O) = (Y, R)))) ∧ Below w.heap.size w w' := by
  have H1 := Lib.hid (fun W (hb : Below w.heap.size w W) => refInts_any va vc X Y W (hX.below hb) (hY.below hb) l1 l3)
  have H2 := Lib.hid (fun W (hb : Below w.heap.size w W) => refInts_any vb vd O R W (hO.below hb) (hR.below hb) l2 l4)
  obtain ⟨A, c, rfl, -, -⟩ := hX
  obtain ⟨A1, c1, rfl, -, -⟩ := hO
  obtain ⟨A2, c2, rfl, -, -⟩ := hY
  obtain ⟨A3, c3, rfl, -, -⟩ := hR
  have hd : decide ((X, O) = (Y, R)) = (decide (X = Y) && decide (O = R)) := by
    by_cases h1 : X = Y <;> by_cases h2 : O = R <;> simp [h1, h2]
  have HD := Lib.hid hd
  obtain ⟨b1, hb1⟩ : ∃ b, b = decide (X = Y) := ⟨_, rfl⟩
  obtain ⟨b2, hb2⟩ : ∃ b, b = decide (O = R) := ⟨_, rfl⟩
  rw [← hb1] at H1 HD
  rw [← hb2] at H2 HD
  rw [HD.out]
  clear hd hb1 hb2 l1 l2 l3 l4 HD
  go_enter Tryz.func11, Tryz.ntmps11
  go_upto_region 1 with fail
  have hW : ∀ W, W = ((w.alloc (.cells #[.slice A X.length c, .slice A1 O.length c1] 24)).alloc (.cells #[.slice A2 Y.length c2, .slice A3 R.length c3] 24)) → Arr W w.heap.size 24 [.slice A X.length c, .slice A1 O.length c1] ∧ Arr W (w.heap.size + 1) 24 [.slice A2 Y.length c2, .slice A3 R.length c3] ∧ Below w.heap.size w W := by
    rintro W rfl
    exact ⟨(Arr.new _ _ [_, _]).alloc _, Arr.newAt (w.alloc _) _ [_, _] _ (by simp), ((Below.refl _ _).alloc (Nat.le_refl _) _).alloc (by simp) _⟩
  generalize ((w.alloc (.cells #[.slice A X.length c, .slice A1 O.length c1] 24)).alloc (.cells #[.slice A2 Y.length c2, .slice A3 R.length c3] 24)) = w2 at hW ⊢
  obtain ⟨q1, q2, hb2⟩ := hW w2 rfl
  have y0 := q1.cell 0
  have y1 := q1.cell 1
  have z0 := q2.cell 0
  have z1 := q2.cell 1
  clear hW
  go_wp2_with fail
  refine (H1.out w2 hb2).mono ?_
  rintro e3 w3 ⟨rfl, hb3⟩
  have y1 := (hb3.cell q1.lt).trans y1
  have z1 := (hb3.cell q2.lt).trans z1
  have HB3 := Lib.hid (hb2.trans (hb3.mono hb2.size))
  clear y0 z0 hb3 hb2
  cases b1 with
  | false =>
    go_wp2_with fail
    go_ret
    exact ⟨by simp, HB3.out⟩
  | true =>
    go_wp2_with fail
    refine (H2.out w3 HB3.out).mono ?_
    rintro e4 w4 ⟨rfl, hb4⟩
    have HB4 := Lib.hid (HB3.out.trans (hb4.mono HB3.out.size))
    clear y1 z1 hb4
    go_wp2_with fail
    go_ret
    exact ⟨by simp, HB4.out⟩
end Go.Proofs.YteliflcbegcdlaaGreatDoor

namespace Go.Proofs.YteliflcbegcdlaaGreatDoor
open Go.RowKit
set_option linter.unusedVariables false
theorem isNaN_any (x : Int) (w : World) : Calls Tryz.prog 39 #[.int .i64 x] w fun e w' => e = .returned (.bool false) ∧ w = w' := by
  have h : (x != x) = false := by simp
  go_enter Tryz.func39, Tryz.ntmps39
  go_wp2_with fail
  go_ret
  exact ⟨rfl, rfl⟩
def cmpI (x y : Int) : Int := if x < y then -1 else if y < x then 1 else 0
set_option maxHeartbeats 400000 in
theorem cmpCompare_any (x y : Int) (w : World) : Calls Tryz.prog 19 #[.int .i64 x, .int .i64 y] w fun e w' => e = .returned (.int .i64 (cmpI x y)) ∧ w = w' := by
  by_cases h1 : x < y
  · have hfin := Lib.hid (show cmpI x y = -1 by simp [cmpI, h1])
    go_enter Tryz.func19, Tryz.ntmps19
    go_wp2_with fail
    refine (isNaN_any _ _).mono ?_
    rintro e w' ⟨rfl, rfl⟩
    go_wp2_with fail
    refine (isNaN_any _ _).mono ?_
    rintro e w' ⟨rfl, rfl⟩
    go_wp2_with fail
    go_ret
    exact ⟨by rw [hfin.out]; rfl, rfl⟩
  · by_cases h2 : y < x
    · have hfin := Lib.hid (show cmpI x y = 1 by simp [cmpI, h1, h2])
      go_enter Tryz.func19, Tryz.ntmps19
      go_wp2_with fail
      refine (isNaN_any _ _).mono ?_
      rintro e w' ⟨rfl, rfl⟩
      go_wp2_with fail
      refine (isNaN_any _ _).mono ?_
      rintro e w' ⟨rfl, rfl⟩
      go_wp2_with fail
      go_ret
      exact ⟨by rw [hfin.out]; rfl, rfl⟩
    · have hfin := Lib.hid (show cmpI x y = 0 by simp [cmpI, h1, h2])
      go_enter Tryz.func19, Tryz.ntmps19
      go_wp2_with fail
      refine (isNaN_any _ _).mono ?_
      rintro e w' ⟨rfl, rfl⟩
      go_wp2_with fail
      refine (isNaN_any _ _).mono ?_
      rintro e w' ⟨rfl, rfl⟩
      go_wp2_with fail
      go_ret
      exact ⟨by rw [hfin.out]; rfl, rfl⟩
theorem cmpL_drop (X Y : List Int) (k : Nat) (h : k < X.length) (h' : k < Y.length) : cmpL (X.drop k) (Y.drop k) = if cmpI X[k] Y[k] ≠ 0 then cmpI X[k] Y[k] else cmpL (X.drop (k + 1)) (Y.drop (k + 1)) := by
  rw [List.drop_eq_getElem_cons h, List.drop_eq_getElem_cons h', cmpL]
  unfold cmpI
  by_cases h1 : X[k] < Y[k]
  · simp [h1]
  · by_cases h2 : Y[k] < X[k] <;> simp [h1, h2]
set_option maxHeartbeats 1000000 in
theorem slicesCompare_any (vx vy : Value) (X Y : List Int) (w : World) (hX : Ints w vx X) (hY : Ints w vy Y) (hl : X.length ≤ 1000000) (hl' : Y.length ≤ 1000000) :
    Calls Tryz.prog 20 #[vx, vy] w fun e w' => e = .returned (.int .i64 (cmpL X Y)) ∧ w = w' := by
  have hX0 := hX
  have hY0 := hY
  obtain ⟨A, c, rfl, hc, hh⟩ := hX
  obtain ⟨A', c', rfl, hc', hh'⟩ := hY
  clear hh hh'
  go_enter Tryz.func20, Tryz.ntmps20
  go_wp2_with fail
  go_loop [11] (fun i => ∃ k : Nat, k ≤ X.length ∧ k ≤ Y.length ∧ i = .int .i64 k ∧ Hid (cmpL X Y = cmpL (X.drop k) (Y.drop k))) (fun i => X.length - (intOf i).toNat)
  case atStart => exact ⟨0, Nat.zero_le _, Nat.zero_le _, rfl, rfl⟩
  case round =>
    obtain ⟨k, hk, hk', rfl, H⟩ := hrel
    by_cases hlt : k < X.length
    · obtain ⟨b, o, rfl, hbl, hcell⟩ := hX0.at_ hlt
      by_cases hlt' : k < Y.length
      · obtain ⟨b', o', rfl, hbl', hcell'⟩ := hY0.at_ hlt'
        rw [cmpL_drop X Y k hlt hlt'] at H
        generalize X[k] = x at *
        generalize Y[k] = y at *
        have u : ¬ (Y.length : Int) ≤ (k : Int) := by omega
        go_wp2_with fail
        refine (cmpCompare_any x y _).mono ?_
        rintro e w' ⟨rfl, rfl⟩
        generalize cmpI x y = d at *
        by_cases hd : d = 0
        · have u2 : (d != 0) = false := by simpa using hd
          rw [if_neg (by simpa using hd)] at H
          clear hd
          go_wp2_with fail
          go_round
          case rel => exact ⟨k + 1, by omega, by omega, by go_num, H⟩
          case measure => simp [intOf]; omega
        · have u2 : (d != 0) = true := by simpa using hd
          rw [if_pos hd] at H
          clear hd
          go_wp2_with fail
          go_ret
          exact ⟨by rw [H.out]; rfl, rfl⟩
      · have u : (Y.length : Int) ≤ (k : Int) := by omega
        have hfin := Lib.hid (show cmpL X Y = 1 by rw [H.out, List.drop_eq_getElem_cons hlt, List.drop_eq_nil_of_le (by omega : Y.length ≤ k)]; rfl)
        go_wp2_with fail
        go_ret
        exact ⟨by rw [hfin.out]; rfl, rfl⟩
    · by_cases hlt' : X.length < Y.length
      · have u : (X.length : Int) < (Y.length : Int) := by omega
        have hfin := Lib.hid (show cmpL X Y = -1 by rw [H.out, List.drop_eq_nil_of_le (by omega : X.length ≤ k), List.drop_eq_getElem_cons (by omega : k < Y.length)]; rfl)
        go_wp2_with fail
        go_ret
        exact ⟨by rw [hfin.out]; rfl, rfl⟩
      · have u : ¬ (X.length : Int) < (Y.length : Int) := by omega
        have hfin := Lib.hid (show cmpL X Y = 0 by rw [H.out, List.drop_eq_nil_of_le (by omega : X.length ≤ k), List.drop_eq_nil_of_le (by omega : Y.length ≤ k)]; rfl)
        go_wp2_with fail
        go_ret
        exact ⟨by rw [hfin.out]; rfl, rfl⟩
set_option maxHeartbeats 1000000 in
theorem gridCompare_any (vx vo vx2 vo2 : Value) (X O X2 O2 : List Int) (w : World) (hX : Ints w vx X) (hO : Ints w vo O) (hX2 : Ints w vx2 X2) (hO2 : Ints w vo2 O2) (l1 : X.length ≤ 1000) (l2 : O.length ≤ 1000) (l3 : X2.length ≤ 1000) (l4 : O2.length ≤ 1000) :
    Calls Tryz.prog 72 #[.agg #[vx, vo], .agg #[vx2, vo2]] w fun e w' => e = .returned (.int .i64 (cmpP (X, O) (X2, O2))) ∧ Below w.heap.size w w' := by
  have hX0 := hX
  have hO0 := hO
  have hX3 := hX2
  have hO3 := hO2
  obtain ⟨A, c, rfl, hc, hh⟩ := hX
  obtain ⟨A', c', rfl, hc', hh'⟩ := hO
  obtain ⟨A2, c2, rfl, hc2, hh2⟩ := hX2
  obtain ⟨A2', c2', rfl, hc2', hh2'⟩ := hO2
  clear hh hh' hh2 hh2'
  by_cases h0 : cmpL X X2 = 0
  · have hfin := Lib.hid (show cmpP (X, O) (X2, O2) = cmpL O O2 by unfold cmpP; rw [if_neg (by simpa using h0)])
    have H0 := Lib.hid h0
    clear h0
    go_enter Tryz.func72, Tryz.ntmps72
    go_wp2_with fail
    refine (slicesCompare_any _ _ X X2 _ ((hX0.alloc _).alloc _) ((hX3.alloc _).alloc _) (by omega) (by omega)).mono ?_
    rw [H0.out]
    rintro e w1 ⟨rfl, rfl⟩
    go_wp2_with fail
    refine (slicesCompare_any _ _ O O2 _ ((hO0.alloc _).alloc _) ((hO3.alloc _).alloc _) (by omega) (by omega)).mono ?_
    rintro e w1 ⟨rfl, rfl⟩
    go_wp2_with fail
    go_ret
    exact ⟨by rw [hfin.out]; rfl, by repeat (first | exact Below.refl _ _ | refine Below.alloc ?_ (by simp <;> omega) _)⟩
  · have hfin := Lib.hid (show cmpP (X, O) (X2, O2) = cmpL X X2 by unfold cmpP; rw [if_pos (by simpa using h0)])
    obtain ⟨d, hd⟩ : ∃ d, cmpL X X2 = d := ⟨_, rfl⟩
    rw [hd] at h0 hfin
    have HD := Lib.hid hd
    clear hd
    have u : (d != 0) = true := by simpa using h0
    clear h0
    go_enter Tryz.func72, Tryz.ntmps72
    go_wp2_with fail
    refine (slicesCompare_any _ _ X X2 _ ((hX0.alloc _).alloc _) ((hX3.alloc _).alloc _) (by omega) (by omega)).mono ?_
    rw [HD.out]
    rintro e w1 ⟨rfl, rfl⟩
    go_wp2_with fail
    go_ret
    exact ⟨by rw [hfin.out]; rfl, by repeat (first | exact Below.refl _ _ | refine Below.alloc ?_ (by simp <;> omega) _)⟩
end Go.Proofs.YteliflcbegcdlaaGreatDoor

namespace Go.Proofs.YteliflcbegcdlaaGreatDoor
open Go.RowKit
set_option linter.unusedVariables false
/-- a pair of slices that reads as p -/
def RdP (w : World) (v0 v1 : Value) (p : List Int × List Int) : Prop := Ints w v0 p.1 ∧ Ints w v1 p.2
set_option maxHeartbeats 4000000 in
theorem least_any (vx vo : Value) (X O : List Int) (w : World) (hX : Ints w vx X) (hO : Ints w vo O) (hv : Vd X O) :
    Calls Tryz.prog 46 #[.agg #[vx, vo]] w fun e w' => ∃ p A0 c0 A1 c1, e = .returned (.tuple #[.agg #[.slice A0 X.length c0, .slice A1 X.length c1], .int .i64 0]) ∧ RdP w' (.slice A0 X.length c0) (.slice A1 X.length c1) p ∧ IsL X O X.length p ∧ Below w.heap.size w w' := by
  have h40 := hv.most
  have h2 := hv.two
  have HL := Lib.hid hv.len
  have lO : O.length ≤ 40 := by have := HL.out; omega
  have HV := Lib.hid hv
  clear hv
  have hX0 := hX
  have hO0 := hO
  obtain ⟨A, c, rfl, hc, hh⟩ := hX
  obtain ⟨A', c', rfl, hc', hh'⟩ := hO
  clear hh hh'
  go_enter Tryz.func46, Tryz.ntmps46
  go_wp2_with fail
  have hW : Arr ((w.alloc (.cells #[.slice A X.length c, .slice A' O.length c'] 24)).alloc (.cells #[.slice none 0 0, .slice none 0 0] 24)) w.heap.size 24 [.slice A X.length c, .slice A' O.length c'] ∧ Arr ((w.alloc (.cells #[.slice A X.length c, .slice A' O.length c'] 24)).alloc (.cells #[.slice none 0 0, .slice none 0 0] 24)) (w.heap.size + 1) 24 [.slice none 0 0, .slice none 0 0] ∧ Below w.heap.size w ((w.alloc (.cells #[.slice A X.length c, .slice A' O.length c'] 24)).alloc (.cells #[.slice none 0 0, .slice none 0 0] 24)) :=
    ⟨(Arr.new _ _ [_, _]).alloc _, Arr.newAt (w.alloc _) _ [_, _] _ (by simp), ((Below.refl _ _).alloc (Nat.le_refl _) _).alloc (by simp) _⟩
  generalize ((w.alloc (.cells #[.slice A X.length c, .slice A' O.length c'] 24)).alloc (.cells #[.slice none 0 0, .slice none 0 0] 24)) = w4 at hW ⊢
  obtain ⟨q0, q1, hb4⟩ := hW
  refine (valid_any _ _ X O _ (hX0.below hb4) (hO0.below hb4) (by omega) (by omega)).mono ?_
  rw [(validB_iff X O).2 HV.out]
  rintro e w5 ⟨rfl, hb5⟩
  have hbw5 := hb4.trans (hb5.mono hb4.size)
  have p0 := q0.below hb5 q0.lt
  have p1 := q1.below hb5 q1.lt
  clear q0 q1 hb5 hb4
  have y0 := p0.cell 0
  have y1 := p0.cell 1
  have l1 := p1.lt
  go_wp2_with fail
  have hW : Arr (w5.alloc (.cells #[.slice none 0 0, .slice none 0 0] 24)) w5.heap.size 24 [.slice none 0 0, .slice none 0 0] ∧ Arr (w5.alloc (.cells #[.slice none 0 0, .slice none 0 0] 24)) w.heap.size 24 [.slice A X.length c, .slice A' O.length c'] ∧ Arr (w5.alloc (.cells #[.slice none 0 0, .slice none 0 0] 24)) (w.heap.size + 1) 24 [.slice none 0 0, .slice none 0 0] ∧ Below w.heap.size w (w5.alloc (.cells #[.slice none 0 0, .slice none 0 0] 24)) :=
    ⟨Arr.new _ _ [_, _], p0.alloc _, p1.alloc _, hbw5.alloc hbw5.size _⟩
  clear y0 y1 p0 p1 hbw5
  generalize hB : w5.heap.size = B at *
  generalize w5.alloc (.cells #[.slice none 0 0, .slice none 0 0] 24) = w6 at hW ⊢
  clear hB
  obtain ⟨s5, p0, p1, hbw⟩ := hW
  go_loopw [16] (fun i wr => ∃ (k : Nat) (A0 A1 : Option Addr) (n0 c0 n1 c1 : Nat) (p : List Int × List Int), k ≤ X.length ∧ i = .int .i64 k ∧ Arr wr B 24 [.slice A0 n0 c0, .slice A1 n1 c1] ∧ IntsE (fun b => b = B ∨ b = w.heap.size + 1) wr (.slice A0 n0 c0) p.1 ∧ IntsE (fun b => b = B ∨ b = w.heap.size + 1) wr (.slice A1 n1 c1) p.2 ∧ Arr wr w.heap.size 24 [.slice A X.length c, .slice A' O.length c'] ∧ Arr wr (w.heap.size + 1) 24 [.slice none 0 0, .slice none 0 0] ∧ Below w.heap.size w wr ∧ Hid (0 < k → IsL X O k p) ∧ Hid (0 < k → p.1.length = X.length ∧ p.2.length = X.length)) (fun i _ => X.length - (intOf i).toNat)
  case atStart => exact ⟨0, none, none, 0, 0, 0, 0, ([], []), Nat.zero_le _, rfl, s5, IntsE.nil _ _, IntsE.nil _ _, p0, p1, hbw, fun h => absurd h (by omega), fun h => absurd h (by omega)⟩
  case round =>
    clear s5 p0 p1 hbw
    obtain ⟨k, A0, A1, n0, c0, n1, c1, p, hk, rfl, s5, i1, i2, p0, p1, hbr, HI, HLN⟩ := hrel
    by_cases hlt : k < X.length
    · obtain ⟨b, o, rfl, hbl, hcell⟩ := hX0.at_ hlt
      have hg := HV.out.pX.gt_rng hlt
      rw [← gt_get hlt] at hcell
      have HC := Lib.hid (show cand X O k = (trl ((X.length - k) % X.length) ((X.length - (gt X k).toNat) % X.length) X, trl ((X.length - k) % X.length) ((X.length - (gt X k).toNat) % X.length) O) from rfl)
      generalize gt X k = x at *
      obtain ⟨x, rfl⟩ := Int.eq_ofNat_of_zero_le hg.1
      rw [Int.toNat_natCast] at HC
      have z1 := (hbr.cell (p := ⟨b, o + k, none⟩) hbl).trans hcell
      have y0 := p0.cell 0
      have y1 := p0.cell 1
      have lB := s5.lt
      clear hcell
      have KS := Lib.hid (fun (W : World) (hb : Below wr.heap.size wr W) => (⟨(hb.cell p0.lt).trans y0, (hb.cell p0.lt).trans y1, (hb.cell (p := ⟨b, o + k, none⟩) (block_lt_of_cell z1)).trans z1, hb⟩ : W.cell? ⟨w.heap.size, 0, none⟩ = some (.slice (some ⟨b, o, none⟩) X.length c) ∧ W.cell? ⟨w.heap.size, 1, none⟩ = some (.slice A' O.length c') ∧ W.cell? ⟨b, o + k, none⟩ = some (.int .i64 (x : Int)) ∧ Below wr.heap.size wr W))
      have HJ := Lib.hid (fun (W W' : World) (hS : W.cell? ⟨w.heap.size, 0, none⟩ = some (.slice (some ⟨b, o, none⟩) X.length c) ∧ W.cell? ⟨w.heap.size, 1, none⟩ = some (.slice A' O.length c') ∧ W.cell? ⟨b, o + k, none⟩ = some (.int .i64 (x : Int)) ∧ Below wr.heap.size wr W) (hb : Below W.heap.size W W') => Below.trans hS.2.2.2 (hb.mono hS.2.2.2.size))
      have HT := Lib.hid (fun (W : World) (hS : W.cell? ⟨w.heap.size, 0, none⟩ = some (.slice (some ⟨b, o, none⟩) X.length c) ∧ W.cell? ⟨w.heap.size, 1, none⟩ = some (.slice A' O.length c') ∧ W.cell? ⟨b, o + k, none⟩ = some (.int .i64 (x : Int)) ∧ Below wr.heap.size wr W) => translate_any (.slice (some ⟨b, o, none⟩) X.length c) (.slice A' O.length c') X O ((X.length - k) % X.length) ((X.length - x) % X.length) W (hX0.below (hbr.trans (Below.mono hS.2.2.2 hbr.size))) (hO0.below (hbr.trans (Below.mono hS.2.2.2 hbr.size))) HL.out (by omega) (by omega) (by have := Nat.mod_lt (X.length - k) (show 0 < X.length by omega); omega) (by have := Nat.mod_lt (X.length - x) (show 0 < X.length by omega); omega) HV.out.pX.1 (by rw [HL.out]; exact HV.out.pO.1))
      have e1 : ((X.length : Int) - (k : Int)).tmod (X.length : Int) = (((X.length - k) % X.length : Nat) : Int) := by
        rw [Int.tmod_eq_emod_of_nonneg (by omega), Int.natCast_emod]; congr 1; omega
      have e2 : ((X.length : Int) - (x : Int)).tmod (X.length : Int) = (((X.length - x) % X.length : Nat) : Int) := by
        rw [Int.tmod_eq_emod_of_nonneg (by omega), Int.natCast_emod]; congr 1; omega
      have e1' : ((X.length : Int) - (k : Int)) % (X.length : Int) = (((X.length - k) % X.length : Nat) : Int) := by
        rw [Int.natCast_emod]; congr 1; omega
      have e2' : ((X.length : Int) - (x : Int)) % (X.length : Int) = (((X.length - x) % X.length : Nat) : Int) := by
        rw [Int.natCast_emod]; congr 1; omega
      generalize (X.length - k) % X.length = cc at *
      generalize (X.length - x) % X.length = rr at *
      have nz : ((X.length : Int) == 0) = false := beq_eq_false_iff_ne.2 (by omega)
      have zn2 : ¬ ((X.length : Int) = 0) := by omega
      have zn3 : ¬ (X = []) := by intro h; rw [h] at h2; simp at h2
      have zn4 : ¬ (X.length = 0) := by omega
      have zz1 : (k : Int) < (X.length : Int) := by omega
      have w1 : IntKind.i64.wrap ((X.length : Int) - (k : Int)) = (X.length : Int) - (k : Int) := IntWalk.i64_in _ (by omega)
      have w2 : IntKind.i64.wrap ((X.length : Int) - (x : Int)) = (X.length : Int) - (x : Int) := IntWalk.i64_in _ (by omega)
      go_wp2_with fail
      go_cut [7] (fun s7 wx => ∃ g7 gx go, s7 = .pointer (some ⟨g7, 0, none⟩) ∧ Arr wx g7 24 [.slice (some ⟨gx, 0, none⟩) (trl cc rr X).length (trl cc rr X).length, .slice (some ⟨go, 0, none⟩) (trl cc rr O).length (trl cc rr O).length] ∧ Arr wx gx 3 (ints (trl cc rr X)) ∧ Arr wx go 3 (ints (trl cc rr O)) ∧ wr.heap.size ≤ gx ∧ wr.heap.size ≤ go ∧ wr.heap.size ≤ g7 ∧ Below wr.heap.size wr wx)
      case first =>
        go_region_held3 (fun w' => w'.cell? ⟨w.heap.size, 0, none⟩ = some (.slice (some ⟨b, o, none⟩) X.length c) ∧ w'.cell? ⟨w.heap.size, 1, none⟩ = some (.slice A' O.length c') ∧ w'.cell? ⟨b, o + k, none⟩ = some (.int .i64 (x : Int)) ∧ Below wr.heap.size wr w') ((refine KS.out _ ?_; repeat (first | exact Below.refl _ _ | exact hb8 | refine Below.drew ?_ | refine Below.alloc ?_ (by first | exact hb8.size | exact Nat.le_refl _) _ | refine Below.setCell ?_ (by first | exact hb8.size | exact Nat.le_refl _) _)))
          (first | (go_at_call 54; refine (HT.out _ (by assumption)).mono ?_; rintro e w7 ⟨v7, rfl, ⟨gx, go, rfl, n1', n2', n3', a1, a2⟩, hb7⟩; have hb8 := HJ.out _ _ (by assumption) hb7; (first | have hz7 := allocked hb7 | have hz7 := allockedD hb7 | skip); (first | (have x0 := Arr.cell hz7 0; have x1 := Arr.cell hz7 1; have x2 := Arr.frozen hz7 0; have x3 := Arr.frozen hz7 1) | skip)))
        · go_wp2_with fail
          go_meet
          exact ⟨w7.heap.size, gx, go, rfl, Arr.new w7 _ [_, _], a1.alloc _, a2.alloc _, n2', n3', hb8.size, hb8.alloc hb8.size _⟩
        · go_wp2_with fail
          go_meet
          exact ⟨wr.heap.size, gx, go, rfl, (hz7.set 0 _).set 1 _, a1.far2 (r := wr.heap.size) (by simp at n2'; omega), a2.far2 (r := wr.heap.size) (by simp at n3'; omega), by simp at n2'; omega, by simp at n3'; omega, Nat.le_refl _, bset2 (r := wr.heap.size) hb8 (Nat.le_refl _)⟩
      case rest =>
        clear KS HJ HT e1 e2 e1' e2' w1 w2 nz zn2 zn3 zn4 zz1 z1 y0 y1
        obtain ⟨g7, gx, go, rfl, g7a, gxa, goa, lgx, lgo, lg7, hbc⟩ := hcut
        have s5' := s5.below hbc s5.lt
        have j1 := (i1.below hbc).ints
        have j2 := (i2.below hbc).ints
        have p0' := p0.below hbc p0.lt
        have p1' := p1.below hbc p1.lt
        have hbr' := hbr.trans (hbc.mono hbr.size)
        have HC' := Lib.hid (show (trl cc rr X, trl cc rr O) = cand X O k from HC.out.symm)
        have lt1 : (trl cc rr X).length = X.length := trl_length _ _ _
        have lt2 : (trl cc rr O).length = X.length := by rw [trl_length, HL.out]
        have I1 := i1.below hbc
        have I2 := i2.below hbc
        have nb1 : ¬ (gx = B ∨ gx = w.heap.size + 1) := by omega
        have nb2 : ¬ (go = B ∨ go = w.heap.size + 1) := by omega
        have t1 : IntsE (fun b => b = B ∨ b = w.heap.size + 1) wc (.slice (some ⟨gx, 0, none⟩) (trl cc rr X).length (trl cc rr X).length) (trl cc rr X) := IntsE.of_arr gxa nb1
        have t2 : IntsE (fun b => b = B ∨ b = w.heap.size + 1) wc (.slice (some ⟨go, 0, none⟩) (trl cc rr O).length (trl cc rr O).length) (trl cc rr O) := IntsE.of_arr goa nb2
        rw [lt1] at g7a t1
        rw [lt2] at g7a t2
        have LT := Lib.hid (And.intro lt1 lt2)
        clear lt1 lt2 HC i1 i2 s5 p0 p1 hbr gxa goa hbc
        generalize trl cc rr X = T1 at *
        generalize trl cc rr O = T2 at *
        have x0 := g7a.cell 0
        have x1 := g7a.cell 1
        have q0 := s5'.cell 0
        have q1 := s5'.cell 1
        have q2 := s5'.frozen 0
        have q3 := s5'.frozen 1
        have ne7 : g7 ≠ B := by omega
        have lw : w.heap.size + 1 < B := by omega
        by_cases hk0 : k = 0
        · subst hk0
          have HI' := Lib.hid (show IsL X O 1 (T1, T2) by rw [HC'.out]; exact IsL.first X O)
          clear j1 j2 I1 I2
          go_wp2_with fail
          go_roundw
          case rel => exact ⟨1, _, _, _, _, _, _, (T1, T2), by omega, by go_num, (s5'.set 0 (.slice (some ⟨gx, 0, none⟩) X.length X.length)).set 1 (.slice (some ⟨go, 0, none⟩) X.length X.length), t1.set2 (.inl rfl) _ _ _ _, t2.set2 (.inl rfl) _ _ _ _, p0'.far2 (r := B) (by omega), p1'.far2 (r := B) (by omega), bset2 (r := B) hbr' (by omega), fun _ => HI'.out, fun _ => LT.out⟩
          case measure => simp [intOf]; omega
        · have hk1 : ((k : Int) == 0) = false := by simp; omega
          have HI2 := Lib.hid (HI.out (by omega))
          have HLN2 := Lib.hid (HLN.out (by omega))
          have lp1 : p.1.length ≤ 1000 := by have := HLN2.out.1; omega
          have lp2 : p.2.length ≤ 1000 := by have := HLN2.out.2; omega
          have lt1 : T1.length ≤ 1000 := by have := LT.out.1; omega
          have lt2 : T2.length ≤ 1000 := by have := LT.out.2; omega
          clear HI HLN
          obtain ⟨P1, P2⟩ := p
          simp only at j1 j2 I1 I2 lp1 lp2
          go_wp2_with fail
          refine (gridCompare_any _ _ _ _ T1 T2 P1 P2 _ t1.ints t2.ints j1 j2 lt1 lt2 lp1 lp2).mono ?_
          rintro e w9 ⟨rfl, hb9⟩
          have g7b := g7a.below hb9 g7a.lt
          have s5b := s5'.below hb9 s5'.lt
          have p0b := p0'.below hb9 p0'.lt
          have p1b := p1'.below hb9 p1'.lt
          have hbb := hbr'.trans (hb9.mono hbr'.size)
          have t1b := t1.below hb9
          have t2b := t2.below hb9
          have I1b := I1.below hb9
          have I2b := I2.below hb9
          have HC2 := Lib.hid (show cmpP (T1, T2) (P1, P2) = cmpP (cand X O k) (P1, P2) by rw [HC'.out])
          have HT := Lib.hid (show cmpP (cand X O k) (P1, P2) < 0 → IsL X O (k + 1) (T1, T2) from fun h => by rw [HC'.out]; exact HI2.out.take h)
          have HK := Lib.hid (show ¬ cmpP (cand X O k) (P1, P2) < 0 → IsL X O (k + 1) (P1, P2) from fun h => HI2.out.keep h)
          rw [HC2.out]
          generalize cmpP (cand X O k) (P1, P2) = d at *
          clear x0 x1 q0 q1 q2 q3 g7a s5' p0' p1' hbr' t1 t2 I1 I2 j1 j2 hb9 HC2
          have x0 := g7b.cell 0
          have x1 := g7b.cell 1
          have q0 := s5b.cell 0
          have q1 := s5b.cell 1
          have q2 := s5b.frozen 0
          have q3 := s5b.frozen 1
          by_cases hd : d < 0
          · have HI3 := Lib.hid (HT.out hd)
            go_wp2_with fail
            go_roundw
            case rel => exact ⟨k + 1, _, _, _, _, _, _, (T1, T2), by omega, by go_num, (s5b.set 0 (.slice (some ⟨gx, 0, none⟩) X.length X.length)).set 1 (.slice (some ⟨go, 0, none⟩) X.length X.length), t1b.set2 (.inl rfl) _ _ _ _, t2b.set2 (.inl rfl) _ _ _ _, p0b.far2 (r := B) (by omega), p1b.far2 (r := B) (by omega), bset2 (r := B) hbb (by omega), fun _ => HI3.out, fun _ => LT.out⟩
            case measure => simp [intOf]; omega
          · have HI3 := Lib.hid (HK.out hd)
            go_wp2_with fail
            go_roundw
            case rel => exact ⟨k + 1, _, _, _, _, _, _, (P1, P2), by omega, by go_num, s5b, I1b, I2b, p0b, p1b, hbb, fun _ => HI3.out, fun _ => HLN2.out⟩
            case measure => simp [intOf]; omega
    · have hk2 : k = X.length := by omega
      subst hk2
      obtain ⟨ln1, ln2⟩ := HLN.out (by omega)
      have HI2 := Lib.hid (HI.out (by omega))
      have j1 := i1
      have j2 := i2
      obtain ⟨D0, d0, e0, _, _⟩ := i1.ints
      injection e0 with ea e0 eb
      clear ea eb
      obtain ⟨D1, d1, e1, _, _⟩ := i2.ints
      injection e1 with ea e1 eb
      clear ea eb
      rw [ln1] at e0
      rw [ln2] at e1
      subst e0 e1
      clear HI HLN ln1 ln2
      have q0 := s5.cell 0
      have q1 := s5.cell 1
      have x0 := p1.cell 0
      have x1 := p1.cell 1
      have x2 := p1.frozen 0
      have x3 := p1.frozen 1
      have hres := Lib.hid ((p1.set 0 (.slice A0 X.length c0)).set 1 (.slice A1 X.length c1))
      go_wp2_with fail
      refine bodyPost_ret (v := .tuple #[.agg #[.slice A0 X.length c0, .slice A1 X.length c1], .int .i64 0]) (results_ct Tryz.results46 _ _ (w.heap.size + 1) 24 _ _ rfl hres.out Tryz.underlying24 rfl info_grid) rfl ?_
      exact ⟨p, _, _, _, _, rfl, ⟨(j1.set2 (.inr rfl) _ _ _ _).ints, (j2.set2 (.inr rfl) _ _ _ _).ints⟩, HI2.out, bset2 (r := w.heap.size + 1) hbr (by omega)⟩
end Go.Proofs.YteliflcbegcdlaaGreatDoor

namespace Go.Proofs.YteliflcbegcdlaaGreatDoor
open Go.RowKit
set_option linter.unusedVariables false
def PRes (w : World) (r : Int × List Int × List Int × Int) (e : Ending) (w' : World) : Prop :=
  Below w.heap.size w w' ∧ ∃ A0 n0 c0 A1 n1 c1, e = .returned (.tuple #[.agg #[.slice A0 n0 c0, .slice A1 n1 c1], .int .i64 r.2.2.2, .int .i64 r.1]) ∧ Ints w' (.slice A0 n0 c0) r.2.1 ∧ Ints w' (.slice A1 n1 c1) r.2.2.1
set_option maxHeartbeats 4000000 in
theorem play_any (vx vo vm : Value) (X O : List Int) (ms : List Mv) (w : World) (hX : Ints w vx X) (hO : Ints w vo O) (hM : Moves w vm ms) (hl : X.length ≤ 1000) (hl' : O.length ≤ 1000) (hn : ms.length ≤ 10000) :
    Calls Tryz.prog 49 #[.agg #[vx, vo], vm] w (PRes w (playM X O ms)) := by
  have hM0 := hM
  obtain ⟨Am, cm, rfl, hm'⟩ := hM
  clear hm'
  have hX0 := hX
  have hO0 := hO
  obtain ⟨A, c, rfl, hc, hh⟩ := hX
  obtain ⟨A', c', rfl, hc', hh'⟩ := hO
  clear hh hh'
  go_enter Tryz.func49, Tryz.ntmps49
  go_wp2_with fail
  have hW : Arr ((w.alloc (.cells #[.slice A X.length c, .slice A' O.length c'] 24)).alloc (.cells #[.slice none 0 0, .slice none 0 0] 24)) w.heap.size 24 [.slice A X.length c, .slice A' O.length c'] ∧ Arr ((w.alloc (.cells #[.slice A X.length c, .slice A' O.length c'] 24)).alloc (.cells #[.slice none 0 0, .slice none 0 0] 24)) (w.heap.size + 1) 24 [.slice none 0 0, .slice none 0 0] ∧ Below w.heap.size w ((w.alloc (.cells #[.slice A X.length c, .slice A' O.length c'] 24)).alloc (.cells #[.slice none 0 0, .slice none 0 0] 24)) :=
    ⟨(Arr.new _ _ [_, _]).alloc _, Arr.newAt (w.alloc _) _ [_, _] _ (by simp), ((Below.refl _ _).alloc (Nat.le_refl _) _).alloc (by simp) _⟩
  generalize ((w.alloc (.cells #[.slice A X.length c, .slice A' O.length c'] 24)).alloc (.cells #[.slice none 0 0, .slice none 0 0] 24)) = w4 at hW ⊢
  obtain ⟨q0, q1, hb4⟩ := hW
  refine (valid_any _ _ X O _ (hX0.below hb4) (hO0.below hb4) hl hl').mono ?_
  rintro e w5 ⟨rfl, hb5⟩
  have hbw5 := hb4.trans (hb5.mono hb4.size)
  have p0 := q0.below hb5 q0.lt
  have p1 := q1.below hb5 q1.lt
  clear q0 q1 hb5 hb4
  have y0 := p0.cell 0
  have y1 := p0.cell 1
  have y2 := p1.cell 0
  have y3 := p1.cell 1
  have y4 := p1.frozen 0
  have y5 := p1.frozen 1
  have l1 := p1.lt
  have hzr := Lib.hid ((p1.set 0 (.slice none 0 0)).set 1 (.slice none 0 0))
  cases hv : validB X O with
  | false =>
    have hfin := Lib.hid (show playM X O ms = (1, [], [], -1) by unfold playM; rw [if_pos hv])
    clear hv
    go_wp2_with fail
    refine bodyPost_ret (v := .tuple #[.agg #[.slice none 0 0, .slice none 0 0], .int .i64 (-1), .int .i64 1]) (results_ctt Tryz.results49 _ _ (w.heap.size + 1) 24 _ _ rfl hzr.out Tryz.underlying24 rfl info_grid) rfl ?_
    rw [hfin.out]
    exact ⟨bset2 (r := w.heap.size + 1) hbw5 (by omega), _, _, _, _, _, _, rfl, Ints.nil _, Ints.nil _⟩
  | true =>
    have vd := (validB_iff X O).1 hv
    have hfin := Lib.hid (show playM X O ms = playFrom 0 X O (ms.drop 0) by unfold playM; rw [if_neg (by simp [hv]), List.drop_zero])
    clear hv
    go_wp2_with fail
    refine (shift_any _ _ X O 0 0 _ (hX0.below hbw5) (hO0.below hbw5) hl hl').mono ?_
    rw [shiftM_zero vd]
    rintro e w6 ⟨hb6, v6, rfl, hng⟩
    rw [if_pos rfl] at hng
    obtain ⟨gx, go, rfl, e1, e2, e3, a1, a2⟩ := hng
    have hbw6 := hbw5.trans (hb6.mono hbw5.size)
    have p1' := p1.below hb6 p1.lt
    have hlt6 := p1'.lt
    have f1 := a1.lt
    have f2 := a2.lt
    clear y0 y1 y2 y3 y4 y5 hzr p0 p1 hb6
    go_wp2_with fail
    go_loopw [28] (fun s wr => ∃ (i : Nat) (Y P : List Int) (B0 : Option Addr) (m0 d0 : Nat) (B1 : Option Addr) (m1 d1 : Nat), i ≤ ms.length ∧ s = .int .i64 i ∧ Arr wr w6.heap.size 24 [.slice B0 m0 d0, .slice B1 m1 d1] ∧ Arr wr (w.heap.size + 1) 24 [.slice none 0 0, .slice none 0 0] ∧
      IntsE (fun b => b = w.heap.size + 1 ∨ b = w6.heap.size) wr (.slice B0 m0 d0) Y ∧ IntsE (fun b => b = w.heap.size + 1 ∨ b = w6.heap.size) wr (.slice B1 m1 d1) P ∧ Below w.heap.size w wr ∧ Hid (Vd Y P ∧ playM X O ms = playFrom i Y P (ms.drop i))) (fun s _ => ms.length - (intOf s).toNat)
    case atStart =>
      refine ⟨0, X, O, _, _, _, _, _, _, Nat.zero_le _, rfl, Arr.new w6 _ [_, _], p1'.alloc _, ?_, ?_, hbw6.alloc hbw6.size _, vd, hfin.out⟩
      · exact IntsE.of_arr (a1.alloc _) (by omega)
      · exact IntsE.of_arr (a2.alloc _) (by omega)
    case round =>
      clear hfin a1 a2 p1' f1 f2 e1 e2 e3
      obtain ⟨i, Y, P, B0, m0, d0, B1, m1, d1, hi, rfl, hg, hr, j1, j2, hbr, H⟩ := hrel
      have g0 := hg.cell 0
      have g1 := hg.cell 1
      have x0 := hr.cell 0
      have x1 := hr.cell 1
      have x2 := hr.frozen 0
      have x3 := hr.frozen 1
      have lg := hg.lt
      have lr := hr.lt
      have hY := H.out.1.most
      have hYP := Lib.hid H.out.1.len
      by_cases hlt : i < ms.length
      · obtain ⟨b, o, rfl, hbl, c0, c1, c2, c3⟩ := hM0.at_ hlt
        have c0' := (hbr.cell (p := ⟨b, o + i * 4, none⟩) hbl).trans c0
        have c1' := (hbr.cell (p := ⟨b, o + i * 4 + 1, none⟩) hbl).trans c1
        have c2' := (hbr.cell (p := ⟨b, o + i * 4 + 2, none⟩) hbl).trans c2
        have c3' := (hbr.cell (p := ⟨b, o + i * 4 + 3, none⟩) hbl).trans c3
        clear c0 c1 c2 c3
        have hpl := Lib.hid (And.intro (fun h : (ms[i].app Y P).1 = 0 => H.out.2.trans ((playFrom_drop Y P ms hlt).trans (if_pos h))) (fun h : ¬ (ms[i].app Y P).1 = 0 => H.out.2.trans ((playFrom_drop Y P ms hlt).trans (if_neg h))))
        generalize ms[i] = m at *
        obtain ⟨mk, mr, ma, mv⟩ := m
        simp only [Mv.app] at hpl c0' c1' c2' c3'
        have lgr : w6.heap.size ≠ w.heap.size + 1 := by omega
        go_wp2_with fail
        refine (apply_rf _ _ Y P mk mr ma mv _ (j1.ints.alloc _) (j2.ints.alloc _) (by omega) (by have := hYP.out; omega)).mono ?_
        rintro e w8 ⟨hb8, C0, o0, h0, C1, o1, h1, rfl, t1, t2⟩
        have hba := hbr.alloc hbr.size (.cells #[.int .i64 mk, .bool mr, .int .i64 ma, .int .i64 mv] 94)
        have hbr' := hba.trans (hb8.mono hba.size)
        have hg' := (hg.alloc _).below hb8 (hg.alloc _).lt
        have hr' := (hr.alloc _).below hb8 (hr.alloc _).lt
        have sz8 := hb8.size
        have hvr := Lib.hid (@applyM_res_vd Y P (applyM Y P mk mr ma mv).2.1 (applyM Y P mk mr ma mv).2.2 mk ma mv mr)
        clear g0 g1 x0 x1 x2 x3 c0' c1' c2' c3'
        generalize hR : applyM Y P mk mr ma mv = R at *
        obtain ⟨code, Y1, P1⟩ := R
        simp only at t1 t2 hpl hvr
        clear hR
        have g0 := (hg'.alloc (.cells #[.slice C0 o0 h0, .slice C1 o1 h1] 24)).cell 0
        have g1 := (hg'.alloc (.cells #[.slice C0 o0 h0, .slice C1 o1 h1] 24)).cell 1
        have g2 := (hg'.alloc (.cells #[.slice C0 o0 h0, .slice C1 o1 h1] 24)).frozen 0
        have g3 := (hg'.alloc (.cells #[.slice C0 o0 h0, .slice C1 o1 h1] 24)).frozen 1
        have x0 := (hr'.alloc (.cells #[.slice C0 o0 h0, .slice C1 o1 h1] 24)).cell 0
        have x1 := (hr'.alloc (.cells #[.slice C0 o0 h0, .slice C1 o1 h1] 24)).cell 1
        have x2 := (hr'.alloc (.cells #[.slice C0 o0 h0, .slice C1 o1 h1] 24)).frozen 0
        have x3 := (hr'.alloc (.cells #[.slice C0 o0 h0, .slice C1 o1 h1] 24)).frozen 1
        have hbx := hbr'.alloc hbr'.size (.cells #[.slice C0 o0 h0, .slice C1 o1 h1] 24)
        by_cases hcd : code = 0
        · subst hcd
          have hv1 := hvr.out rfl
          have k1 : IntsE (fun b => b = w.heap.size + 1 ∨ b = w6.heap.size) w8 (.slice C0 o0 h0) Y1 := IntsE.of_fresh t1 (fun b hb => by simp; omega)
          have k2 : IntsE (fun b => b = w.heap.size + 1 ∨ b = w6.heap.size) w8 (.slice C1 o1 h1) P1 := IntsE.of_fresh t2 (fun b hb => by simp; omega)
          have hpl' := Lib.hid (hpl.out.1 rfl)
          go_wp2_with fail
          go_roundw
          case rel =>
            exact ⟨i + 1, Y1, P1, _, _, _, _, _, _, by omega, by go_num, ((hg'.alloc _).set 0 _).set 1 _, (hr'.alloc _).far2 (r := w6.heap.size) (by omega), (k1.below ((Below.refl _ _).alloc (Nat.le_refl _) _)).set2 (.inr rfl) _ _ _ _, (k2.below ((Below.refl _ _).alloc (Nat.le_refl _) _)).set2 (.inr rfl) _ _ _ _, bset2 (r := w6.heap.size) hbx (by omega), hv1, hpl'.out⟩
          case measure => simp [intOf]; omega
        · have hb0 : (code != 0) = true := by simpa using hcd
          have hfin := Lib.hid (hpl.out.2 hcd)
          clear hcd
          have hzr := Lib.hid (((hr'.alloc (.cells #[.slice C0 o0 h0, .slice C1 o1 h1] 24)).set 0 (.slice none 0 0)).set 1 (.slice none 0 0))
          go_wp2_with fail
          refine bodyPost_ret (v := .tuple #[.agg #[.slice none 0 0, .slice none 0 0], .int .i64 (i : Int), .int .i64 code]) (results_ctt Tryz.results49 _ _ (w.heap.size + 1) 24 _ _ rfl hzr.out Tryz.underlying24 rfl info_grid) rfl ?_
          rw [hfin.out]
          exact ⟨bset2 (r := w.heap.size + 1) hbx (by omega), _, _, _, _, _, _, rfl, Ints.nil _, Ints.nil _⟩
      · have hie : i = ms.length := by omega
        have hpl := Lib.hid (show playM X O ms = (0, Y, P, -1) by rw [H.out.2, hie, List.drop_length]; rfl)
        clear hie
        have hres := Lib.hid ((hr.set 0 (.slice B0 m0 d0)).set 1 (.slice B1 m1 d1))
        go_wp2_with fail
        refine bodyPost_ret (v := .tuple #[.agg #[.slice B0 m0 d0, .slice B1 m1 d1], .int .i64 (-1), .int .i64 0]) (results_ctt Tryz.results49 _ _ (w.heap.size + 1) 24 _ _ rfl hres.out Tryz.underlying24 rfl info_grid) rfl ?_
        rw [hpl.out]
        exact ⟨bset2 (r := w.heap.size + 1) hbr (by omega), _, _, _, _, _, _, rfl, (j1.set2 (.inl rfl) _ _ _ _).ints, (j2.set2 (.inl rfl) _ _ _ _).ints⟩
end Go.Proofs.YteliflcbegcdlaaGreatDoor

namespace Go.Proofs.YteliflcbegcdlaaGreatDoor
open Go.RowKit
set_option linter.unusedVariables false
set_option maxHeartbeats 2000000 in
theorem refTranspose_any (vx vo : Value) (X O : List Int) (w : World) (hX : Ints w vx X) (hO : Ints w vo O) (hlen : X.length = O.length) (hn : X.length ≤ 1000) (rX : Rows X.length X) (rO : Rows X.length O) :
    Calls Tryz.prog 67 #[.agg #[vx, vo]] w fun e w' => ∃ v, e = .returned v ∧ NewGrid w.heap.size w' v (tr X) (tr O) ∧ Below w.heap.size w w' := by
  obtain ⟨i0, hi0, hz0, hz1, hz2⟩ := info_parts info_int
  have hmk := fun W => run_make_one (P := Tryz.prog) 22 3 i0 (.int .i64 0) Tryz.underlying22 hi0 hz0 hz1 rfl (by rw [hz2]; decide) X.length (by omega) W
  clear hi0 hz0 hz1 hz2
  have HL := Lib.hid hlen
  clear hlen
  have hX0 := hX
  have hO0 := hO
  obtain ⟨A, c, rfl, hc, hh⟩ := hX
  obtain ⟨A', c', rfl, hc', hh'⟩ := hO
  clear hh hh'
  go_enter Tryz.func67, Tryz.ntmps67
  go_upto_region 2 with fail
  have hW : ((w.alloc (.cells #[.slice A X.length c, .slice A' O.length c'] 24)).alloc (.cells #[.slice none 0 0, .slice none 0 0] 24)).heap[w.heap.size]? = some (.cells #[.slice A X.length c, .slice A' O.length c'] 24 (0, 0)) ∧ ((w.alloc (.cells #[.slice A X.length c, .slice A' O.length c'] 24)).alloc (.cells #[.slice none 0 0, .slice none 0 0] 24)).heap[w.heap.size + 1]? = some (.cells #[.slice none 0 0, .slice none 0 0] 24 (0, 0)) ∧ Below w.heap.size w ((w.alloc (.cells #[.slice A X.length c, .slice A' O.length c'] 24)).alloc (.cells #[.slice none 0 0, .slice none 0 0] 24)) ∧ ((w.alloc (.cells #[.slice A X.length c, .slice A' O.length c'] 24)).alloc (.cells #[.slice none 0 0, .slice none 0 0] 24)).heap.size = w.heap.size + 2 :=
    ⟨(Arr.new _ _ [_, _]).alloc _, Arr.newAt (w.alloc _) _ [_, _] _ (by simp), ((Below.refl _ _).alloc (Nat.le_refl _) _).alloc (by simp) _, by simp⟩
  generalize ((w.alloc (.cells #[.slice A X.length c, .slice A' O.length c'] 24)).alloc (.cells #[.slice none 0 0, .slice none 0 0] 24)) = w2 at hW ⊢
  obtain ⟨hw0, hw1, hb2, hs2⟩ := hW
  have HW0 := Lib.hid hw0
  have HW1 := Lib.hid hw1
  have HS2 := Lib.hid hs2
  clear hw0 hw1 hs2
  go_cut [4, 10, 12] (fun s4 s10 s12 wx => Mid w.heap.size wx s4 s10 s12 (.slice A X.length c) (.slice A' O.length c') (List.replicate X.length 0) (List.replicate X.length 0) ∧ Below w.heap.size w wx)
  case first =>
    go_region
    all_goals
      go_wp2_with fail
      go_meet
      have hs2 := HS2.out
      have hw0 := HW0.out
      have hw1 := HW1.out
      refine ⟨?_, ?_⟩
      rotate_left
      · repeat (first | exact hb2 | refine Below.alloc ?_ (by simp [hs2] <;> omega) _ | refine Below.drew ?_)
      exact mid_of2 w _ _ _ X.length X.length (by simp only [heap_push, heap_drew, Array.getElem?_push, Array.size_push]; repeat (first | rw [if_pos trivial] | rw [if_neg (by omega)] | exact hw0 | exact hw1)) (by simp only [heap_push, heap_drew, Array.getElem?_push, Array.size_push]; repeat (first | rw [if_pos trivial] | rw [if_neg (by omega)] | exact hw0 | exact hw1)) (by simp only [heap_push, heap_drew, Array.getElem?_push, Array.size_push]; repeat (first | rw [if_pos trivial] | rw [if_neg (by omega)] | exact hw0 | exact hw1)) (by simp only [heap_push, heap_drew, Array.getElem?_push, Array.size_push]; repeat (first | rw [if_pos trivial] | rw [if_neg (by omega)] | exact hw0 | exact hw1)) (by simp only [heap_push, heap_drew, Array.getElem?_push, Array.size_push]; repeat (first | rw [if_pos trivial] | rw [if_neg (by omega)] | exact hw0 | exact hw1)) (by omega) (by omega) (by omega) (by omega) (by omega) (by omega)
  case rest =>
    clear hmk
    obtain ⟨⟨g, gx, go, rfl, e14, e16, hm⟩, hb⟩ := hcut
    clear e14 e16
    go_wp2_with fail
    go_loopw [5] (fun i wr => ∃ (k : Nat) (aX aO : List Int), k ≤ X.length ∧ i = .int .i64 k ∧ Mid3 w.heap.size wr g gx go (.slice A X.length c) (.slice A' O.length c') aX aO ∧ Below w.heap.size w wr ∧
      Hid (aX.length = X.length ∧ aO.length = X.length ∧ tr X = relTo mvT true k (X.drop k) aX ∧ tr O = relTo mvT true k (O.drop k) aO)) (fun i _ => X.length - (intOf i).toNat)
    case atStart =>
      exact ⟨0, _, _, Nat.zero_le _, rfl, hm, hb, by simp, by simp, rfl, by simp only [tr, reloc, HL.out, List.drop_zero]⟩
    case round =>
      obtain ⟨k, aX, aO, hk, rfl, hm', hb', H⟩ := hrel
      clear hb hm
      by_cases hlt : k < X.length
      · obtain ⟨b, o, rfl, hbl, hcell⟩ := hX0.at_ hlt
        have hltO : k < O.length := by have := HL.out; omega
        obtain ⟨b', o', rfl, hbl', hcell'⟩ := hO0.at_ hltO
        have hcX := (hb'.cell (p := ⟨b, o + k, none⟩) hbl).trans hcell
        have rx := rX.get hlt
        have ro := rO.get hltO
        rw [relTo_drop mvT true X aX hlt, relTo_drop mvT true O aO hltO, relStep_mvT _ _ _ rx.1, relStep_mvT _ _ _ ro.1] at H
        generalize X[k] = x at *
        generalize O[k] = y at *
        clear hcell
        obtain ⟨x, rfl⟩ := Int.eq_ofNat_of_zero_le rx.1
        obtain ⟨y, rfl⟩ := Int.eq_ofNat_of_zero_le ro.1
        simp only [Int.toNat_natCast] at H
        have hx1 : x < aX.length := by have := H.out.1; omega
        have hy1 : y < aO.length := by have := H.out.2.1; omega
        have w5 := hm'.2.2.2.2.1
        have w6 := hm'.2.2.2.2.2.1
        have n3 := hm'.2.1.symm
        have n4 := hm'.2.2.1.symm
        have n5 : gx ≠ w.heap.size := by omega
        have n6 : go ≠ w.heap.size := by omega
        have n7 : gx ≠ b := by omega
        have n10 : go ≠ b' := by omega
        go_wp2_with fail
        have z0 := hm'.2.2.2.2.2.2.2.2.2.1.cell 0
        have z1 := hm'.2.2.2.2.2.2.1.cell 0
        have z2 := (hm'.2.2.2.2.2.2.2.1.cell x).trans (ints_get _ hx1)
        have z3 := hm'.2.2.2.2.2.2.2.1.frozen x
        have z5 : (x : Int) < (aX.length : Int) := by omega
        have z6 : (k : Int) < (X.length : Int) := by omega
        have z7 : (k : Int) < (O.length : Int) := by omega
        go_region_held3 (fun w' => w'.cell? ⟨w.heap.size, 0, none⟩ = some (.slice (some ⟨b, o, none⟩) X.length c) ∧ w'.cell? ⟨g, 0, none⟩ = some (.slice (some ⟨gx, 0, none⟩) aX.length aX.length) ∧ w'.cell? ⟨b, o + k, none⟩ = some (.int .i64 (x : Int))) (go_keep) (first | fail)
        clear z0 z1 z2 z3 z5 z6 z7
        have hm2 := (hm'.setX x k).drew
        have hb2 := (hb'.setCell (p := ⟨gx, x, none⟩) (by show w.heap.size ≤ gx; omega) (.int .i64 (k : Int))).drew
        have hcO := (hb2.cell (p := ⟨b', o' + k, none⟩) hbl').trans hcell'
        generalize (wr.setCell ⟨gx, x, none⟩ (.int .i64 (k : Int))).drew = wr2 at *
        clear hm' hb' hcX hcell'
        go_wp2_with fail
        have z0 := hm2.2.2.2.2.2.2.2.2.2.1.cell 1
        have z1 := hm2.2.2.2.2.2.2.1.cell 1
        have z2 := (hm2.2.2.2.2.2.2.2.2.1.cell y).trans (ints_get _ hy1)
        have z3 := hm2.2.2.2.2.2.2.2.2.1.frozen y
        have z5 : (y : Int) < (aO.length : Int) := by omega
        have z6 : (k : Int) < (X.length : Int) := by omega
        have z7 : (k : Int) < (O.length : Int) := by omega
        go_region_held3 (fun w' => w'.cell? ⟨w.heap.size, 1, none⟩ = some (.slice (some ⟨b', o', none⟩) O.length c') ∧ w'.cell? ⟨g, 1, none⟩ = some (.slice (some ⟨go, 0, none⟩) aO.length aO.length) ∧ w'.cell? ⟨b', o' + k, none⟩ = some (.int .i64 (y : Int))) (go_keep) (first | fail)
        clear z0 z1 z2 z3 z5 z6 z7
        go_wp2_with fail
        go_roundw
        case rel => exact ⟨k + 1, _, _, by omega, by go_num, (hm2.setO y k).drew, (hb2.setCell (p := ⟨go, y, none⟩) (by show w.heap.size ≤ go; omega) _).drew, by simp [H.out.1], by simp [H.out.2.1], H.out.2.2.1, H.out.2.2.2⟩
        case measure => simp [intOf]; omega
      · obtain rfl : k = X.length := by omega
        obtain ⟨hl1, hl2, hr1, hr2⟩ := H.out
        rw [List.drop_length] at hr1
        rw [HL.out, List.drop_length] at hr2
        have hg0 := hm'.2.2.2.2.2.2.1.cell 0
        have hg1 := hm'.2.2.2.2.2.2.1.cell 1
        obtain ⟨e1, e2, e3, e4, e5, e6, q1, q2, q3, q4, a, b, q5⟩ := hm'
        have hz0 := q5.cell 0
        have hz1 := q5.cell 1
        have hz2 := q5.frozen 0
        have hz3 := q5.frozen 1
        have R1 := Lib.hid hr1
        have R2 := Lib.hid hr2
        have hres := Lib.hid ((q5.set 0 (.slice (some ⟨gx, 0, none⟩) aX.length aX.length)).set 1 (.slice (some ⟨go, 0, none⟩) aO.length aO.length))
        clear hr1 hr2 hl1 hl2 q1 q4 q5 hX0 hO0
        go_wp2_with fail
        refine bodyPost_ret (v := .agg #[.slice (some ⟨gx, 0, none⟩) aX.length aX.length, .slice (some ⟨go, 0, none⟩) aO.length aO.length]) (results_c Tryz.results67 _ _ (w.heap.size + 1) 24 _ _ rfl hres.out Tryz.underlying24 rfl info_grid) rfl ⟨_, rfl, ?_, ?_⟩
        · rw [R1.out, R2.out]
          exact ⟨gx, go, rfl, e1, by omega, by omega, q2.far2 (r := w.heap.size + 1) (by omega), q3.far2 (r := w.heap.size + 1) (by omega)⟩
        · exact bset2 (r := w.heap.size + 1) hb' (by omega)
end Go.Proofs.YteliflcbegcdlaaGreatDoor
