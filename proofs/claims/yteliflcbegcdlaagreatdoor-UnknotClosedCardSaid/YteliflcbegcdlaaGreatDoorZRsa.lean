/- The reference's mod and Shift (layer 42). -/
/- The reference's Ints (layer 1) and Same (layer 42). -/
import Derived.Test.YteliflcbegcdlaaGreatDoorZTurn
import Derived.Test.YteliflcbegcdlaaGreatDoorZUnp
namespace Go.Proofs.YteliflcbegcdlaaGreatDoor
open Go.RowKit
set_option linter.unusedVariables false
theorem mod_any (x : Int) (y n : Nat) (w : World) (hx : x = (y : Int)) (hn : 0 < n) (h1 : y ≤ 1000000) (h2 : n ≤ 1000000) : Calls Tryz.prog 65 #[.int .i64 x, .int .i64 n] w fun e w' => e = .returned (.int .i64 ((y % n : Nat) : Int)) ∧ w = w' := by
  subst hx
  have e1 : Int.tmod (y : Int) (n : Int) = ((y % n : Nat) : Int) := by rw [← Int.ofNat_tmod]
  have hlt := Nat.mod_lt y hn
  obtain ⟨r, hr⟩ : ∃ r, r = y % n := ⟨_, rfl⟩
  rw [← hr] at e1 hlt ⊢
  have e2 : Int.tmod ((r : Int) + (n : Int)) (n : Int) = (r : Int) := by
    rw [show (r : Int) + (n : Int) = ((r + n : Nat) : Int) by omega, ← Int.ofNat_tmod, Nat.add_mod_right, Nat.mod_eq_of_lt hlt]
  have e3 : IntKind.i64.wrap ((r : Int) + (n : Int)) = (r : Int) + (n : Int) := IntWalk.i64_in _ (by omega)
  have n1 : ¬ (n : Int) = 0 := by omega
  have n2 : ¬ n = 0 := by omega
  clear hr hlt
  go_enter Tryz.func65, Tryz.ntmps65
  go_wp2_with fail
  go_ret
  exact ⟨rfl, rfl⟩
set_option maxHeartbeats 2000000 in
theorem refShift_any (vx vo : Value) (X O : List Int) (cc rr : Nat) (w : World) (hX : Ints w vx X) (hO : Ints w vo O) (hv : Vd X O) (hcc : cc < X.length) (hrr : rr < X.length) :
    Calls Tryz.prog 41 #[.agg #[vx, vo], .int .i64 cc, .int .i64 rr] w fun e w' => ∃ v, e = .returned v ∧ NewGrid w.heap.size w' v (trl cc rr X) (trl cc rr O) ∧ Below w.heap.size w w' := by
  obtain ⟨i0, hi0, hz0, hz1, hz2⟩ := info_parts info_int
  have hn := hv.most
  have hmk := fun W => run_make_one (P := Tryz.prog) 22 3 i0 (.int .i64 0) Tryz.underlying22 hi0 hz0 hz1 rfl (by rw [hz2]; decide) X.length (by omega) W
  clear hi0 hz0 hz1 hz2
  have HL := Lib.hid hv.len
  have HVD := Lib.hid hv
  have hn0 : 0 < X.length := by omega
  have HMC := Lib.hid (fun W => mod_any (cc : Int) cc X.length W rfl hn0 (by omega) (by omega))
  have HMR := Lib.hid (fun W => mod_any (rr : Int) rr X.length W rfl hn0 (by omega) (by omega))
  rw [Nat.mod_eq_of_lt hcc] at HMC
  rw [Nat.mod_eq_of_lt hrr] at HMR
  clear hv
  have hX0 := hX
  have hO0 := hO
  obtain ⟨A, c, rfl, hc, hh⟩ := hX
  obtain ⟨A', c', rfl, hc', hh'⟩ := hO
  clear hh hh'
  go_enter Tryz.func41, Tryz.ntmps41
  go_upto_region 2 with fail
  have hW : Arr ((w.alloc (.cells #[.slice A X.length c, .slice A' O.length c'] 24)).alloc (.cells #[.slice none 0 0, .slice none 0 0] 24)) w.heap.size 24 [.slice A X.length c, .slice A' O.length c'] ∧ Arr ((w.alloc (.cells #[.slice A X.length c, .slice A' O.length c'] 24)).alloc (.cells #[.slice none 0 0, .slice none 0 0] 24)) (w.heap.size + 1) 24 [.slice none 0 0, .slice none 0 0] ∧ Below w.heap.size w ((w.alloc (.cells #[.slice A X.length c, .slice A' O.length c'] 24)).alloc (.cells #[.slice none 0 0, .slice none 0 0] 24)) ∧ ((w.alloc (.cells #[.slice A X.length c, .slice A' O.length c'] 24)).alloc (.cells #[.slice none 0 0, .slice none 0 0] 24)).heap.size = w.heap.size + 2 :=
    ⟨(Arr.new _ _ [_, _]).alloc _, Arr.newAt (w.alloc _) _ [_, _] _ (by simp), ((Below.refl _ _).alloc (Nat.le_refl _) _).alloc (by simp) _, by simp⟩
  generalize ((w.alloc (.cells #[.slice A X.length c, .slice A' O.length c'] 24)).alloc (.cells #[.slice none 0 0, .slice none 0 0] 24)) = w2 at hW ⊢
  obtain ⟨q0, q1, hb2, hS2⟩ := hW
  have HW0 := Lib.hid q0
  have HW1 := Lib.hid q1
  have HS2 := Lib.hid hS2
  clear q0 q1 hS2
  go_cut [8, 15, 17] (fun s4 s10 s12 wx => Mid w.heap.size wx s4 s10 s12 (.slice A X.length c) (.slice A' O.length c') (List.replicate X.length 0) (List.replicate X.length 0) ∧ Below w.heap.size w wx)
  case first =>
    go_region
    all_goals
      go_wp2_with fail
      go_meet
      have hs2 := HS2.out
      have hw0 : w2.heap[w.heap.size]? = some (.cells #[.slice A X.length c, .slice A' O.length c'] 24 (0, 0)) := HW0.out
      have hw1 : w2.heap[w.heap.size + 1]? = some (.cells #[.slice none 0 0, .slice none 0 0] 24 (0, 0)) := HW1.out
      refine ⟨?_, ?_⟩
      rotate_left
      · repeat (first | exact hb2 | refine Below.alloc ?_ (by first | omega | (simp; omega)) _ | refine Below.drew ?_)
      exact mid_of2 w _ _ _ X.length X.length (by simp only [heap_push, heap_drew, Array.getElem?_push, Array.size_push]; repeat (first | rw [if_pos trivial] | rw [if_neg (by omega)] | exact hw0 | exact hw1)) (by simp only [heap_push, heap_drew, Array.getElem?_push, Array.size_push]; repeat (first | rw [if_pos trivial] | rw [if_neg (by omega)] | exact hw0 | exact hw1)) (by simp only [heap_push, heap_drew, Array.getElem?_push, Array.size_push]; repeat (first | rw [if_pos trivial] | rw [if_neg (by omega)] | exact hw0 | exact hw1)) (by simp only [heap_push, heap_drew, Array.getElem?_push, Array.size_push]; repeat (first | rw [if_pos trivial] | rw [if_neg (by omega)] | exact hw0 | exact hw1)) (by simp only [heap_push, heap_drew, Array.getElem?_push, Array.size_push]; repeat (first | rw [if_pos trivial] | rw [if_neg (by omega)] | exact hw0 | exact hw1)) (by omega) (by omega) (by omega) (by omega) (by omega) (by omega)
  case rest =>
    clear hmk
    obtain ⟨⟨g, gx, go, rfl, e14, e16, hm⟩, hb⟩ := hcut
    clear e14 e16
    go_wp2_with fail
    go_loopw [9] (fun i wr => ∃ (k : Nat) (aX aO : List Int), k ≤ X.length ∧ i = .int .i64 k ∧ Mid3 w.heap.size wr g gx go (.slice A X.length c) (.slice A' O.length c') aX aO ∧ Below w.heap.size w wr ∧
      Hid (aX.length = X.length ∧ aO.length = X.length ∧ trl cc rr X = relTo (mvTr X.length cc rr) true k (X.drop k) aX ∧ trl cc rr O = relTo (mvTr X.length cc rr) true k (O.drop k) aO)) (fun i _ => X.length - (intOf i).toNat)
    case atStart =>
      exact ⟨0, _, _, Nat.zero_le _, rfl, hm, hb, by simp, by simp, rfl, by unfold trl reloc; rw [← HL.out]; rfl⟩
    case round =>
      obtain ⟨k, aX, aO, hk, rfl, hm', hb', H⟩ := hrel
      clear hb hm
      by_cases hlt : k < X.length
      · obtain ⟨b, o, rfl, hbl, hcell⟩ := hX0.at_ hlt
        have hltO : k < O.length := by have := HL.out; omega
        obtain ⟨b', o', rfl, hbl', hcell'⟩ := hO0.at_ hltO
        have hcX := (hb'.cell (p := ⟨b, o + k, none⟩) hbl).trans hcell
        have rx := HVD.out.pX.1 _ (List.getElem_mem hlt)
        have ro := HVD.out.pO.1 _ (List.getElem_mem hltO)
        rw [relTo_drop (mvTr X.length cc rr) true X aX hlt, relTo_drop (mvTr X.length cc rr) true O aO hltO] at H
        generalize X[k] = x at *
        generalize O[k] = y at *
        clear hcell
        obtain ⟨x, rfl⟩ := Int.eq_ofNat_of_zero_le rx.1
        obtain ⟨y, rfl⟩ := Int.eq_ofNat_of_zero_le ro.1
        have hyl : (y : Int) < (X.length : Int) := by have := ro.2; have := HL.out; omega
        rw [relStep_mvTr _ _ _ _ _ _ hn0, relStep_mvTr _ _ _ _ _ _ hn0] at H
        obtain ⟨p, hp⟩ : ∃ p, p = (k + cc) % X.length := ⟨_, rfl⟩
        have hpn : p < X.length := by rw [hp]; exact Nat.mod_lt _ hn0
        rw [← hp] at H
        have HMP := Lib.hid (fun W => mod_any ((k : Int) + (cc : Int)) (k + cc) X.length W (by omega) hn0 (by omega) (by omega))
        have HMx := Lib.hid (fun W => mod_any ((x : Int) + (rr : Int)) (x + rr) X.length W (by omega) hn0 (by have := rx.2; omega) (by omega))
        have HMy := Lib.hid (fun W => mod_any ((y : Int) + (rr : Int)) (y + rr) X.length W (by omega) hn0 (by omega) (by omega))
        rw [← hp] at HMP
        obtain ⟨u, hu⟩ : ∃ u, u = (x + rr) % X.length := ⟨_, rfl⟩
        obtain ⟨v, hv⟩ : ∃ v, v = (y + rr) % X.length := ⟨_, rfl⟩
        have hu2 : ((x : Int) + (rr : Int)) % (X.length : Int) = (u : Int) := by rw [hu]; rfl
        have hv2 : ((y : Int) + (rr : Int)) % (X.length : Int) = (v : Int) := by rw [hv]; rfl
        rw [hu2, hv2] at H
        rw [← hu] at HMx
        rw [← hv] at HMy
        clear hp hu hv hu2 hv2
        have hp1 : p < aX.length := by have := H.out.1; omega
        have hp2 : p < aO.length := by have := H.out.2.1; omega
        have w5 := hm'.2.2.2.2.1
        have w6 := hm'.2.2.2.2.2.1
        have n3 := hm'.2.1.symm
        have n4 := hm'.2.2.1.symm
        have n5 : gx ≠ w.heap.size := by omega
        have n6 : go ≠ w.heap.size := by omega
        have n7 : gx ≠ b := by omega
        have n10 : go ≠ b' := by omega
        have za : IntKind.i64.wrap ((k : Int) + (cc : Int)) = (k : Int) + (cc : Int) := IntWalk.i64_in _ (by omega)
        have zk : (k : Int) < (X.length : Int) := by omega
        go_upto_region 7 with (first | (go_at_call_of 65 (Value.int .i64 (cc : Int)); refine (HMC.out _).mono ?_; rintro e wq ⟨rfl, rfl⟩) | (go_at_call_of 65 (Value.int .i64 ((k : Int) + (cc : Int))); refine (HMP.out _).mono ?_; rintro e wq ⟨rfl, rfl⟩))
        have z0 := hm'.2.2.2.2.2.2.2.2.2.1.cell 0
        have z1 := hm'.2.2.2.2.2.2.1.cell 0
        have z2 := (hm'.2.2.2.2.2.2.2.1.cell p).trans (ints_get _ hp1)
        have z3 := hm'.2.2.2.2.2.2.2.1.frozen p
        have z5 : (p : Int) < (aX.length : Int) := by omega
        have z6 : (k : Int) < (X.length : Int) := by omega
        have z7 : (k : Int) < (O.length : Int) := by omega
        have z8 : IntKind.i64.wrap ((x : Int) + (rr : Int)) = (x : Int) + (rr : Int) := IntWalk.i64_in _ (by omega)
        go_region_held3 (fun w' => w'.cell? ⟨w.heap.size, 0, none⟩ = some (.slice (some ⟨b, o, none⟩) X.length c) ∧ w'.cell? ⟨g, 0, none⟩ = some (.slice (some ⟨gx, 0, none⟩) aX.length aX.length) ∧ w'.cell? ⟨b, o + k, none⟩ = some (.int .i64 (x : Int))) (go_keep)
          (first
            | (go_at_call_of 65 (Value.int .i64 (rr : Int)); refine (HMR.out _).mono ?_; rintro e wq ⟨rfl, rfl⟩)
            | (go_at_call_of 65 (Value.int .i64 ((x : Int) + (rr : Int))); refine (HMx.out _).mono ?_; rintro e wq ⟨rfl, rfl⟩))
        clear z0 z1 z2 z3 z5 z6 z7 z8
        have hm2 := (hm'.setX p u).drew
        have hb2 := (hb'.setCell (p := ⟨gx, p, none⟩) (by show w.heap.size ≤ gx; omega) (.int .i64 (u : Int))).drew
        have hcO := (hb2.cell (p := ⟨b', o' + k, none⟩) hbl').trans hcell'
        generalize (wr.setCell ⟨gx, p, none⟩ (.int .i64 (u : Int))).drew = wr2 at *
        clear hm' hb' hcX hcell'
        go_wp2_with fail
        have z0 := hm2.2.2.2.2.2.2.2.2.2.1.cell 1
        have z1 := hm2.2.2.2.2.2.2.1.cell 1
        have z2 := (hm2.2.2.2.2.2.2.2.2.1.cell p).trans (ints_get _ hp2)
        have z3 := hm2.2.2.2.2.2.2.2.2.1.frozen p
        have z5 : (p : Int) < (aO.length : Int) := by omega
        have z6 : (k : Int) < (X.length : Int) := by omega
        have z7 : (k : Int) < (O.length : Int) := by omega
        have z8 : IntKind.i64.wrap ((y : Int) + (rr : Int)) = (y : Int) + (rr : Int) := IntWalk.i64_in _ (by omega)
        go_region_held3 (fun w' => w'.cell? ⟨w.heap.size, 1, none⟩ = some (.slice (some ⟨b', o', none⟩) O.length c') ∧ w'.cell? ⟨g, 1, none⟩ = some (.slice (some ⟨go, 0, none⟩) aO.length aO.length) ∧ w'.cell? ⟨b', o' + k, none⟩ = some (.int .i64 (y : Int))) (go_keep)
          (first
            | (go_at_call_of 65 (Value.int .i64 (rr : Int)); refine (HMR.out _).mono ?_; rintro e wq ⟨rfl, rfl⟩)
            | (go_at_call_of 65 (Value.int .i64 ((y : Int) + (rr : Int))); refine (HMy.out _).mono ?_; rintro e wq ⟨rfl, rfl⟩))
        clear z0 z1 z2 z3 z5 z6 z7 z8
        go_wp2_with fail
        go_roundw
        case rel => exact ⟨k + 1, _, _, by omega, by go_num, (hm2.setO p v).drew, (hb2.setCell (p := ⟨go, p, none⟩) (by show w.heap.size ≤ go; omega) _).drew, by simp [H.out.1], by simp [H.out.2.1], H.out.2.2.1, H.out.2.2.2⟩
        case measure => simp [intOf]; omega
      · obtain rfl : k = X.length := by omega
        obtain ⟨hl1, hl2, hr1, hr2⟩ := H.out
        rw [List.drop_length] at hr1
        rw [HL.out, List.drop_length] at hr2
        have hg0 := hm'.2.2.2.2.2.2.1.cell 0
        have hg1 := hm'.2.2.2.2.2.2.1.cell 1
        obtain ⟨e1, e2, e3, e4, e5, e6, q1, q2, q3, q4, a, b, q5⟩ := hm'
        have hz0 := q5.cell 0
        have hz1 := q5.cell 1
        have hz2 := q5.frozen 0
        have hz3 := q5.frozen 1
        have R1 := Lib.hid hr1
        have R2 := Lib.hid hr2
        have hres := Lib.hid ((q5.set 0 (.slice (some ⟨gx, 0, none⟩) aX.length aX.length)).set 1 (.slice (some ⟨go, 0, none⟩) aO.length aO.length))
        clear hr1 hr2 hl1 hl2 q1 q4 q5 hX0 hO0
        go_wp2_with fail
        refine bodyPost_ret (v := .agg #[.slice (some ⟨gx, 0, none⟩) aX.length aX.length, .slice (some ⟨go, 0, none⟩) aO.length aO.length]) (results_c Tryz.results41 _ _ (w.heap.size + 1) 24 _ _ rfl hres.out Tryz.underlying24 rfl info_grid) rfl ⟨_, rfl, ?_, ?_⟩
        · rw [R1.out, R2.out]
          exact ⟨gx, go, rfl, e1, by omega, by omega, q2.far2 (r := w.heap.size + 1) (by omega), q3.far2 (r := w.heap.size + 1) (by omega)⟩
        · exact bset2 (r := w.heap.size + 1) hb' (by omega)
end Go.Proofs.YteliflcbegcdlaaGreatDoor

namespace Go.Proofs.YteliflcbegcdlaaGreatDoor
open Go.RowKit
set_option linter.unusedVariables false
theorem drop_eq_iff {X Y : List Int} {k : Nat} (h : k < X.length) (h' : k < Y.length) : X.drop k = Y.drop k ↔ X[k] = Y[k] ∧ X.drop (k + 1) = Y.drop (k + 1) := by
  rw [List.drop_eq_getElem_cons h, List.drop_eq_getElem_cons h', List.cons.injEq]
set_option maxHeartbeats 1000000 in
theorem refInts_any (vx vy : Value) (X Y : List Int) (w : World) (hX : Ints w vx X) (hY : Ints w vy Y) (hl : X.length ≤ 1000) (hl' : Y.length ≤ 1000) :
    Calls Tryz.prog 27 #[vx, vy] w fun e w' => e = .returned (.bool (decide (X = Y))) ∧ Below w.heap.size w w' := by
  have hX0 := hX
  have hY0 := hY
  obtain ⟨A, c, rfl, hc, hh⟩ := hX
  obtain ⟨A', c', rfl, hc', hh'⟩ := hY
  clear hh hh' hc hc'
  by_cases hlen : X.length = Y.length
  rotate_left
  · have z1 : ((X.length : Int) != (Y.length : Int)) = true := by simp; omega
    have hfin := Lib.hid (show decide (X = Y) = false from decide_eq_false (fun e => hlen (by rw [e])))
    clear hlen
    go_enter Tryz.func27, Tryz.ntmps27
    go_wp2_with fail
    go_ret
    exact ⟨by rw [hfin.out]; rfl, Below.refl _ _⟩
  have z1 : ((X.length : Int) != (Y.length : Int)) = false := by simp; omega
  have HL := Lib.hid hlen
  clear hlen
  go_enter Tryz.func27, Tryz.ntmps27
  go_wp2_with fail
  clear z1
  go_loopw [5] (fun i wr => ∃ k : Nat, k ≤ X.length ∧ i = .int .i64 k ∧ Below w.heap.size w wr ∧ Hid (X = Y ↔ X.drop k = Y.drop k)) (fun i _ => X.length - (intOf i).toNat)
  case atStart => exact ⟨0, Nat.zero_le _, rfl, Below.refl _ _, Iff.rfl⟩
  case round =>
    obtain ⟨k, hk, rfl, hb, H⟩ := hrel
    by_cases hlt : k < X.length
    · have hlt' : k < Y.length := by have := HL.out; omega
      obtain ⟨b, o, rfl, hbl, hcell⟩ := hX0.at_ hlt
      obtain ⟨b', o', rfl, hbl', hcell'⟩ := hY0.at_ hlt'
      have hcX := (hb.cell (p := ⟨b, o + k, none⟩) hbl).trans hcell
      have hcY := (hb.cell (p := ⟨b', o' + k, none⟩) hbl').trans hcell'
      rw [drop_eq_iff hlt hlt'] at H
      generalize X[k] = x at *
      generalize Y[k] = y at *
      clear hcell hcell' hX0 hY0
      have z2 : (k : Int) < (X.length : Int) := by omega
      have z3 : (k : Int) < (Y.length : Int) := by omega
      by_cases hxy : x = y
      · have h1 : (x != y) = false := by simp [hxy]
        have H2 := Lib.hid (show X = Y ↔ X.drop (k + 1) = Y.drop (k + 1) from H.out.trans ⟨fun h => h.2, fun h => ⟨hxy, h⟩⟩)
        clear hxy H
        go_wp2_with fail
        go_quiet (fail)
        go_wp2_with fail
        go_roundw
        case rel => exact ⟨k + 1, by omega, by go_num, bdrewN hb _, H2⟩
        case measure => simp [intOf]; omega
      · have h1 : (x != y) = true := by simp [hxy]
        have hfin := Lib.hid (show decide (X = Y) = false from decide_eq_false (fun e => hxy (H.out.1 e).1))
        clear hxy H
        go_wp2_with fail
        go_quiet (fail)
        go_wp2_with fail
        go_ret
        exact ⟨by rw [hfin.out]; rfl, bdrewN hb _⟩
    · obtain rfl : k = X.length := by omega
      have hfin := Lib.hid (show decide (X = Y) = true from decide_eq_true (H.out.2 (by rw [List.drop_length, HL.out, List.drop_length])))
      clear H
      go_wp2_with fail
      go_ret
      exact ⟨by rw [hfin.out]; rfl, hb⟩
set_option maxHeartbeats 1000000 in
theorem refSame_any (va vb vc vd : Value) (X O Y R : List Int) (w : World) (hX : Ints w va X) (hO : Ints w vb O) (hY : Ints w vc Y) (hR : Ints w vd R) (l1 : X.length ≤ 1000) (l2 : O.length ≤ 1000) (l3 : Y.length ≤ 1000) (l4 : R.length ≤ 1000) :
    Calls Tryz.prog 11 #[.agg #[va, vb], .agg #[vc, vd]] w fun e w' => e = .returned (.bool (decide ((X, O) = (Y, R)))) ∧ Below w.heap.size w w' := by
  have H1 := Lib.hid (fun W (hb : Below w.heap.size w W) => refInts_any va vc X Y W (hX.below hb) (hY.below hb) l1 l3)
  have H2 := Lib.hid (fun W (hb : Below w.heap.size w W) => refInts_any vb vd O R W (hO.below hb) (hR.below hb) l2 l4)
  obtain ⟨A, c, rfl, -, -⟩ := hX
  obtain ⟨A1, c1, rfl, -, -⟩ := hO
  obtain ⟨A2, c2, rfl, -, -⟩ := hY
  obtain ⟨A3, c3, rfl, -, -⟩ := hR
  have hd : decide ((X, O) = (Y, R)) = (decide (X = Y) && decide (O = R)) := by
    by_cases h1 : X = Y <;> by_cases h2 : O = R <;> simp [h1, h2]
  have HD := Lib.hid hd
  obtain ⟨b1, hb1⟩ : ∃ b, b = decide (X = Y) := ⟨_, rfl⟩
  obtain ⟨b2, hb2⟩ : ∃ b, b = decide (O = R) := ⟨_, rfl⟩
  rw [← hb1] at H1 HD
  rw [← hb2] at H2 HD
  rw [HD.out]
  clear hd hb1 hb2 l1 l2 l3 l4 HD
  go_enter Tryz.func11, Tryz.ntmps11
  go_upto_region 1 with fail
  have hW : ∀ W, W = ((w.alloc (.cells #[.slice A X.length c, .slice A1 O.length c1] 24)).alloc (.cells #[.slice A2 Y.length c2, .slice A3 R.length c3] 24)) → Arr W w.heap.size 24 [.slice A X.length c, .slice A1 O.length c1] ∧ Arr W (w.heap.size + 1) 24 [.slice A2 Y.length c2, .slice A3 R.length c3] ∧ Below w.heap.size w W := by
    rintro W rfl
    exact ⟨(Arr.new _ _ [_, _]).alloc _, Arr.newAt (w.alloc _) _ [_, _] _ (by simp), ((Below.refl _ _).alloc (Nat.le_refl _) _).alloc (by simp) _⟩
  generalize ((w.alloc (.cells #[.slice A X.length c, .slice A1 O.length c1] 24)).alloc (.cells #[.slice A2 Y.length c2, .slice A3 R.length c3] 24)) = w2 at hW ⊢
  obtain ⟨q1, q2, hb2⟩ := hW w2 rfl
  have y0 := q1.cell 0
  have y1 := q1.cell 1
  have z0 := q2.cell 0
  have z1 := q2.cell 1
  clear hW
  go_wp2_with fail
  refine (H1.out w2 hb2).mono ?_
  rintro e3 w3 ⟨rfl, hb3⟩
  have y1 := (hb3.cell q1.lt).trans y1
  have z1 := (hb3.cell q2.lt).trans z1
  have HB3 := Lib.hid (hb2.trans (hb3.mono hb2.size))
  clear y0 z0 hb3 hb2
  cases b1 with
  | false =>
    go_wp2_with fail
    go_ret
    exact ⟨by simp, HB3.out⟩
  | true =>
    go_wp2_with fail
    refine (H2.out w3 HB3.out).mono ?_
    rintro e4 w4 ⟨rfl, hb4⟩
    have HB4 := Lib.hid (HB3.out.trans (hb4.mono HB3.out.size))
    clear y1 z1 hb4
    go_wp2_with fail
    go_ret
    exact ⟨by simp, HB4.out⟩
end Go.Proofs.YteliflcbegcdlaaGreatDoor
