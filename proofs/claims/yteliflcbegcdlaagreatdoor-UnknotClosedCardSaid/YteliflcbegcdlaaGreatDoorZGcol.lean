/- cmp.Compare, slices.Compare and grid.compare. -/
/- grid.Least. -/
/- The reference's split and Valid. -/
/- The reference's removable. -/
/- The reference's Transpose. -/
/- grid.columns and the function that it returns. -/
import Derived.Test.YteliflcbegcdlaaGreatDoorZTls
import Derived.Test.YteliflcbegcdlaaGreatDoorZCyc
import Derived.Deep.RegionHeld3
import Derived.Deep.DeepCutAuto
import Derived.IntWalk
import Derived.Test.YteliflcbegcdlaaGreatDoorZDtr
import Derived.BigGuardPart
import Derived.Deep.RegionWith
import Derived.Test.YteliflcbegcdlaaGreatDoorZDsm
namespace Go.Proofs.YteliflcbegcdlaaGreatDoor
open Go.RowKit
set_option linter.unusedVariables false
theorem isNaN_any (x : Int) (w : World) : Calls Tryz.prog 39 #[.int .i64 x] w fun e w' => e = .returned (.bool false) ∧ w = w' := by
  have h : (x != x) = false := by simp
  go_enter Tryz.func39, Tryz.ntmps39
  go_wp2_with fail
  go_ret
  exact ⟨rfl, rfl⟩
def cmpI (x y : Int) : Int := if x < y then -1 else if y < x then 1 else 0
set_option maxHeartbeats 400000 in
theorem cmpCompare_any (x y : Int) (w : World) : Calls Tryz.prog 19 #[.int .i64 x, .int .i64 y] w fun e w' => e = .returned (.int .i64 (cmpI x y)) ∧ w = w' := by
  by_cases h1 : x < y
  · have hfin := Lib.hid (show cmpI x y = -1 by simp [cmpI, h1])
    go_enter Tryz.func19, Tryz.ntmps19
    go_wp2_with fail
    refine (isNaN_any _ _).mono ?_
    rintro e w' ⟨rfl, rfl⟩
    go_wp2_with fail
    refine (isNaN_any _ _).mono ?_
    rintro e w' ⟨rfl, rfl⟩
    go_wp2_with fail
    go_ret
    exact ⟨by rw [hfin.out]; rfl, rfl⟩
  · by_cases h2 : y < x
    · have hfin := Lib.hid (show cmpI x y = 1 by simp [cmpI, h1, h2])
      go_enter Tryz.func19, Tryz.ntmps19
      go_wp2_with fail
      refine (isNaN_any _ _).mono ?_
      rintro e w' ⟨rfl, rfl⟩
      go_wp2_with fail
      refine (isNaN_any _ _).mono ?_
      rintro e w' ⟨rfl, rfl⟩
      go_wp2_with fail
      go_ret
      exact ⟨by rw [hfin.out]; rfl, rfl⟩
    · have hfin := Lib.hid (show cmpI x y = 0 by simp [cmpI, h1, h2])
      go_enter Tryz.func19, Tryz.ntmps19
      go_wp2_with fail
      refine (isNaN_any _ _).mono ?_
      rintro e w' ⟨rfl, rfl⟩
      go_wp2_with fail
      refine (isNaN_any _ _).mono ?_
      rintro e w' ⟨rfl, rfl⟩
      go_wp2_with fail
      go_ret
      exact ⟨by rw [hfin.out]; rfl, rfl⟩
theorem cmpL_drop (X Y : List Int) (k : Nat) (h : k < X.length) (h' : k < Y.length) : cmpL (X.drop k) (Y.drop k) = if cmpI X[k] Y[k] ≠ 0 then cmpI X[k] Y[k] else cmpL (X.drop (k + 1)) (Y.drop (k + 1)) := by
  rw [List.drop_eq_getElem_cons h, List.drop_eq_getElem_cons h', cmpL]
  unfold cmpI
  by_cases h1 : X[k] < Y[k]
  · simp [h1]
  · by_cases h2 : Y[k] < X[k] <;> simp [h1, h2]
set_option maxHeartbeats 1000000 in
theorem slicesCompare_any (vx vy : Value) (X Y : List Int) (w : World) (hX : Ints w vx X) (hY : Ints w vy Y) (hl : X.length ≤ 1000000) (hl' : Y.length ≤ 1000000) :
    Calls Tryz.prog 20 #[vx, vy] w fun e w' => e = .returned (.int .i64 (cmpL X Y)) ∧ w = w' := by
  have hX0 := hX
  have hY0 := hY
  obtain ⟨A, c, rfl, hc, hh⟩ := hX
  obtain ⟨A', c', rfl, hc', hh'⟩ := hY
  clear hh hh'
  go_enter Tryz.func20, Tryz.ntmps20
  go_wp2_with fail
  go_loop [11] (fun i => ∃ k : Nat, k ≤ X.length ∧ k ≤ Y.length ∧ i = .int .i64 k ∧ Hid (cmpL X Y = cmpL (X.drop k) (Y.drop k))) (fun i => X.length - (intOf i).toNat)
  case atStart => exact ⟨0, Nat.zero_le _, Nat.zero_le _, rfl, rfl⟩
  case round =>
    obtain ⟨k, hk, hk', rfl, H⟩ := hrel
    by_cases hlt : k < X.length
    · obtain ⟨b, o, rfl, hbl, hcell⟩ := hX0.at_ hlt
      by_cases hlt' : k < Y.length
      · obtain ⟨b', o', rfl, hbl', hcell'⟩ := hY0.at_ hlt'
        rw [cmpL_drop X Y k hlt hlt'] at H
        generalize X[k] = x at *
        generalize Y[k] = y at *
        have u : ¬ (Y.length : Int) ≤ (k : Int) := by omega
        go_wp2_with fail
        refine (cmpCompare_any x y _).mono ?_
        rintro e w' ⟨rfl, rfl⟩
        generalize cmpI x y = d at *
        by_cases hd : d = 0
        · have u2 : (d != 0) = false := by simpa using hd
          rw [if_neg (by simpa using hd)] at H
          clear hd
          go_wp2_with fail
          go_round
          case rel => exact ⟨k + 1, by omega, by omega, by go_num, H⟩
          case measure => simp [intOf]; omega
        · have u2 : (d != 0) = true := by simpa using hd
          rw [if_pos hd] at H
          clear hd
          go_wp2_with fail
          go_ret
          exact ⟨by rw [H.out]; rfl, rfl⟩
      · have u : (Y.length : Int) ≤ (k : Int) := by omega
        have hfin := Lib.hid (show cmpL X Y = 1 by rw [H.out, List.drop_eq_getElem_cons hlt, List.drop_eq_nil_of_le (by omega : Y.length ≤ k)]; rfl)
        go_wp2_with fail
        go_ret
        exact ⟨by rw [hfin.out]; rfl, rfl⟩
    · by_cases hlt' : X.length < Y.length
      · have u : (X.length : Int) < (Y.length : Int) := by omega
        have hfin := Lib.hid (show cmpL X Y = -1 by rw [H.out, List.drop_eq_nil_of_le (by omega : X.length ≤ k), List.drop_eq_getElem_cons (by omega : k < Y.length)]; rfl)
        go_wp2_with fail
        go_ret
        exact ⟨by rw [hfin.out]; rfl, rfl⟩
      · have u : ¬ (X.length : Int) < (Y.length : Int) := by omega
        have hfin := Lib.hid (show cmpL X Y = 0 by rw [H.out, List.drop_eq_nil_of_le (by omega : X.length ≤ k), List.drop_eq_nil_of_le (by omega : Y.length ≤ k)]; rfl)
        go_wp2_with fail
        go_ret
        exact ⟨by rw [hfin.out]; rfl, rfl⟩
set_option maxHeartbeats 1000000 in
theorem gridCompare_any (vx vo vx2 vo2 : Value) (X O X2 O2 : List Int) (w : World) (hX : Ints w vx X) (hO : Ints w vo O) (hX2 : Ints w vx2 X2) (hO2 : Ints w vo2 O2) (l1 : X.length ≤ 1000) (l2 : O.length ≤ 1000) (l3 : X2.length ≤ 1000) (l4 : O2.length ≤ 1000) :
    Calls Tryz.prog 72 #[.agg #[vx, vo], .agg #[vx2, vo2]] w fun e w' => e = .returned (.int .i64 (cmpP (X, O) (X2, O2))) ∧ Below w.heap.size w w' := by
  have hX0 := hX
  have hO0 := hO
  have hX3 := hX2
  have hO3 := hO2
  obtain ⟨A, c, rfl, hc, hh⟩ := hX
  obtain ⟨A', c', rfl, hc', hh'⟩ := hO
  obtain ⟨A2, c2, rfl, hc2, hh2⟩ := hX2
  obtain ⟨A2', c2', rfl, hc2', hh2'⟩ := hO2
  clear hh hh' hh2 hh2'
  by_cases h0 : cmpL X X2 = 0
  · have hfin := Lib.hid (show cmpP (X, O) (X2, O2) = cmpL O O2 by unfold cmpP; rw [if_neg (by simpa using h0)])
    have H0 := Lib.hid h0
    clear h0
    go_enter Tryz.func72, Tryz.ntmps72
    go_wp2_with fail
    refine (slicesCompare_any _ _ X X2 _ ((hX0.alloc _).alloc _) ((hX3.alloc _).alloc _) (by omega) (by omega)).mono ?_
    rw [H0.out]
    rintro e w1 ⟨rfl, rfl⟩
    go_wp2_with fail
    refine (slicesCompare_any _ _ O O2 _ ((hO0.alloc _).alloc _) ((hO3.alloc _).alloc _) (by omega) (by omega)).mono ?_
    rintro e w1 ⟨rfl, rfl⟩
    go_wp2_with fail
    go_ret
    exact ⟨by rw [hfin.out]; rfl, by repeat (first | exact Below.refl _ _ | refine Below.alloc ?_ (by simp <;> omega) _)⟩
  · have hfin := Lib.hid (show cmpP (X, O) (X2, O2) = cmpL X X2 by unfold cmpP; rw [if_pos (by simpa using h0)])
    obtain ⟨d, hd⟩ : ∃ d, cmpL X X2 = d := ⟨_, rfl⟩
    rw [hd] at h0 hfin
    have HD := Lib.hid hd
    clear hd
    have u : (d != 0) = true := by simpa using h0
    clear h0
    go_enter Tryz.func72, Tryz.ntmps72
    go_wp2_with fail
    refine (slicesCompare_any _ _ X X2 _ ((hX0.alloc _).alloc _) ((hX3.alloc _).alloc _) (by omega) (by omega)).mono ?_
    rw [HD.out]
    rintro e w1 ⟨rfl, rfl⟩
    go_wp2_with fail
    go_ret
    exact ⟨by rw [hfin.out]; rfl, by repeat (first | exact Below.refl _ _ | refine Below.alloc ?_ (by simp <;> omega) _)⟩
end Go.Proofs.YteliflcbegcdlaaGreatDoor

namespace Go.Proofs.YteliflcbegcdlaaGreatDoor
open Go.RowKit
set_option linter.unusedVariables false
/-- a pair of slices that reads as p -/
def RdP (w : World) (v0 v1 : Value) (p : List Int × List Int) : Prop := Ints w v0 p.1 ∧ Ints w v1 p.2
set_option maxHeartbeats 4000000 in
theorem least_any (vx vo : Value) (X O : List Int) (w : World) (hX : Ints w vx X) (hO : Ints w vo O) (hv : Vd X O) :
    Calls Tryz.prog 46 #[.agg #[vx, vo]] w fun e w' => ∃ p A0 c0 A1 c1, e = .returned (.tuple #[.agg #[.slice A0 X.length c0, .slice A1 X.length c1], .int .i64 0]) ∧ RdP w' (.slice A0 X.length c0) (.slice A1 X.length c1) p ∧ IsL X O X.length p ∧ Below w.heap.size w w' := by
  have h40 := hv.most
  have h2 := hv.two
  have HL := Lib.hid hv.len
  have lO : O.length ≤ 40 := by have := HL.out; omega
  have HV := Lib.hid hv
  clear hv
  have hX0 := hX
  have hO0 := hO
  obtain ⟨A, c, rfl, hc, hh⟩ := hX
  obtain ⟨A', c', rfl, hc', hh'⟩ := hO
  clear hh hh'
  go_enter Tryz.func46, Tryz.ntmps46
  go_wp2_with fail
  have hW : Arr ((w.alloc (.cells #[.slice A X.length c, .slice A' O.length c'] 24)).alloc (.cells #[.slice none 0 0, .slice none 0 0] 24)) w.heap.size 24 [.slice A X.length c, .slice A' O.length c'] ∧ Arr ((w.alloc (.cells #[.slice A X.length c, .slice A' O.length c'] 24)).alloc (.cells #[.slice none 0 0, .slice none 0 0] 24)) (w.heap.size + 1) 24 [.slice none 0 0, .slice none 0 0] ∧ Below w.heap.size w ((w.alloc (.cells #[.slice A X.length c, .slice A' O.length c'] 24)).alloc (.cells #[.slice none 0 0, .slice none 0 0] 24)) :=
    ⟨(Arr.new _ _ [_, _]).alloc _, Arr.newAt (w.alloc _) _ [_, _] _ (by simp), ((Below.refl _ _).alloc (Nat.le_refl _) _).alloc (by simp) _⟩
  generalize ((w.alloc (.cells #[.slice A X.length c, .slice A' O.length c'] 24)).alloc (.cells #[.slice none 0 0, .slice none 0 0] 24)) = w4 at hW ⊢
  obtain ⟨q0, q1, hb4⟩ := hW
  refine (valid_any _ _ X O _ (hX0.below hb4) (hO0.below hb4) (by omega) (by omega)).mono ?_
  rw [(validB_iff X O).2 HV.out]
  rintro e w5 ⟨rfl, hb5⟩
  have hbw5 := hb4.trans (hb5.mono hb4.size)
  have p0 := q0.below hb5 q0.lt
  have p1 := q1.below hb5 q1.lt
  clear q0 q1 hb5 hb4
  have y0 := p0.cell 0
  have y1 := p0.cell 1
  have l1 := p1.lt
  go_wp2_with fail
  have hW : Arr (w5.alloc (.cells #[.slice none 0 0, .slice none 0 0] 24)) w5.heap.size 24 [.slice none 0 0, .slice none 0 0] ∧ Arr (w5.alloc (.cells #[.slice none 0 0, .slice none 0 0] 24)) w.heap.size 24 [.slice A X.length c, .slice A' O.length c'] ∧ Arr (w5.alloc (.cells #[.slice none 0 0, .slice none 0 0] 24)) (w.heap.size + 1) 24 [.slice none 0 0, .slice none 0 0] ∧ Below w.heap.size w (w5.alloc (.cells #[.slice none 0 0, .slice none 0 0] 24)) :=
    ⟨Arr.new _ _ [_, _], p0.alloc _, p1.alloc _, hbw5.alloc hbw5.size _⟩
  clear y0 y1 p0 p1 hbw5
  generalize hB : w5.heap.size = B at *
  generalize w5.alloc (.cells #[.slice none 0 0, .slice none 0 0] 24) = w6 at hW ⊢
  clear hB
  obtain ⟨s5, p0, p1, hbw⟩ := hW
  go_loopw [16] (fun i wr => ∃ (k : Nat) (A0 A1 : Option Addr) (n0 c0 n1 c1 : Nat) (p : List Int × List Int), k ≤ X.length ∧ i = .int .i64 k ∧ Arr wr B 24 [.slice A0 n0 c0, .slice A1 n1 c1] ∧ IntsE (fun b => b = B ∨ b = w.heap.size + 1) wr (.slice A0 n0 c0) p.1 ∧ IntsE (fun b => b = B ∨ b = w.heap.size + 1) wr (.slice A1 n1 c1) p.2 ∧ Arr wr w.heap.size 24 [.slice A X.length c, .slice A' O.length c'] ∧ Arr wr (w.heap.size + 1) 24 [.slice none 0 0, .slice none 0 0] ∧ Below w.heap.size w wr ∧ Hid (0 < k → IsL X O k p) ∧ Hid (0 < k → p.1.length = X.length ∧ p.2.length = X.length)) (fun i _ => X.length - (intOf i).toNat)
  case atStart => exact ⟨0, none, none, 0, 0, 0, 0, ([], []), Nat.zero_le _, rfl, s5, IntsE.nil _ _, IntsE.nil _ _, p0, p1, hbw, fun h => absurd h (by omega), fun h => absurd h (by omega)⟩
  case round =>
    clear s5 p0 p1 hbw
    obtain ⟨k, A0, A1, n0, c0, n1, c1, p, hk, rfl, s5, i1, i2, p0, p1, hbr, HI, HLN⟩ := hrel
    by_cases hlt : k < X.length
    · obtain ⟨b, o, rfl, hbl, hcell⟩ := hX0.at_ hlt
      have hg := HV.out.pX.gt_rng hlt
      rw [← gt_get hlt] at hcell
      have HC := Lib.hid (show cand X O k = (trl ((X.length - k) % X.length) ((X.length - (gt X k).toNat) % X.length) X, trl ((X.length - k) % X.length) ((X.length - (gt X k).toNat) % X.length) O) from rfl)
      generalize gt X k = x at *
      obtain ⟨x, rfl⟩ := Int.eq_ofNat_of_zero_le hg.1
      rw [Int.toNat_natCast] at HC
      have z1 := (hbr.cell (p := ⟨b, o + k, none⟩) hbl).trans hcell
      have y0 := p0.cell 0
      have y1 := p0.cell 1
      have lB := s5.lt
      clear hcell
      have KS := Lib.hid (fun (W : World) (hb : Below wr.heap.size wr W) => (⟨(hb.cell p0.lt).trans y0, (hb.cell p0.lt).trans y1, (hb.cell (p := ⟨b, o + k, none⟩) (block_lt_of_cell z1)).trans z1, hb⟩ : W.cell? ⟨w.heap.size, 0, none⟩ = some (.slice (some ⟨b, o, none⟩) X.length c) ∧ W.cell? ⟨w.heap.size, 1, none⟩ = some (.slice A' O.length c') ∧ W.cell? ⟨b, o + k, none⟩ = some (.int .i64 (x : Int)) ∧ Below wr.heap.size wr W))
      have HJ := Lib.hid (fun (W W' : World) (hS : W.cell? ⟨w.heap.size, 0, none⟩ = some (.slice (some ⟨b, o, none⟩) X.length c) ∧ W.cell? ⟨w.heap.size, 1, none⟩ = some (.slice A' O.length c') ∧ W.cell? ⟨b, o + k, none⟩ = some (.int .i64 (x : Int)) ∧ Below wr.heap.size wr W) (hb : Below W.heap.size W W') => Below.trans hS.2.2.2 (hb.mono hS.2.2.2.size))
      have HT := Lib.hid (fun (W : World) (hS : W.cell? ⟨w.heap.size, 0, none⟩ = some (.slice (some ⟨b, o, none⟩) X.length c) ∧ W.cell? ⟨w.heap.size, 1, none⟩ = some (.slice A' O.length c') ∧ W.cell? ⟨b, o + k, none⟩ = some (.int .i64 (x : Int)) ∧ Below wr.heap.size wr W) => translate_any (.slice (some ⟨b, o, none⟩) X.length c) (.slice A' O.length c') X O ((X.length - k) % X.length) ((X.length - x) % X.length) W (hX0.below (hbr.trans (Below.mono hS.2.2.2 hbr.size))) (hO0.below (hbr.trans (Below.mono hS.2.2.2 hbr.size))) HL.out (by omega) (by omega) (by have := Nat.mod_lt (X.length - k) (show 0 < X.length by omega); omega) (by have := Nat.mod_lt (X.length - x) (show 0 < X.length by omega); omega) HV.out.pX.1 (by rw [HL.out]; exact HV.out.pO.1))
      have e1 : ((X.length : Int) - (k : Int)).tmod (X.length : Int) = (((X.length - k) % X.length : Nat) : Int) := by
        rw [Int.tmod_eq_emod_of_nonneg (by omega), Int.natCast_emod]; congr 1; omega
      have e2 : ((X.length : Int) - (x : Int)).tmod (X.length : Int) = (((X.length - x) % X.length : Nat) : Int) := by
        rw [Int.tmod_eq_emod_of_nonneg (by omega), Int.natCast_emod]; congr 1; omega
      have e1' : ((X.length : Int) - (k : Int)) % (X.length : Int) = (((X.length - k) % X.length : Nat) : Int) := by
        rw [Int.natCast_emod]; congr 1; omega
      have e2' : ((X.length : Int) - (x : Int)) % (X.length : Int) = (((X.length - x) % X.length : Nat) : Int) := by
        rw [Int.natCast_emod]; congr 1; omega
      generalize (X.length - k) % X.length = cc at *
      generalize (X.length - x) % X.length = rr at *
      have nz : ((X.length : Int) == 0) = false := beq_eq_false_iff_ne.2 (by omega)
      have zn2 : ¬ ((X.length : Int) = 0) := by omega
      have zn3 : ¬ (X = []) := by intro h; rw [h] at h2; simp at h2
      have zn4 : ¬ (X.length = 0) := by omega
      have zz1 : (k : Int) < (X.length : Int) := by omega
      have w1 : IntKind.i64.wrap ((X.length : Int) - (k : Int)) = (X.length : Int) - (k : Int) := IntWalk.i64_in _ (by omega)
      have w2 : IntKind.i64.wrap ((X.length : Int) - (x : Int)) = (X.length : Int) - (x : Int) := IntWalk.i64_in _ (by omega)
      go_wp2_with fail
      go_cut [7] (fun s7 wx => ∃ g7 gx go, s7 = .pointer (some ⟨g7, 0, none⟩) ∧ Arr wx g7 24 [.slice (some ⟨gx, 0, none⟩) (trl cc rr X).length (trl cc rr X).length, .slice (some ⟨go, 0, none⟩) (trl cc rr O).length (trl cc rr O).length] ∧ Arr wx gx 3 (ints (trl cc rr X)) ∧ Arr wx go 3 (ints (trl cc rr O)) ∧ wr.heap.size ≤ gx ∧ wr.heap.size ≤ go ∧ wr.heap.size ≤ g7 ∧ Below wr.heap.size wr wx)
      case first =>
        go_region_held3 (fun w' => w'.cell? ⟨w.heap.size, 0, none⟩ = some (.slice (some ⟨b, o, none⟩) X.length c) ∧ w'.cell? ⟨w.heap.size, 1, none⟩ = some (.slice A' O.length c') ∧ w'.cell? ⟨b, o + k, none⟩ = some (.int .i64 (x : Int)) ∧ Below wr.heap.size wr w') ((refine KS.out _ ?_; repeat (first | exact Below.refl _ _ | exact hb8 | refine Below.drew ?_ | refine Below.alloc ?_ (by first | exact hb8.size | exact Nat.le_refl _) _ | refine Below.setCell ?_ (by first | exact hb8.size | exact Nat.le_refl _) _)))
          (first | (go_at_call 54; refine (HT.out _ (by assumption)).mono ?_; rintro e w7 ⟨v7, rfl, ⟨gx, go, rfl, n1', n2', n3', a1, a2⟩, hb7⟩; have hb8 := HJ.out _ _ (by assumption) hb7; (first | have hz7 := allocked hb7 | have hz7 := allockedD hb7 | skip); (first | (have x0 := Arr.cell hz7 0; have x1 := Arr.cell hz7 1; have x2 := Arr.frozen hz7 0; have x3 := Arr.frozen hz7 1) | skip)))
        · go_wp2_with fail
          go_meet
          exact ⟨w7.heap.size, gx, go, rfl, Arr.new w7 _ [_, _], a1.alloc _, a2.alloc _, n2', n3', hb8.size, hb8.alloc hb8.size _⟩
        · go_wp2_with fail
          go_meet
          exact ⟨wr.heap.size, gx, go, rfl, (hz7.set 0 _).set 1 _, a1.far2 (r := wr.heap.size) (by simp at n2'; omega), a2.far2 (r := wr.heap.size) (by simp at n3'; omega), by simp at n2'; omega, by simp at n3'; omega, Nat.le_refl _, bset2 (r := wr.heap.size) hb8 (Nat.le_refl _)⟩
      case rest =>
        clear KS HJ HT e1 e2 e1' e2' w1 w2 nz zn2 zn3 zn4 zz1 z1 y0 y1
        obtain ⟨g7, gx, go, rfl, g7a, gxa, goa, lgx, lgo, lg7, hbc⟩ := hcut
        have s5' := s5.below hbc s5.lt
        have j1 := (i1.below hbc).ints
        have j2 := (i2.below hbc).ints
        have p0' := p0.below hbc p0.lt
        have p1' := p1.below hbc p1.lt
        have hbr' := hbr.trans (hbc.mono hbr.size)
        have HC' := Lib.hid (show (trl cc rr X, trl cc rr O) = cand X O k from HC.out.symm)
        have lt1 : (trl cc rr X).length = X.length := trl_length _ _ _
        have lt2 : (trl cc rr O).length = X.length := by rw [trl_length, HL.out]
        have I1 := i1.below hbc
        have I2 := i2.below hbc
        have nb1 : ¬ (gx = B ∨ gx = w.heap.size + 1) := by omega
        have nb2 : ¬ (go = B ∨ go = w.heap.size + 1) := by omega
        have t1 : IntsE (fun b => b = B ∨ b = w.heap.size + 1) wc (.slice (some ⟨gx, 0, none⟩) (trl cc rr X).length (trl cc rr X).length) (trl cc rr X) := IntsE.of_arr gxa nb1
        have t2 : IntsE (fun b => b = B ∨ b = w.heap.size + 1) wc (.slice (some ⟨go, 0, none⟩) (trl cc rr O).length (trl cc rr O).length) (trl cc rr O) := IntsE.of_arr goa nb2
        rw [lt1] at g7a t1
        rw [lt2] at g7a t2
        have LT := Lib.hid (And.intro lt1 lt2)
        clear lt1 lt2 HC i1 i2 s5 p0 p1 hbr gxa goa hbc
        generalize trl cc rr X = T1 at *
        generalize trl cc rr O = T2 at *
        have x0 := g7a.cell 0
        have x1 := g7a.cell 1
        have q0 := s5'.cell 0
        have q1 := s5'.cell 1
        have q2 := s5'.frozen 0
        have q3 := s5'.frozen 1
        have ne7 : g7 ≠ B := by omega
        have lw : w.heap.size + 1 < B := by omega
        by_cases hk0 : k = 0
        · subst hk0
          have HI' := Lib.hid (show IsL X O 1 (T1, T2) by rw [HC'.out]; exact IsL.first X O)
          clear j1 j2 I1 I2
          go_wp2_with fail
          go_roundw
          case rel => exact ⟨1, _, _, _, _, _, _, (T1, T2), by omega, by go_num, (s5'.set 0 (.slice (some ⟨gx, 0, none⟩) X.length X.length)).set 1 (.slice (some ⟨go, 0, none⟩) X.length X.length), t1.set2 (.inl rfl) _ _ _ _, t2.set2 (.inl rfl) _ _ _ _, p0'.far2 (r := B) (by omega), p1'.far2 (r := B) (by omega), bset2 (r := B) hbr' (by omega), fun _ => HI'.out, fun _ => LT.out⟩
          case measure => simp [intOf]; omega
        · have hk1 : ((k : Int) == 0) = false := by simp; omega
          have HI2 := Lib.hid (HI.out (by omega))
          have HLN2 := Lib.hid (HLN.out (by omega))
          have lp1 : p.1.length ≤ 1000 := by have := HLN2.out.1; omega
          have lp2 : p.2.length ≤ 1000 := by have := HLN2.out.2; omega
          have lt1 : T1.length ≤ 1000 := by have := LT.out.1; omega
          have lt2 : T2.length ≤ 1000 := by have := LT.out.2; omega
          clear HI HLN
          obtain ⟨P1, P2⟩ := p
          simp only at j1 j2 I1 I2 lp1 lp2
          go_wp2_with fail
          refine (gridCompare_any _ _ _ _ T1 T2 P1 P2 _ t1.ints t2.ints j1 j2 lt1 lt2 lp1 lp2).mono ?_
          rintro e w9 ⟨rfl, hb9⟩
          have g7b := g7a.below hb9 g7a.lt
          have s5b := s5'.below hb9 s5'.lt
          have p0b := p0'.below hb9 p0'.lt
          have p1b := p1'.below hb9 p1'.lt
          have hbb := hbr'.trans (hb9.mono hbr'.size)
          have t1b := t1.below hb9
          have t2b := t2.below hb9
          have I1b := I1.below hb9
          have I2b := I2.below hb9
          have HC2 := Lib.hid (show cmpP (T1, T2) (P1, P2) = cmpP (cand X O k) (P1, P2) by rw [HC'.out])
          have HT := Lib.hid (show cmpP (cand X O k) (P1, P2) < 0 → IsL X O (k + 1) (T1, T2) from fun h => by rw [HC'.out]; exact HI2.out.take h)
          have HK := Lib.hid (show ¬ cmpP (cand X O k) (P1, P2) < 0 → IsL X O (k + 1) (P1, P2) from fun h => HI2.out.keep h)
          rw [HC2.out]
          generalize cmpP (cand X O k) (P1, P2) = d at *
          clear x0 x1 q0 q1 q2 q3 g7a s5' p0' p1' hbr' t1 t2 I1 I2 j1 j2 hb9 HC2
          have x0 := g7b.cell 0
          have x1 := g7b.cell 1
          have q0 := s5b.cell 0
          have q1 := s5b.cell 1
          have q2 := s5b.frozen 0
          have q3 := s5b.frozen 1
          by_cases hd : d < 0
          · have HI3 := Lib.hid (HT.out hd)
            go_wp2_with fail
            go_roundw
            case rel => exact ⟨k + 1, _, _, _, _, _, _, (T1, T2), by omega, by go_num, (s5b.set 0 (.slice (some ⟨gx, 0, none⟩) X.length X.length)).set 1 (.slice (some ⟨go, 0, none⟩) X.length X.length), t1b.set2 (.inl rfl) _ _ _ _, t2b.set2 (.inl rfl) _ _ _ _, p0b.far2 (r := B) (by omega), p1b.far2 (r := B) (by omega), bset2 (r := B) hbb (by omega), fun _ => HI3.out, fun _ => LT.out⟩
            case measure => simp [intOf]; omega
          · have HI3 := Lib.hid (HK.out hd)
            go_wp2_with fail
            go_roundw
            case rel => exact ⟨k + 1, _, _, _, _, _, _, (P1, P2), by omega, by go_num, s5b, I1b, I2b, p0b, p1b, hbb, fun _ => HI3.out, fun _ => HLN2.out⟩
            case measure => simp [intOf]; omega
    · have hk2 : k = X.length := by omega
      subst hk2
      obtain ⟨ln1, ln2⟩ := HLN.out (by omega)
      have HI2 := Lib.hid (HI.out (by omega))
      have j1 := i1
      have j2 := i2
      obtain ⟨D0, d0, e0, _, _⟩ := i1.ints
      injection e0 with ea e0 eb
      clear ea eb
      obtain ⟨D1, d1, e1, _, _⟩ := i2.ints
      injection e1 with ea e1 eb
      clear ea eb
      rw [ln1] at e0
      rw [ln2] at e1
      subst e0 e1
      clear HI HLN ln1 ln2
      have q0 := s5.cell 0
      have q1 := s5.cell 1
      have x0 := p1.cell 0
      have x1 := p1.cell 1
      have x2 := p1.frozen 0
      have x3 := p1.frozen 1
      have hres := Lib.hid ((p1.set 0 (.slice A0 X.length c0)).set 1 (.slice A1 X.length c1))
      go_wp2_with fail
      refine bodyPost_ret (v := .tuple #[.agg #[.slice A0 X.length c0, .slice A1 X.length c1], .int .i64 0]) (results_ct Tryz.results46 _ _ (w.heap.size + 1) 24 _ _ rfl hres.out Tryz.underlying24 rfl info_grid) rfl ?_
      exact ⟨p, _, _, _, _, rfl, ⟨(j1.set2 (.inr rfl) _ _ _ _).ints, (j2.set2 (.inr rfl) _ _ _ _).ints⟩, HI2.out, bset2 (r := w.heap.size + 1) hbr (by omega)⟩
end Go.Proofs.YteliflcbegcdlaaGreatDoor

namespace Go.Proofs.YteliflcbegcdlaaGreatDoor
open Go.RowKit
set_option linter.unusedVariables false
set_option maxHeartbeats 2000000 in
theorem split_any (vx : Value) (X : List Int) (r : Int) (too : Bool) (w : World) (hX : Ints w vx X) (hl : X.length ≤ 1000) (hx : ∀ x ∈ X, -1000 ≤ x ∧ x ≤ 1000) :
    Calls Tryz.prog 100 #[vx, .int .i64 r, .bool too] w fun e w' => ∃ v, e = .returned v ∧ OwnI 3 w.heap.size w' v (X.map (upr r too)) ∧ Below w.heap.size w w' := by
  obtain ⟨i0, hi0, hz0, hz1, hz2⟩ := info_parts info_int8
  have hX0 := hX
  obtain ⟨A, c, rfl, hc, hh⟩ := hX
  clear hh
  go_enter Tryz.func100, Tryz.ntmps100
  go_wp2_with fail
  go_loopw [7, 8] (fun s i wr => ∃ k : Nat, k ≤ X.length ∧ i = .int .i64 k ∧ OwnI 3 w.heap.size wr s ((X.take k).map (upr r too)) ∧ Below w.heap.size w wr) (fun _ i _ => X.length - (intOf i).toNat)
  case atStart => exact ⟨0, Nat.zero_le _, rfl, OwnI.nil _ _ _, Below.refl _ _⟩
  case round =>
    obtain ⟨k, hk, rfl, hown, hbel⟩ := hrel
    by_cases hlt : k < X.length
    · obtain ⟨b, o, rfl, hbl, hcell⟩ := hX0.at_ hlt
      have hc' := (hbel.cell (p := ⟨b, o + k, none⟩) hbl).trans hcell
      have hb := hx _ (List.getElem_mem hlt)
      have hS := Lib.hid (show (X.take (k + 1)).map (upr r too) = (X.take k).map (upr r too) ++ [upr r too X[k]] by rw [List.take_succ_eq_append_getElem hlt, List.map_append]; rfl)
      have hlk : ((X.take k).map (upr r too)).length ≤ 1000 := by simp; omega
      have hlr := Lib.hid (show upr r too X[k] = if r < X[k] ∨ (X[k] = r ∧ too = true) then X[k] + 1 else X[k] from rfl)
      generalize X[k] = x at *
      generalize upr r too x = q at *
      clear hcell
      by_cases e : r < x
      · have hq := Lib.hid (hlr.out.trans (if_pos (.inl e)))
        go_wp2_with ((at_builtin; refine wpList_appI rfl _ _ 22 rfl Tryz.underlying22 hi0 hz0 hz1 hz2 rfl (hown.alloc _) rfl (Ints.one wr 3 _) (by simp at hlk ⊢; omega) (Nat.le_trans hbel.size (by simp)) ?_; intro v' w1 hown' hb1 hk1))
        have hb2 := (hbel.alloc hbel.size _).trans hb1
        go_roundw
        case rel => exact ⟨k + 1, by omega, by go_num, by rw [hS.out, hq.out]; exact hown', hb2⟩
        case measure => simp [intOf]; omega
      have e' : x ≤ r := by omega
      by_cases e2 : x = r
      · have d2 : (x == r) = true := by simpa using e2
        cases too with
        | true =>
          have hq := Lib.hid (hlr.out.trans (if_pos (.inr ⟨e2, rfl⟩)))
          clear e2
          go_wp2_with ((at_builtin; refine wpList_appI rfl _ _ 22 rfl Tryz.underlying22 hi0 hz0 hz1 hz2 rfl (hown.alloc _) rfl (Ints.one wr 3 _) (by simp at hlk ⊢; omega) (Nat.le_trans hbel.size (by simp)) ?_; intro v' w1 hown' hb1 hk1))
          have hb2 := (hbel.alloc hbel.size _).trans hb1
          go_roundw
          case rel => exact ⟨k + 1, by omega, by go_num, by rw [hS.out, hq.out]; exact hown', hb2⟩
          case measure => simp [intOf]; omega
        | false =>
          have hq := Lib.hid (hlr.out.trans (if_neg (by simp; omega)))
          clear e2
          go_wp2_with ((at_builtin; refine wpList_appI rfl _ _ 22 rfl Tryz.underlying22 hi0 hz0 hz1 hz2 rfl (hown.alloc _) rfl (Ints.one wr 3 _) (by simp at hlk ⊢; omega) (Nat.le_trans hbel.size (by simp)) ?_; intro v' w1 hown' hb1 hk1))
          have hb2 := (hbel.alloc hbel.size _).trans hb1
          go_roundw
          case rel => exact ⟨k + 1, by omega, by go_num, by rw [hS.out, hq.out]; exact hown', hb2⟩
          case measure => simp [intOf]; omega
      · have d2 : (x == r) = false := by simpa using e2
        have hq := Lib.hid (hlr.out.trans (if_neg (by rintro (h | ⟨h, _⟩); omega; exact e2 h)))
        clear e2
        go_wp2_with ((at_builtin; refine wpList_appI rfl _ _ 22 rfl Tryz.underlying22 hi0 hz0 hz1 hz2 rfl (hown.alloc _) rfl (Ints.one wr 3 _) (by simp at hlk ⊢; omega) (Nat.le_trans hbel.size (by simp)) ?_; intro v' w1 hown' hb1 hk1))
        have hb2 := (hbel.alloc hbel.size _).trans hb1
        go_roundw
        case rel => exact ⟨k + 1, by omega, by go_num, by rw [hS.out, hq.out]; exact hown', hb2⟩
        case measure => simp [intOf]; omega
    · have hk2 : X.take k = X := List.take_of_length_le (by omega)
      rw [hk2] at hown
      clear hk2
      go_wp2_with fail
      go_ret
      exact ⟨_, rfl, hown, hbel⟩
set_option maxHeartbeats 1000000 in
theorem refValid_any (vx vo : Value) (X O : List Int) (w : World) (hX : Ints w vx X) (hO : Ints w vo O) (hn : X.length ≤ 1000) (hn' : O.length ≤ 1000) :
    Calls Tryz.prog 8 #[.agg #[vx, vo]] w fun e w' => e = .returned (.bool (refValidB X O)) ∧ Below w.heap.size w w' := by
  have hX0 := hX
  have hO0 := hO
  obtain ⟨A, c, rfl, hc, hh⟩ := hX
  obtain ⟨A', c', rfl, hc', hh'⟩ := hO
  clear hh hh'
  by_cases t1 : X.length < 2
  · have hfin := Lib.hid (show refValidB X O = false by simp [refValidB]; omega)
    go_enter Tryz.func8, Tryz.ntmps8
    go_wp2
    go_ret
    exact ⟨by rw [hfin.out]; rfl, (Below.refl _ _).alloc (Nat.le_refl _) _⟩
  by_cases t2 : 40 < X.length
  · have hfin := Lib.hid (show refValidB X O = false by simp [refValidB]; omega)
    have u1 : decide ((X.length : Int) < 2) = false := by simp; omega
    have u2 : decide (40 < (X.length : Int)) = true := by simp; omega
    go_enter Tryz.func8, Tryz.ntmps8
    go_wp2
    go_ret
    exact ⟨by rw [hfin.out]; rfl, (Below.refl _ _).alloc (Nat.le_refl _) _⟩
  have u1 : decide ((X.length : Int) < 2) = false := by simp; omega
  have u2 : decide (40 < (X.length : Int)) = false := by simp; omega
  have q1 : decide (2 ≤ X.length) = true := by simp; omega
  have q2 : decide (X.length ≤ 40) = true := by simp; omega
  have hv0 := Lib.hid (show refValidB X O = (refPerm X X.length && refPerm O X.length && neqB (X.drop 0) (O.drop 0)) by unfold refValidB; rw [q1, q2, Bool.true_and, Bool.true_and, List.drop_zero, List.drop_zero])
  clear q1 q2
  have hol := Lib.hid (show refPerm O X.length = true → O.length = X.length by simp [refPerm]; intro h _; exact h)
  go_enter Tryz.func8, Tryz.ntmps8
  go_wp2_with fail
  refine (isPerm_any _ X X.length _ (hX0.alloc _) hn hn).mono ?_
  rintro e w1 ⟨rfl, rfl⟩
  generalize refPerm X X.length = pX at *
  cases pX with
  | false =>
    have hfin := Lib.hid (show refValidB X O = false by rw [hv0.out]; rfl)
    go_wp2_with fail
    go_ret
    exact ⟨by rw [hfin.out]; rfl, (Below.refl _ _).alloc (Nat.le_refl _) _⟩
  | true =>
    go_wp2_with fail
    refine (isPerm_any _ O X.length _ (hO0.alloc _) hn' hn).mono ?_
    rintro e w1 ⟨rfl, rfl⟩
    generalize refPerm O X.length = pO at *
    cases pO with
    | false =>
      have hfin := Lib.hid (show refValidB X O = false by rw [hv0.out]; rfl)
      go_wp2_with fail
      go_ret
      exact ⟨by rw [hfin.out]; rfl, (Below.refl _ _).alloc (Nat.le_refl _) _⟩
    | true =>
      have HL := Lib.hid (hol.out rfl)
      have hv := Lib.hid (show refValidB X O = neqB (X.drop 0) (O.drop 0) by rw [hv0.out]; rfl)
      clear hv0
      go_wp2_with fail
      clear u1 u2
      go_loopw [4] (fun i wr => ∃ k : Nat, k ≤ X.length ∧ i = .int .i64 k ∧ Arr wr w.heap.size 24 [.slice A X.length c, .slice A' O.length c'] ∧ Below w.heap.size w wr ∧ Hid (refValidB X O = neqB (X.drop k) (O.drop k))) (fun i _ => X.length - (intOf i).toNat)
      case atStart => exact ⟨0, Nat.zero_le _, rfl, Arr.new w _ [_, _], (Below.refl _ _).alloc (Nat.le_refl _) _, hv⟩
      case round =>
        clear hv
        obtain ⟨k, hk, rfl, harr, hbel, hv⟩ := hrel
        have hb0 := harr.cell 0
        have hb1 := harr.cell 1
        by_cases hlt : k < X.length
        · have hlt' : k < O.length := by rw [HL.out]; exact hlt
          obtain ⟨b, o, rfl, hbl, hcell⟩ := hX0.at_ hlt
          obtain ⟨b', o', rfl, hbl', hcell'⟩ := hO0.at_ hlt'
          have hcX := (hbel.cell (p := ⟨b, o + k, none⟩) hbl).trans hcell
          have hcO := (hbel.cell (p := ⟨b', o' + k, none⟩) hbl').trans hcell'
          rw [neqB_drop X O hlt hlt'] at hv
          generalize X[k] = x at *
          generalize O[k] = y at *
          clear hcell hcell' hX0 hO0
          by_cases hxy : x = y
          · have h1 : (x == y) = true := by simpa using hxy
            have hfin := Lib.hid (show refValidB X O = false by rw [hv.out]; simp [bne, h1])
            clear hxy
            go_wp2_with fail
            go_quiet (fail)
            go_wp2_with fail
            go_ret
            exact ⟨by rw [hfin.out]; rfl, bdrewN hbel _⟩
          · have h1 : (x == y) = false := by simpa using hxy
            have hv' := Lib.hid (show refValidB X O = neqB (X.drop (k + 1)) (O.drop (k + 1)) by rw [hv.out]; simp [bne, h1])
            clear hxy
            go_wp2_with fail
            go_quiet (fail)
            go_wp2_with fail
            go_roundw
            case rel => exact ⟨k + 1, by omega, by go_num, harr.drewN _, bdrewN hbel _, hv'⟩
            case measure => simp [intOf]; omega
        · have hk2 : k = X.length := by omega
          have hfin := Lib.hid (show refValidB X O = true by rw [hv.out, hk2, List.drop_length]; simp [neqB])
          clear hk2
          go_wp2_with fail
          go_ret
          exact ⟨by rw [hfin.out]; rfl, hbel⟩
end Go.Proofs.YteliflcbegcdlaaGreatDoor

namespace Go.Proofs.YteliflcbegcdlaaGreatDoor
open Go.RowKit
set_option linter.unusedVariables false
def colIx (l : List Int) (y : Int) : Int := if y ∈ l then (l.idxOf y : Int) else -1
theorem column_ix (vx : Value) (X : List Int) (y : Int) (w : World) (hX : Ints w vx X) (hl : X.length ≤ 1000) :
    Calls Tryz.prog 22 #[vx, .int .i64 y] w fun e w' => e = .returned (.int .i64 (colIx X y)) ∧ w' = w := (column_any vx X y w hX hl).mono fun _ _ ⟨h1, h2⟩ => ⟨h1, h2.symm⟩
def remB (X O : List Int) (x o : Int) : Bool := if X.length < 3 ∨ (x - o ≠ 1 ∧ o - x ≠ 1) then false else (colIx O x != colIx X o)
set_option maxHeartbeats 1000000 in
theorem removable_any (vx vo : Value) (X O : List Int) (a : Nat) (w : World) (hX : Ints w vx X) (hO : Ints w vo O) (hl : X.length ≤ 1000) (hl' : O.length ≤ 1000) (ha : a < X.length) (hb : a < O.length) (hx : -1000 ≤ X[a] ∧ X[a] ≤ 1000) (ho : -1000 ≤ O[a] ∧ O[a] ≤ 1000) :
    Calls Tryz.prog 85 #[.agg #[vx, vo], .int .i64 a] w fun e w' => e = .returned (.bool (remB X O X[a] O[a])) ∧ Below w.heap.size w w' := by
  have hX0 := hX
  have hO0 := hO
  obtain ⟨A, c, rfl, hc, hh⟩ := hX
  obtain ⟨A', c', rfl, hc', hh'⟩ := hO
  clear hh hh'
  obtain ⟨b1, o1, rfl, hlt, c1⟩ := hX0.at_ ha
  obtain ⟨b2, o2, rfl, hlt', c2⟩ := hO0.at_ hb
  generalize X[a] = x at *
  generalize O[a] = o at *
  go_enter Tryz.func85, Tryz.ntmps85
  go_upto_region 1 with fail
  go_cut [5, 6] (fun s5 s6 wx => s5 = .int .i64 x ∧ s6 = .int .i64 o ∧ Arr wx w.heap.size 24 [.slice (some ⟨b1, o1, none⟩) X.length c, .slice (some ⟨b2, o2, none⟩) O.length c'] ∧ Below w.heap.size w wx)
  case first =>
    go_quiet (fail)
    go_wp2_with fail
    go_meet
    exact ⟨rfl, rfl, (Arr.new w _ [_, _]).drewN _, bdrewN ((Below.refl _ _).alloc (Nat.le_refl _) _) _⟩
  case rest =>
    clear c1 c2
    obtain ⟨rfl, rfl, harr, hbx⟩ := hcut
    have y0 := harr.cell 0
    have y1 := harr.cell 1
    by_cases t1 : X.length < 3
    · have hfin := Lib.hid (show remB X O x o = false by unfold remB; rw [if_pos (.inl t1)])
      go_wp2_with fail
      go_ret
      exact ⟨by rw [hfin.out]; rfl, hbx⟩
    have u1 : decide ((X.length : Int) < 3) = false := by simp; omega
    by_cases t2 : x - o = 1
    · have d2 : (x - o != 1) = false := by simp [t2]
      have hfin := Lib.hid (show remB X O x o = (colIx O x != colIx X o) by unfold remB; rw [if_neg (by omega)])
      clear t2
      go_wp2_with fail
      go_quiet (first | (go_at_call_of 22 (Value.slice (some ⟨b2, o2, none⟩) O.length c'); exact Calls.quiet_of_same (column_ix _ O x _ ((hO0.below hbx).drewN _) hl')) | (go_at_call_of 22 (Value.slice (some ⟨b1, o1, none⟩) X.length c); exact Calls.quiet_of_same (column_ix _ X o _ ((hX0.below hbx).drewN _) hl)))
      go_wp2_with fail
      go_ret
      exact ⟨by rw [hfin.out]; rfl, bdrewN hbx _⟩
    have d2 : (x - o != 1) = true := by simpa using t2
    by_cases t3 : o - x = 1
    · have d3 : (o - x != 1) = false := by simp [t3]
      have hfin := Lib.hid (show remB X O x o = (colIx O x != colIx X o) by unfold remB; rw [if_neg (by omega)])
      clear t2 t3
      go_wp2_with fail
      go_quiet (first | (go_at_call_of 22 (Value.slice (some ⟨b2, o2, none⟩) O.length c'); exact Calls.quiet_of_same (column_ix _ O x _ ((hO0.below hbx).drewN _) hl')) | (go_at_call_of 22 (Value.slice (some ⟨b1, o1, none⟩) X.length c); exact Calls.quiet_of_same (column_ix _ X o _ ((hX0.below hbx).drewN _) hl)))
      go_wp2_with fail
      go_ret
      exact ⟨by rw [hfin.out]; rfl, bdrewN hbx _⟩
    · have d3 : (o - x != 1) = true := by simpa using t3
      have hfin := Lib.hid (show remB X O x o = false by unfold remB; rw [if_pos (.inr ⟨t2, t3⟩)])
      clear t2 t3
      go_wp2_with fail
      go_ret
      exact ⟨by rw [hfin.out]; rfl, hbx⟩
end Go.Proofs.YteliflcbegcdlaaGreatDoor

namespace Go.Proofs.YteliflcbegcdlaaGreatDoor
open Go.RowKit
set_option linter.unusedVariables false
set_option maxHeartbeats 2000000 in
theorem refTranspose_any (vx vo : Value) (X O : List Int) (w : World) (hX : Ints w vx X) (hO : Ints w vo O) (hlen : X.length = O.length) (hn : X.length ≤ 1000) (rX : Rows X.length X) (rO : Rows X.length O) :
    Calls Tryz.prog 67 #[.agg #[vx, vo]] w fun e w' => ∃ v, e = .returned v ∧ NewGrid w.heap.size w' v (tr X) (tr O) ∧ Below w.heap.size w w' := by
  obtain ⟨i0, hi0, hz0, hz1, hz2⟩ := info_parts info_int
  have hmk := fun W => run_make_one (P := Tryz.prog) 22 3 i0 (.int .i64 0) Tryz.underlying22 hi0 hz0 hz1 rfl (by rw [hz2]; decide) X.length (by omega) W
  clear hi0 hz0 hz1 hz2
  have HL := Lib.hid hlen
  clear hlen
  have hX0 := hX
  have hO0 := hO
  obtain ⟨A, c, rfl, hc, hh⟩ := hX
  obtain ⟨A', c', rfl, hc', hh'⟩ := hO
  clear hh hh'
  go_enter Tryz.func67, Tryz.ntmps67
  go_upto_region 2 with fail
  have hW : ((w.alloc (.cells #[.slice A X.length c, .slice A' O.length c'] 24)).alloc (.cells #[.slice none 0 0, .slice none 0 0] 24)).heap[w.heap.size]? = some (.cells #[.slice A X.length c, .slice A' O.length c'] 24 (0, 0)) ∧ ((w.alloc (.cells #[.slice A X.length c, .slice A' O.length c'] 24)).alloc (.cells #[.slice none 0 0, .slice none 0 0] 24)).heap[w.heap.size + 1]? = some (.cells #[.slice none 0 0, .slice none 0 0] 24 (0, 0)) ∧ Below w.heap.size w ((w.alloc (.cells #[.slice A X.length c, .slice A' O.length c'] 24)).alloc (.cells #[.slice none 0 0, .slice none 0 0] 24)) ∧ ((w.alloc (.cells #[.slice A X.length c, .slice A' O.length c'] 24)).alloc (.cells #[.slice none 0 0, .slice none 0 0] 24)).heap.size = w.heap.size + 2 :=
    ⟨(Arr.new _ _ [_, _]).alloc _, Arr.newAt (w.alloc _) _ [_, _] _ (by simp), ((Below.refl _ _).alloc (Nat.le_refl _) _).alloc (by simp) _, by simp⟩
  generalize ((w.alloc (.cells #[.slice A X.length c, .slice A' O.length c'] 24)).alloc (.cells #[.slice none 0 0, .slice none 0 0] 24)) = w2 at hW ⊢
  obtain ⟨hw0, hw1, hb2, hs2⟩ := hW
  have HW0 := Lib.hid hw0
  have HW1 := Lib.hid hw1
  have HS2 := Lib.hid hs2
  clear hw0 hw1 hs2
  go_cut [4, 10, 12] (fun s4 s10 s12 wx => Mid w.heap.size wx s4 s10 s12 (.slice A X.length c) (.slice A' O.length c') (List.replicate X.length 0) (List.replicate X.length 0) ∧ Below w.heap.size w wx)
  case first =>
    go_region
    all_goals
      go_wp2_with fail
      go_meet
      have hs2 := HS2.out
      have hw0 := HW0.out
      have hw1 := HW1.out
      refine ⟨?_, ?_⟩
      rotate_left
      · repeat (first | exact hb2 | refine Below.alloc ?_ (by simp [hs2] <;> omega) _ | refine Below.drew ?_)
      exact mid_of2 w _ _ _ X.length X.length (by simp only [heap_push, heap_drew, Array.getElem?_push, Array.size_push]; repeat (first | rw [if_pos trivial] | rw [if_neg (by omega)] | exact hw0 | exact hw1)) (by simp only [heap_push, heap_drew, Array.getElem?_push, Array.size_push]; repeat (first | rw [if_pos trivial] | rw [if_neg (by omega)] | exact hw0 | exact hw1)) (by simp only [heap_push, heap_drew, Array.getElem?_push, Array.size_push]; repeat (first | rw [if_pos trivial] | rw [if_neg (by omega)] | exact hw0 | exact hw1)) (by simp only [heap_push, heap_drew, Array.getElem?_push, Array.size_push]; repeat (first | rw [if_pos trivial] | rw [if_neg (by omega)] | exact hw0 | exact hw1)) (by simp only [heap_push, heap_drew, Array.getElem?_push, Array.size_push]; repeat (first | rw [if_pos trivial] | rw [if_neg (by omega)] | exact hw0 | exact hw1)) (by omega) (by omega) (by omega) (by omega) (by omega) (by omega)
  case rest =>
    clear hmk
    obtain ⟨⟨g, gx, go, rfl, e14, e16, hm⟩, hb⟩ := hcut
    clear e14 e16
    go_wp2_with fail
    go_loopw [5] (fun i wr => ∃ (k : Nat) (aX aO : List Int), k ≤ X.length ∧ i = .int .i64 k ∧ Mid3 w.heap.size wr g gx go (.slice A X.length c) (.slice A' O.length c') aX aO ∧ Below w.heap.size w wr ∧
      Hid (aX.length = X.length ∧ aO.length = X.length ∧ tr X = relTo mvT true k (X.drop k) aX ∧ tr O = relTo mvT true k (O.drop k) aO)) (fun i _ => X.length - (intOf i).toNat)
    case atStart =>
      exact ⟨0, _, _, Nat.zero_le _, rfl, hm, hb, by simp, by simp, rfl, by simp only [tr, reloc, HL.out, List.drop_zero]⟩
    case round =>
      obtain ⟨k, aX, aO, hk, rfl, hm', hb', H⟩ := hrel
      clear hb hm
      by_cases hlt : k < X.length
      · obtain ⟨b, o, rfl, hbl, hcell⟩ := hX0.at_ hlt
        have hltO : k < O.length := by have := HL.out; omega
        obtain ⟨b', o', rfl, hbl', hcell'⟩ := hO0.at_ hltO
        have hcX := (hb'.cell (p := ⟨b, o + k, none⟩) hbl).trans hcell
        have rx := rX.get hlt
        have ro := rO.get hltO
        rw [relTo_drop mvT true X aX hlt, relTo_drop mvT true O aO hltO, relStep_mvT _ _ _ rx.1, relStep_mvT _ _ _ ro.1] at H
        generalize X[k] = x at *
        generalize O[k] = y at *
        clear hcell
        obtain ⟨x, rfl⟩ := Int.eq_ofNat_of_zero_le rx.1
        obtain ⟨y, rfl⟩ := Int.eq_ofNat_of_zero_le ro.1
        simp only [Int.toNat_natCast] at H
        have hx1 : x < aX.length := by have := H.out.1; omega
        have hy1 : y < aO.length := by have := H.out.2.1; omega
        have w5 := hm'.2.2.2.2.1
        have w6 := hm'.2.2.2.2.2.1
        have n3 := hm'.2.1.symm
        have n4 := hm'.2.2.1.symm
        have n5 : gx ≠ w.heap.size := by omega
        have n6 : go ≠ w.heap.size := by omega
        have n7 : gx ≠ b := by omega
        have n10 : go ≠ b' := by omega
        go_wp2_with fail
        have z0 := hm'.2.2.2.2.2.2.2.2.2.1.cell 0
        have z1 := hm'.2.2.2.2.2.2.1.cell 0
        have z2 := (hm'.2.2.2.2.2.2.2.1.cell x).trans (ints_get _ hx1)
        have z3 := hm'.2.2.2.2.2.2.2.1.frozen x
        have z5 : (x : Int) < (aX.length : Int) := by omega
        have z6 : (k : Int) < (X.length : Int) := by omega
        have z7 : (k : Int) < (O.length : Int) := by omega
        go_region_held3 (fun w' => w'.cell? ⟨w.heap.size, 0, none⟩ = some (.slice (some ⟨b, o, none⟩) X.length c) ∧ w'.cell? ⟨g, 0, none⟩ = some (.slice (some ⟨gx, 0, none⟩) aX.length aX.length) ∧ w'.cell? ⟨b, o + k, none⟩ = some (.int .i64 (x : Int))) (go_keep) (first | fail)
        clear z0 z1 z2 z3 z5 z6 z7
        have hm2 := (hm'.setX x k).drew
        have hb2 := (hb'.setCell (p := ⟨gx, x, none⟩) (by show w.heap.size ≤ gx; omega) (.int .i64 (k : Int))).drew
        have hcO := (hb2.cell (p := ⟨b', o' + k, none⟩) hbl').trans hcell'
        generalize (wr.setCell ⟨gx, x, none⟩ (.int .i64 (k : Int))).drew = wr2 at *
        clear hm' hb' hcX hcell'
        go_wp2_with fail
        have z0 := hm2.2.2.2.2.2.2.2.2.2.1.cell 1
        have z1 := hm2.2.2.2.2.2.2.1.cell 1
        have z2 := (hm2.2.2.2.2.2.2.2.2.1.cell y).trans (ints_get _ hy1)
        have z3 := hm2.2.2.2.2.2.2.2.2.1.frozen y
        have z5 : (y : Int) < (aO.length : Int) := by omega
        have z6 : (k : Int) < (X.length : Int) := by omega
        have z7 : (k : Int) < (O.length : Int) := by omega
        go_region_held3 (fun w' => w'.cell? ⟨w.heap.size, 1, none⟩ = some (.slice (some ⟨b', o', none⟩) O.length c') ∧ w'.cell? ⟨g, 1, none⟩ = some (.slice (some ⟨go, 0, none⟩) aO.length aO.length) ∧ w'.cell? ⟨b', o' + k, none⟩ = some (.int .i64 (y : Int))) (go_keep) (first | fail)
        clear z0 z1 z2 z3 z5 z6 z7
        go_wp2_with fail
        go_roundw
        case rel => exact ⟨k + 1, _, _, by omega, by go_num, (hm2.setO y k).drew, (hb2.setCell (p := ⟨go, y, none⟩) (by show w.heap.size ≤ go; omega) _).drew, by simp [H.out.1], by simp [H.out.2.1], H.out.2.2.1, H.out.2.2.2⟩
        case measure => simp [intOf]; omega
      · obtain rfl : k = X.length := by omega
        obtain ⟨hl1, hl2, hr1, hr2⟩ := H.out
        rw [List.drop_length] at hr1
        rw [HL.out, List.drop_length] at hr2
        have hg0 := hm'.2.2.2.2.2.2.1.cell 0
        have hg1 := hm'.2.2.2.2.2.2.1.cell 1
        obtain ⟨e1, e2, e3, e4, e5, e6, q1, q2, q3, q4, a, b, q5⟩ := hm'
        have hz0 := q5.cell 0
        have hz1 := q5.cell 1
        have hz2 := q5.frozen 0
        have hz3 := q5.frozen 1
        have R1 := Lib.hid hr1
        have R2 := Lib.hid hr2
        have hres := Lib.hid ((q5.set 0 (.slice (some ⟨gx, 0, none⟩) aX.length aX.length)).set 1 (.slice (some ⟨go, 0, none⟩) aO.length aO.length))
        clear hr1 hr2 hl1 hl2 q1 q4 q5 hX0 hO0
        go_wp2_with fail
        refine bodyPost_ret (v := .agg #[.slice (some ⟨gx, 0, none⟩) aX.length aX.length, .slice (some ⟨go, 0, none⟩) aO.length aO.length]) (results_c Tryz.results67 _ _ (w.heap.size + 1) 24 _ _ rfl hres.out Tryz.underlying24 rfl info_grid) rfl ⟨_, rfl, ?_, ?_⟩
        · rw [R1.out, R2.out]
          exact ⟨gx, go, rfl, e1, by omega, by omega, q2.far2 (r := w.heap.size + 1) (by omega), q3.far2 (r := w.heap.size + 1) (by omega)⟩
        · exact bset2 (r := w.heap.size + 1) hb' (by omega)
end Go.Proofs.YteliflcbegcdlaaGreatDoor

namespace Go.Proofs.YteliflcbegcdlaaGreatDoor
open Go.RowKit
set_option linter.unusedVariables false
/-- the function value leads from a row to the column of its mark -/
def ColF (w : World) (v : Value) (X : List Int) : Prop :=
  ∃ g h, v = .func (.func 77) #[] #[.pointer (some ⟨g, 0, none⟩)] ∧ Arr w g 22 [.slice (some ⟨h, 0, none⟩) X.length X.length] ∧ Arr w h 3 (ints (tr X))
theorem ColF.below {w w' : World} {v : Value} {X : List Int} (h : ColF w v X) (hb : Below w.heap.size w w') : ColF w' v X := by
  obtain ⟨g, i, e, h1, h2⟩ := h
  exact ⟨g, i, e, h1.below hb h1.lt, h2.below hb h2.lt⟩
set_option maxHeartbeats 1000000 in
theorem gcolumns_any (vx : Value) (X : List Int) (w : World) (hX : Ints w vx X) (hp : Pm X) (hn : X.length ≤ 1000) :
    Calls Tryz.prog 53 #[vx] w fun e w' => ∃ v, e = .returned v ∧ ColF w' v X ∧ Below w.heap.size w w' := by
  obtain ⟨i0, hi0, hz0, hz1, hz2⟩ := info_parts info_int
  have hmk := fun W => run_make_one (P := Tryz.prog) 22 3 i0 (.int .i64 0) Tryz.underlying22 hi0 hz0 hz1 rfl (by rw [hz2]; decide) X.length (by omega) W
  clear hi0 hz0 hz1 hz2
  have hX0 := hX
  obtain ⟨A, c, rfl, hc, hh⟩ := hX
  clear hh
  go_enter Tryz.func53, Tryz.ntmps53
  go_wp2_with fail
  have hW : Arr ((w.alloc (.cells (rowOf (List.replicate X.length (Value.int .i64 0))) 3)).alloc (.cells #[.slice (some ⟨w.heap.size, 0, none⟩) X.length X.length] 22)) w.heap.size 3 (List.replicate X.length (Value.int .i64 0)) ∧
      Arr ((w.alloc (.cells (rowOf (List.replicate X.length (Value.int .i64 0))) 3)).alloc (.cells #[.slice (some ⟨w.heap.size, 0, none⟩) X.length X.length] 22)) (w.heap.size + 1) 22 [.slice (some ⟨w.heap.size, 0, none⟩) X.length X.length] ∧
      Below w.heap.size w ((w.alloc (.cells (rowOf (List.replicate X.length (Value.int .i64 0))) 3)).alloc (.cells #[.slice (some ⟨w.heap.size, 0, none⟩) X.length X.length] 22)) :=
    ⟨(Arr.new w _ _).alloc _, Arr.newAt (w.alloc _) _ [_] _ (by simp), ((Below.refl _ _).alloc (Nat.le_refl _) _).alloc (by simp) _⟩
  generalize ((w.alloc (.cells (rowOf (List.replicate X.length (Value.int .i64 0))) 3)).alloc (.cells #[.slice (some ⟨w.heap.size, 0, none⟩) X.length X.length] 22)) = w4 at hW ⊢
  obtain ⟨p0, p1, hbw⟩ := hW
  clear hmk
  go_loopw [11] (fun i wr => ∃ (k : Nat) (aX : List Int), k ≤ X.length ∧ i = .int .i64 k ∧ Arr wr w.heap.size 3 (ints aX) ∧ Arr wr (w.heap.size + 1) 22 [.slice (some ⟨w.heap.size, 0, none⟩) X.length X.length] ∧ Below w.heap.size w wr ∧ Hid (aX.length = X.length ∧ relTo mvT true k (X.drop k) aX = tr X)) (fun i _ => X.length - (intOf i).toNat)
  case atStart =>
    exact ⟨0, List.replicate X.length 0, Nat.zero_le _, rfl, by rw [ints_zero]; exact p0, p1, hbw, by simp, rfl⟩
  case round =>
    clear p0 p1 hbw
    obtain ⟨k, aX, hk, rfl, p0, p1, hbr, H⟩ := hrel
    by_cases hlt : k < X.length
    · obtain ⟨b, o, rfl, hbl, hcell⟩ := hX0.at_ hlt
      have hc' := (hbr.cell (p := ⟨b, o + k, none⟩) hbl).trans hcell
      have hg := hp.get hlt
      have H' := Lib.hid (show relTo mvT true (k + 1) (X.drop (k + 1)) (aX.set X[k].toNat k) = tr X by
        have := H.out.2
        rw [relTo_drop mvT true X aX hlt, relStep_mvT _ _ _ hg.1] at this
        exact this)
      have hle := Lib.hid H.out.1
      generalize X[k] = x at *
      obtain ⟨x, rfl⟩ := Int.eq_ofNat_of_zero_le hg.1
      rw [Int.toNat_natCast] at H'
      have hx1 : x < X.length := by omega
      have hx2 : x < aX.length := by have := hle.out; omega
      clear hcell
      have z1 := p1.cell 0
      have z2 := (p0.cell x).trans (ints_get _ hx2)
      have z3 := p0.frozen x
      go_wp2_with fail
      go_roundw
      case rel => exact ⟨k + 1, aX.set x k, by omega, by go_num, by rw [← ints_set]; exact p0.set _ _, p1.far (p := ⟨w.heap.size, x, none⟩) (by show w.heap.size + 1 ≠ w.heap.size; omega) _, hbr.setCell (Nat.le_refl _) _, by rw [List.length_set]; exact hle.out, H'.out⟩
      case measure => simp [intOf]; omega
    · obtain rfl : k = X.length := by omega
      have e1 := Lib.hid (show aX = tr X by have := H.out.2; rw [List.drop_length] at this; exact this)
      go_wp2_with fail
      go_ret
      exact ⟨_, rfl, ⟨_, _, rfl, p1, by rw [← e1.out]; exact p0⟩, hbr⟩
theorem gcolumns1_any (g h : Nat) (X : List Int) (r : Nat) (w : World) (hp : Pm X) (hr : r < X.length) (h1 : Arr w g 22 [.slice (some ⟨h, 0, none⟩) X.length X.length]) (h2 : Arr w h 3 (ints (tr X))) :
    Calls Tryz.prog 77 #[.int .i64 r, .pointer (some ⟨g, 0, none⟩)] w fun e w' => e = .returned (.int .i64 (gt (tr X) r)) ∧ w = w' := by
  have hr' : r < (tr X).length := by rw [tr_length]; exact hr
  have z1 := h1.cell 0
  have z2 := (h2.cell r).trans (ints_get _ hr')
  rw [← gt_get hr'] at z2
  have z3 : (r : Int) < (X.length : Int) := by omega
  generalize gt (tr X) r = y at *
  go_enter Tryz.func77, Tryz.ntmps77
  go_wp2_with fail
  go_ret
  exact ⟨rfl, rfl⟩
end Go.Proofs.YteliflcbegcdlaaGreatDoor
