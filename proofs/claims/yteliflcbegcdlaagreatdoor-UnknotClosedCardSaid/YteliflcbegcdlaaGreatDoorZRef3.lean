/- The reference's split and Valid. -/
import Derived.Test.YteliflcbegcdlaaGreatDoorZRef1
import Derived.BigGuardPart
namespace Go.Proofs.YteliflcbegcdlaaGreatDoor
open Go.RowKit
set_option linter.unusedVariables false
set_option maxHeartbeats 2000000 in
theorem split_any (vx : Value) (X : List Int) (r : Int) (too : Bool) (w : World) (hX : Ints w vx X) (hl : X.length ≤ 1000) (hx : ∀ x ∈ X, -1000 ≤ x ∧ x ≤ 1000) :
    Calls Tryz.prog 100 #[vx, .int .i64 r, .bool too] w fun e w' => ∃ v, e = .returned v ∧ OwnI 3 w.heap.size w' v (X.map (upr r too)) ∧ Below w.heap.size w w' := by
  obtain ⟨i0, hi0, hz0, hz1, hz2⟩ := info_parts info_int8
  have hX0 := hX
  obtain ⟨A, c, rfl, hc, hh⟩ := hX
  clear hh
  go_enter Tryz.func100, Tryz.ntmps100
  go_wp2_with fail
  go_loopw [7, 8] (fun s i wr => ∃ k : Nat, k ≤ X.length ∧ i = .int .i64 k ∧ OwnI 3 w.heap.size wr s ((X.take k).map (upr r too)) ∧ Below w.heap.size w wr) (fun _ i _ => X.length - (intOf i).toNat)
  case atStart => exact ⟨0, Nat.zero_le _, rfl, OwnI.nil _ _ _, Below.refl _ _⟩
  case round =>
    obtain ⟨k, hk, rfl, hown, hbel⟩ := hrel
    by_cases hlt : k < X.length
    · obtain ⟨b, o, rfl, hbl, hcell⟩ := hX0.at_ hlt
      have hc' := (hbel.cell (p := ⟨b, o + k, none⟩) hbl).trans hcell
      have hb := hx _ (List.getElem_mem hlt)
      have hS := Lib.hid (show (X.take (k + 1)).map (upr r too) = (X.take k).map (upr r too) ++ [upr r too X[k]] by rw [List.take_succ_eq_append_getElem hlt, List.map_append]; rfl)
      have hlk : ((X.take k).map (upr r too)).length ≤ 1000 := by simp; omega
      have hlr := Lib.hid (show upr r too X[k] = if r < X[k] ∨ (X[k] = r ∧ too = true) then X[k] + 1 else X[k] from rfl)
      generalize X[k] = x at *
      generalize upr r too x = q at *
      clear hcell
      by_cases e : r < x
      · have hq := Lib.hid (hlr.out.trans (if_pos (.inl e)))
        go_wp2_with ((at_builtin; refine wpList_appI rfl _ _ 22 rfl Tryz.underlying22 hi0 hz0 hz1 hz2 rfl (hown.alloc _) rfl (Ints.one wr 3 _) (by simp at hlk ⊢; omega) (Nat.le_trans hbel.size (by simp)) ?_; intro v' w1 hown' hb1 hk1))
        have hb2 := (hbel.alloc hbel.size _).trans hb1
        go_roundw
        case rel => exact ⟨k + 1, by omega, by go_num, by rw [hS.out, hq.out]; exact hown', hb2⟩
        case measure => simp [intOf]; omega
      have e' : x ≤ r := by omega
      by_cases e2 : x = r
      · have d2 : (x == r) = true := by simpa using e2
        cases too with
        | true =>
          have hq := Lib.hid (hlr.out.trans (if_pos (.inr ⟨e2, rfl⟩)))
          clear e2
          go_wp2_with ((at_builtin; refine wpList_appI rfl _ _ 22 rfl Tryz.underlying22 hi0 hz0 hz1 hz2 rfl (hown.alloc _) rfl (Ints.one wr 3 _) (by simp at hlk ⊢; omega) (Nat.le_trans hbel.size (by simp)) ?_; intro v' w1 hown' hb1 hk1))
          have hb2 := (hbel.alloc hbel.size _).trans hb1
          go_roundw
          case rel => exact ⟨k + 1, by omega, by go_num, by rw [hS.out, hq.out]; exact hown', hb2⟩
          case measure => simp [intOf]; omega
        | false =>
          have hq := Lib.hid (hlr.out.trans (if_neg (by simp; omega)))
          clear e2
          go_wp2_with ((at_builtin; refine wpList_appI rfl _ _ 22 rfl Tryz.underlying22 hi0 hz0 hz1 hz2 rfl (hown.alloc _) rfl (Ints.one wr 3 _) (by simp at hlk ⊢; omega) (Nat.le_trans hbel.size (by simp)) ?_; intro v' w1 hown' hb1 hk1))
          have hb2 := (hbel.alloc hbel.size _).trans hb1
          go_roundw
          case rel => exact ⟨k + 1, by omega, by go_num, by rw [hS.out, hq.out]; exact hown', hb2⟩
          case measure => simp [intOf]; omega
      · have d2 : (x == r) = false := by simpa using e2
        have hq := Lib.hid (hlr.out.trans (if_neg (by rintro (h | ⟨h, _⟩); omega; exact e2 h)))
        clear e2
        go_wp2_with ((at_builtin; refine wpList_appI rfl _ _ 22 rfl Tryz.underlying22 hi0 hz0 hz1 hz2 rfl (hown.alloc _) rfl (Ints.one wr 3 _) (by simp at hlk ⊢; omega) (Nat.le_trans hbel.size (by simp)) ?_; intro v' w1 hown' hb1 hk1))
        have hb2 := (hbel.alloc hbel.size _).trans hb1
        go_roundw
        case rel => exact ⟨k + 1, by omega, by go_num, by rw [hS.out, hq.out]; exact hown', hb2⟩
        case measure => simp [intOf]; omega
    · have hk2 : X.take k = X := List.take_of_length_le (by omega)
      rw [hk2] at hown
      clear hk2
      go_wp2_with fail
      go_ret
      exact ⟨_, rfl, hown, hbel⟩
set_option maxHeartbeats 1000000 in
theorem refValid_any (vx vo : Value) (X O : List Int) (w : World) (hX : Ints w vx X) (hO : Ints w vo O) (hn : X.length ≤ 1000) (hn' : O.length ≤ 1000) :
    Calls Tryz.prog 8 #[.agg #[vx, vo]] w fun e w' => e = .returned (.bool (refValidB X O)) ∧ Below w.heap.size w w' := by
  have hX0 := hX
  have hO0 := hO
  obtain ⟨A, c, rfl, hc, hh⟩ := hX
  obtain ⟨A', c', rfl, hc', hh'⟩ := hO
  clear hh hh'
  by_cases t1 : X.length < 2
  · have hfin := Lib.hid (show refValidB X O = false by simp [refValidB]; omega)
    go_enter Tryz.func8, Tryz.ntmps8
    go_wp2
    go_ret
    exact ⟨by rw [hfin.out]; rfl, (Below.refl _ _).alloc (Nat.le_refl _) _⟩
  by_cases t2 : 40 < X.length
  · have hfin := Lib.hid (show refValidB X O = false by simp [refValidB]; omega)
    have u1 : decide ((X.length : Int) < 2) = false := by simp; omega
    have u2 : decide (40 < (X.length : Int)) = true := by simp; omega
    go_enter Tryz.func8, Tryz.ntmps8
    go_wp2
    go_ret
    exact ⟨by rw [hfin.out]; rfl, (Below.refl _ _).alloc (Nat.le_refl _) _⟩
  have u1 : decide ((X.length : Int) < 2) = false := by simp; omega
  have u2 : decide (40 < (X.length : Int)) = false := by simp; omega
  have q1 : decide (2 ≤ X.length) = true := by simp; omega
  have q2 : decide (X.length ≤ 40) = true := by simp; omega
  have hv0 := Lib.hid (show refValidB X O = (refPerm X X.length && refPerm O X.length && neqB (X.drop 0) (O.drop 0)) by unfold refValidB; rw [q1, q2, Bool.true_and, Bool.true_and, List.drop_zero, List.drop_zero])
  clear q1 q2
  have hol := Lib.hid (show refPerm O X.length = true → O.length = X.length by simp [refPerm]; intro h _; exact h)
  go_enter Tryz.func8, Tryz.ntmps8
  go_wp2_with fail
  refine (isPerm_any _ X X.length _ (hX0.alloc _) hn hn).mono ?_
  rintro e w1 ⟨rfl, rfl⟩
  generalize refPerm X X.length = pX at *
  cases pX with
  | false =>
    have hfin := Lib.hid (show refValidB X O = false by rw [hv0.out]; rfl)
    go_wp2_with fail
    go_ret
    exact ⟨by rw [hfin.out]; rfl, (Below.refl _ _).alloc (Nat.le_refl _) _⟩
  | true =>
    go_wp2_with fail
    refine (isPerm_any _ O X.length _ (hO0.alloc _) hn' hn).mono ?_
    rintro e w1 ⟨rfl, rfl⟩
    generalize refPerm O X.length = pO at *
    cases pO with
    | false =>
      have hfin := Lib.hid (show refValidB X O = false by rw [hv0.out]; rfl)
      go_wp2_with fail
      go_ret
      exact ⟨by rw [hfin.out]; rfl, (Below.refl _ _).alloc (Nat.le_refl _) _⟩
    | true =>
      have HL := Lib.hid (hol.out rfl)
      have hv := Lib.hid (show refValidB X O = neqB (X.drop 0) (O.drop 0) by rw [hv0.out]; rfl)
      clear hv0
      go_wp2_with fail
      clear u1 u2
      go_loopw [4] (fun i wr => ∃ k : Nat, k ≤ X.length ∧ i = .int .i64 k ∧ Arr wr w.heap.size 24 [.slice A X.length c, .slice A' O.length c'] ∧ Below w.heap.size w wr ∧ Hid (refValidB X O = neqB (X.drop k) (O.drop k))) (fun i _ => X.length - (intOf i).toNat)
      case atStart => exact ⟨0, Nat.zero_le _, rfl, Arr.new w _ [_, _], (Below.refl _ _).alloc (Nat.le_refl _) _, hv⟩
      case round =>
        clear hv
        obtain ⟨k, hk, rfl, harr, hbel, hv⟩ := hrel
        have hb0 := harr.cell 0
        have hb1 := harr.cell 1
        by_cases hlt : k < X.length
        · have hlt' : k < O.length := by rw [HL.out]; exact hlt
          obtain ⟨b, o, rfl, hbl, hcell⟩ := hX0.at_ hlt
          obtain ⟨b', o', rfl, hbl', hcell'⟩ := hO0.at_ hlt'
          have hcX := (hbel.cell (p := ⟨b, o + k, none⟩) hbl).trans hcell
          have hcO := (hbel.cell (p := ⟨b', o' + k, none⟩) hbl').trans hcell'
          rw [neqB_drop X O hlt hlt'] at hv
          generalize X[k] = x at *
          generalize O[k] = y at *
          clear hcell hcell' hX0 hO0
          by_cases hxy : x = y
          · have h1 : (x == y) = true := by simpa using hxy
            have hfin := Lib.hid (show refValidB X O = false by rw [hv.out]; simp [bne, h1])
            clear hxy
            go_wp2_with fail
            go_quiet (fail)
            go_wp2_with fail
            go_ret
            exact ⟨by rw [hfin.out]; rfl, bdrewN hbel _⟩
          · have h1 : (x == y) = false := by simpa using hxy
            have hv' := Lib.hid (show refValidB X O = neqB (X.drop (k + 1)) (O.drop (k + 1)) by rw [hv.out]; simp [bne, h1])
            clear hxy
            go_wp2_with fail
            go_quiet (fail)
            go_wp2_with fail
            go_roundw
            case rel => exact ⟨k + 1, by omega, by go_num, harr.drewN _, bdrewN hbel _, hv'⟩
            case measure => simp [intOf]; omega
        · have hk2 : k = X.length := by omega
          have hfin := Lib.hid (show refValidB X O = true by rw [hv.out, hk2, List.drop_length]; simp [neqB])
          clear hk2
          go_wp2_with fail
          go_ret
          exact ⟨by rw [hfin.out]; rfl, hbel⟩
end Go.Proofs.YteliflcbegcdlaaGreatDoor
