/- diagram.Valid: the walk. -/
import Derived.Test.YtlbihllmpbhhcaaDoorZVaw
import Derived.Deep.RegionHeld3
import Derived.Deep.DeepCutAuto
namespace Go.Proofs.YtlbihllmpbhhcaaDoor
open Go.RowKit
set_option linter.unusedVariables false

set_option maxHeartbeats 4000000 in
set_option maxRecDepth 100000 in
theorem valid_code (vs vm : Value) (S M : List Int) (L : Int) (w : World) (hS : Ints w vs S) (hM : Ints w vm M) :
    Calls Tryd.prog 55 #[.agg #[vs, vm, .int .i64 L]] w fun e w' => e = .returned (.bool (valB S M L)) ∧ Below w.heap.size w w' := by
  have hS0 := hS
  have hM0 := hM
  obtain ⟨A, c, rfl, hc, hx⟩ := hS
  obtain ⟨A2, c2, rfl, hc2, hx2⟩ := hM
  clear hx hx2
  obtain ⟨V, hV⟩ : ∃ V, V = valB S M L := ⟨_, rfl⟩
  rw [← hV]
  have HV := Lib.hid hV
  clear hV
  go_enter Tryd.func55, Tryd.ntmps55
  go_upto_region 1 with fail
  have hW : Arr (w.alloc (.cells #[.slice A S.length c, .slice A2 M.length c2, .int .i64 L] 61)) w.heap.size 61 [.slice A S.length c, .slice A2 M.length c2, .int .i64 L] ∧ Below w.heap.size w (w.alloc (.cells #[.slice A S.length c, .slice A2 M.length c2, .int .i64 L] 61)) := ⟨Arr.new w _ _, (Below.refl _ _).alloc (Nat.le_refl _) _⟩
  generalize (w.alloc (.cells #[.slice A S.length c, .slice A2 M.length c2, .int .i64 L] 61)) = w4 at hW ⊢
  obtain ⟨q0, hb4⟩ := hW
  have y0 := q0.cell 0
  have y1 := q0.cell 1
  have y2 := q0.cell 2
  by_cases t1 : S.length ≤ 64
  case neg =>
    have t1' : (S.length : Int) > 64 := by omega
    have HE := Lib.hid (HV.out.trans (ok_size t1))
    go_wp2_with fail
    go_ret
    exact ⟨by rw [HE.out]; rfl, hb4⟩
  have t1' : ¬ ((S.length : Int) > 64) := by omega
  by_cases t2 : M.length = 4 * S.length
  case neg =>
    have t2' : ¬ ((M.length : Int) = 4 * (S.length : Int)) := by omega
    have HE := Lib.hid (HV.out.trans (ok_mate t2))
    generalize M.length = m at *
    go_wp2_with fail
    go_ret
    exact ⟨by rw [HE.out]; rfl, hb4⟩
  have t2' : (M.length : Int) = 4 * (S.length : Int) := by omega
  by_cases t3 : 0 ≤ L
  case neg =>
    have t3' : L < 0 := by omega
    have HE := Lib.hid (HV.out.trans (ok_low t3))
    go_wp2_with fail
    go_ret
    exact ⟨by rw [HE.out]; rfl, hb4⟩
  have t3' : ¬ (L < 0) := by omega
  by_cases t4 : L ≤ 64
  case neg =>
    have t4' : L > 64 := by omega
    have HE := Lib.hid (HV.out.trans (ok_high t4))
    go_wp2_with fail
    go_ret
    exact ⟨by rw [HE.out]; rfl, hb4⟩
  have t4' : ¬ (L > 64) := by omega
  go_wp2_with fail
  have T2 := Lib.hid t2
  have hml : M.length ≤ 256 := by omega
  have hgE : (M.length : Int) = 4 * (S.length : Int) := t2'
  clear t2 t2' y0 y1 y2 t1' hgE
  go_loopg [5, 34] S.length (fun gk s5 s34 wr => ∃ k : Nat, k ≤ S.length ∧ gk = S.length - k ∧ s34 = .int .i64 (k : Int) ∧ Arr wr w.heap.size 61 [.slice A S.length c, .slice A2 M.length c2, .int .i64 L] ∧ Below w.heap.size w wr ∧ Hid (∀ i (h : i < S.length), i < k → S[i] = 1 ∨ S[i] = -1))
  case atStart => exact ⟨0, Nat.zero_le _, rfl, rfl, q0, hb4, Lib.hid fun i h h1 => by omega⟩
  case round =>
    clear q0 hb4
    obtain ⟨k, hk, rfl, rfl, q0, hb4, HS⟩ := hrel
    have y0 := q0.cell 0
    by_cases hlt : k < S.length
    · have z1 : (k : Int) < (S.length : Int) := by omega
      obtain ⟨b, o, rfl, hbl, hcell⟩ := (hS0.below hb4).at_ hlt
      by_cases x1 : S[k] = 1
      · have HS2 : Hid (∀ i (h : i < S.length), i < k + 1 → S[i] = 1 ∨ S[i] = -1) := Lib.hid fun i h h1 => by
          rcases Nat.lt_or_ge i k with q | q
          · exact HS.out i h q
          · have : i = k := by omega
            subst this; exact Or.inl x1
        rw [x1] at hcell
        clear x1 HS
        go_wp2_with fail
        go_roundg (S.length - (k + 1))
        case measure => omega
        case rel => exact ⟨k + 1, by omega, rfl, by go_num, q0, hb4, HS2⟩
      · by_cases x2 : S[k] = -1
        · have HS2 : Hid (∀ i (h : i < S.length), i < k + 1 → S[i] = 1 ∨ S[i] = -1) := Lib.hid fun i h h1 => by
            rcases Nat.lt_or_ge i k with q | q
            · exact HS.out i h q
            · have : i = k := by omega
              subst this; exact Or.inr x2
          rw [x2] at hcell
          clear x1 x2 HS
          go_wp2_with fail
          go_roundg (S.length - (k + 1))
          case measure => omega
          case rel => exact ⟨k + 1, by omega, rfl, by go_num, q0, hb4, HS2⟩
        · have HE := Lib.hid (HV.out.trans (ok_sign hlt x1 x2))
          clear HS
          generalize S[k] = x at *
          have d1 : (x != 1) = true := by simp [x1]
          have d2 : (x != -1) = true := by simp [x2]
          go_wp2_with fail
          go_ret
          exact ⟨by rw [HE.out]; rfl, hb4⟩
    · have z1 : ¬ ((k : Int) < (S.length : Int)) := by omega
      have HS2 : Hid (∀ i (h : i < S.length), S[i] = 1 ∨ S[i] = -1) := Lib.hid fun i h => HS.out i h (by omega)
      clear HS y0
      have y1 := q0.cell 1
      go_wp2_with fail
      clear y1
      obtain ⟨wo, rfl⟩ : ∃ wo : World, wo = wr := ⟨_, rfl⟩
      go_loopg [6, 7, 48] M.length (fun gk s6 s7 s48 wi => ∃ h : Nat, h ≤ M.length ∧ gk = M.length - h ∧ s48 = .int .i64 (h : Int) ∧ Arr wi w.heap.size 61 [.slice A S.length c, .slice A2 M.length c2, .int .i64 L] ∧ Below w.heap.size w wi ∧ Hid (∀ i, i < h → mtB S M i = true))
      case atStart => exact ⟨0, Nat.zero_le _, rfl, rfl, q0, hb4, Lib.hid fun i h1 => by omega⟩
      case round =>
        clear q0 hb4 z1 hlt hk
        obtain ⟨h, hh, rfl, rfl, q0, hb4, HM⟩ := hrel
        have y0 := q0.cell 0
        have y1 := q0.cell 1
        have y2 := q0.cell 2
        by_cases hlt : h < M.length
        · have z1 : (h : Int) < 4 * (S.length : Int) := by have := T2.out; omega
          have z2 : (h : Int) < (M.length : Int) := by omega
          obtain ⟨b, o, rfl, hbl, hcell⟩ := (hM0.below hb4).at_ hlt
          have hgd := getD_lt hlt
          by_cases x1 : M[h] < 0
          · have HE := Lib.hid (HV.out.trans (ok_at (L := L) hlt (show mtB S M h = false by simp [mtB, hgd]; omega)))
            clear hgd
            generalize M[h] = x at *
            go_wp2_with fail
            go_ret
            exact ⟨by rw [HE.out]; rfl, hb4⟩
          obtain ⟨m, hm⟩ : ∃ m : Nat, M[h] = (m : Int) := ⟨M[h].toNat, by omega⟩
          have hmt : mt M h = m := by unfold mt; rw [hgd, hm]; omega
          rw [hm] at hcell
          have x1' : ¬ ((m : Int) < 0) := by omega
          by_cases x2 : m < M.length
          case neg =>
            have HE := Lib.hid (HV.out.trans (ok_at (L := L) hlt (show mtB S M h = false by have := T2.out; simp [mtB, hgd, hm]; omega)))
            have x2' : (m : Int) ≥ 4 * (S.length : Int) := by have := T2.out; omega
            clear hgd hm hmt x1 x2
            go_wp2_with fail
            go_ret
            exact ⟨by rw [HE.out]; rfl, hb4⟩
          have x2' : ¬ ((m : Int) ≥ 4 * (S.length : Int)) := by have := T2.out; omega
          have x2d : decide (4 * (S.length : Int) ≤ (m : Int)) = false := by have := T2.out; simp only [decide_eq_false_iff_not]; omega
          by_cases x3 : m = h
          · have HE := Lib.hid (HV.out.trans (ok_at (L := L) hlt (show mtB S M h = false by simp [mtB, hgd, hm, x3])))
            subst x3
            clear hgd hm hmt x1 x2
            go_wp2_with fail
            go_ret
            exact ⟨by rw [HE.out]; rfl, hb4⟩
          have x3' : ((m : Int) == (h : Int)) = false := by simp; omega
          have hgm := getD_lt x2
          obtain ⟨b', o', hA, hbl', hcell2⟩ := (hM0.below hb4).at_ x2
          injection hA with hA
          injection hA with hA1 hA2
          subst hA1 hA2
          have z3 : (m : Int) < (M.length : Int) := by omega
          by_cases x4 : M[m] = (h : Int)
          case neg =>
            have HE := Lib.hid (HV.out.trans (ok_at (L := L) hlt (show mtB S M h = false by simp [mtB, hgd, hm, hmt, hgm, x4])))
            clear hgd hm hmt hgm x1
            generalize M[m] = y at *
            have x4' : (y != (h : Int)) = true := by simp [x4]
            go_wp2_with fail
            go_ret
            exact ⟨by rw [HE.out]; rfl, hb4⟩
          rw [x4] at hcell2
          have lw := q0.lt
          obtain ⟨A3, hA3⟩ : ∃ A3, A3 = some (⟨b, o, none⟩ : Addr) := ⟨_, rfl⟩
          have HMB := Lib.hid (show mtB S M h = (outB S h != outB S m) by
            have t2 := T2.out
            unfold mtB
            rw [hgd, hm, hmt, hgm, x4]
            have e1 : decide ((0 : Int) ≤ (m : Int)) = true := by simp
            have e2 : decide ((m : Int) < ((4 * S.length : Nat) : Int)) = true := by simp only [decide_eq_true_eq]; omega
            have e3 : decide ((m : Int) ≠ (h : Int)) = true := by simp only [decide_eq_true_eq]; omega
            have e4 : decide ((h : Int) = (h : Int)) = true := by simp
            rw [e1, e2, e3, e4]; rfl)
          have HAT := Lib.hid (fun e => ok_at (L := L) hlt (HMB.out.trans e))
          have x4' : ((h : Int) != (h : Int)) = false := by simp
          clear hgd hm hmt hgm x1 x4
          go_upto_region 15 with fail
          have KS := Lib.hid (fun W (hb : Below wr.heap.size wr W) => (⟨(hb.cell lw).trans y0, (hb.cell lw).trans y1, (hb.cell lw).trans y2, hb⟩ : W.cell? ⟨w.heap.size, 0, none⟩ = some (.slice A S.length c) ∧ W.cell? ⟨w.heap.size, 1, none⟩ = some (.slice (some ⟨b, o, none⟩) M.length c2) ∧ W.cell? ⟨w.heap.size, 2, none⟩ = some (.int .i64 L) ∧ Below wr.heap.size wr W))
          have HJ := Lib.hid (fun W W' (hS : W.cell? ⟨w.heap.size, 0, none⟩ = some (.slice A S.length c) ∧ W.cell? ⟨w.heap.size, 1, none⟩ = some (.slice (some ⟨b, o, none⟩) M.length c2) ∧ W.cell? ⟨w.heap.size, 2, none⟩ = some (.int .i64 L) ∧ Below wr.heap.size wr W) (hb : Below W.heap.size W W') => Below.trans hS.2.2.2 (hb.mono hS.2.2.2.size))
          have HO1 := Lib.hid (fun W (hS : W.cell? ⟨w.heap.size, 0, none⟩ = some (.slice A S.length c) ∧ W.cell? ⟨w.heap.size, 1, none⟩ = some (.slice (some ⟨b, o, none⟩) M.length c2) ∧ W.cell? ⟨w.heap.size, 2, none⟩ = some (.int .i64 L) ∧ Below wr.heap.size wr W) => out_code (.slice A S.length c) (.slice (some ⟨b, o, none⟩) M.length c2) L S h W (hS0.below (hb4.trans (Below.mono hS.2.2.2 hb4.size))) (by have := T2.out; omega) (by omega))
          have HO2 := Lib.hid (fun W (hS : W.cell? ⟨w.heap.size, 0, none⟩ = some (.slice A S.length c) ∧ W.cell? ⟨w.heap.size, 1, none⟩ = some (.slice (some ⟨b, o, none⟩) M.length c2) ∧ W.cell? ⟨w.heap.size, 2, none⟩ = some (.int .i64 L) ∧ Below wr.heap.size wr W) => out_code (.slice A S.length c) (.slice (some ⟨b, o, none⟩) M.length c2) L S m W (hS0.below (hb4.trans (Below.mono hS.2.2.2 hb4.size))) (by have := T2.out; omega) (by omega))
          generalize outB S h = b1 at *
          generalize outB S m = b2 at *
          clear hA3
          go_cut [81] (fun s81 wx => s81 = .bool (b1 == b2) ∧ Below wr.heap.size wr wx)
          case first =>
            go_region_held3 (fun w' => w'.cell? ⟨w.heap.size, 0, none⟩ = some (.slice A S.length c) ∧ w'.cell? ⟨w.heap.size, 1, none⟩ = some (.slice (some ⟨b, o, none⟩) M.length c2) ∧ w'.cell? ⟨w.heap.size, 2, none⟩ = some (.int .i64 L) ∧ Below wr.heap.size wr w') ((refine KS.out _ ?_; repeat (first | exact Below.refl _ _ | exact hB1 | exact hB2 | refine Below.drew ?_)))
              (first
                | (go_at_call_of 74 (Value.int .i64 (h : Int)); refine (HO1.out _ (by assumption)).mono ?_; rintro e w11 ⟨rfl, hb11⟩; have hB1 := HJ.out _ _ (by assumption) hb11; clear hb11)
                | (go_at_call_of 74 (Value.int .i64 (m : Int)); refine (HO2.out _ (by assumption)).mono ?_; rintro e w12 ⟨rfl, hb12⟩; have hB2 := HJ.out _ _ (by assumption) hb12; clear hb12))
            all_goals
              go_wp2_with fail
              go_meet
              exact ⟨rfl, by assumption⟩
          case rest =>
            obtain ⟨rfl, hbc⟩ := hcut
            have hb5 : Below w.heap.size w wc := hb4.trans (hbc.mono hb4.size)
            have q5 := q0.below hbc lw
            clear HO1 HO2 KS HJ y0 y1 y2 hcell hcell2
            by_cases he : b1 = b2
            · have HE := Lib.hid (HV.out.trans (HAT.out (by simp [he])))
              have he' : (b1 == b2) = true := by simp [he]
              rw [he']
              clear he he' HMB HAT
              go_wp2_with fail
              go_ret
              exact ⟨by rw [HE.out]; rfl, hb5⟩
            · have HM2 : Hid (∀ i, i < h + 1 → mtB S M i = true) := Lib.hid fun i h1 => by
                rcases Nat.lt_or_ge i h with q | q
                · exact HM.out i q
                · have : i = h := by omega
                  subst this; rw [HMB.out]; simpa using he
              have he' : (b1 == b2) = false := by simpa using he
              rw [he']
              clear he he' HMB HAT
              go_wp2_with fail
              go_roundg (M.length - (h + 1))
              case measure => omega
              case rel => exact ⟨h + 1, by omega, rfl, by go_num, q5, hb5, HM2⟩
        · have z1 : ¬ ((h : Int) < (M.length : Int)) := by omega
          have hK := ok_make t1 T2.out t3 t4 HS2.out (fun i hi => HM.out i (by omega))
          have HV2 := Lib.hid (show V = sphR M S.length by rw [HV.out, valB, hK]; rfl)
          have KK := Lib.hid (ok_of hK)
          clear hK HM HS2 HV
          go_wp2_with (go_at_call 75; refine (spherical_code _ _ S M L _ (hS0.below hb4) (hM0.below hb4) KK.out).mono ?_; rintro e w5 ⟨rfl, hb5⟩)
          go_ret
          exact ⟨by rw [HV2.out]; rfl, hb4.trans (hb5.mono hb4.size)⟩
end Go.Proofs.YtlbihllmpbhhcaaDoor
