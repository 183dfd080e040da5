/- grid.Crossings. -/
import Derived.Test.YtgclngoeglopcaaCrp
namespace Go.Proofs.Ytgclngoeglopcaa
open Go.RowKit
set_option linter.unusedVariables false

theorem crB_lo {X O : List Int} {i j : Nat} (h : (j : Int) ≤ minG (gt X i) (gt O i)) : crB X O i j = false := by unfold crB; rw [decide_eq_false (show ¬ minG (gt X i) (gt O i) < (j : Int) by omega)]; rfl
theorem crB_hi {X O : List Int} {i j : Nat} (h : maxG (gt X i) (gt O i) ≤ (j : Int)) : crB X O i j = false := by unfold crB; rw [decide_eq_false (show ¬ (j : Int) < maxG (gt X i) (gt O i) by omega)]; simp
theorem crB_mid {X O : List Int} {i j : Nat} (h1 : minG (gt X i) (gt O i) < (j : Int)) (h2 : (j : Int) < maxG (gt X i) (gt O i)) : crB X O i j = (decide (minG (cl X j) (cl O j) < i) && decide ((i : Int) < maxG (cl X j) (cl O j))) := by
  unfold crB; rw [decide_eq_true h1, decide_eq_true h2]; simp

set_option maxRecDepth 100000 in
set_option maxHeartbeats 4000000 in
theorem crossings_any (vx vo : Value) (X O : List Int) (w : World) (hX : Ints w vx X) (hO : Ints w vo O) (hv : Vd X O) :
    Calls Try.prog 37 #[.agg #[vx, vo]] w fun e w' => ∃ v, e = .returned v ∧ Pairs w' v (crL X O X.length) ∧ Below w.heap.size w w' := by
  have h40 := hv.most
  have h2 := hv.two
  have HL := Lib.hid hv.len
  have lO : O.length ≤ 40 := by have := HL.out; omega
  have HV := Lib.hid hv
  clear hv
  have hX0 := hX
  have hO0 := hO
  obtain ⟨A, c, rfl, hc, hh⟩ := hX
  obtain ⟨A', c', rfl, hc', hh'⟩ := hO
  clear hh hh'
  go_enter Try.func37, Try.ntmps37
  go_wp2_with fail
  have hW : Arr (w.alloc (.cells #[.slice A X.length c, .slice A' O.length c'] 24)) w.heap.size 24 [.slice A X.length c, .slice A' O.length c'] ∧ Below w.heap.size w (w.alloc (.cells #[.slice A X.length c, .slice A' O.length c'] 24)) := ⟨Arr.new _ _ [_, _], (Below.refl _ _).alloc (Nat.le_refl _) _⟩
  generalize (w.alloc (.cells #[.slice A X.length c, .slice A' O.length c'] 24)) = w4 at hW ⊢
  obtain ⟨q0, hb4⟩ := hW
  refine (valid_any _ _ X O _ (hX0.below hb4) (hO0.below hb4) (by omega) (by omega)).mono ?_
  rw [(validB_iff X O).2 HV.out]
  rintro e w5 ⟨rfl, hb5⟩
  have hbw5 := hb4.trans (hb5.mono hb4.size)
  have p0 := q0.below hb5 q0.lt
  clear q0 hb5 hb4
  have y0 := p0.cell 0
  have y1 := p0.cell 1
  have KS := Lib.hid (fun (W : World) (hb : Below w5.heap.size w5 W) => (⟨(hb.cell p0.lt).trans y0, (hb.cell p0.lt).trans y1, hb⟩ : W.cell? ⟨w.heap.size, 0, none⟩ = some (.slice A X.length c) ∧ W.cell? ⟨w.heap.size, 1, none⟩ = some (.slice A' O.length c') ∧ Below w5.heap.size w5 W))
  have HJ := Lib.hid (fun (W W' : World) (hS : W.cell? ⟨w.heap.size, 0, none⟩ = some (.slice A X.length c) ∧ W.cell? ⟨w.heap.size, 1, none⟩ = some (.slice A' O.length c') ∧ Below w5.heap.size w5 W) (hb : Below W.heap.size W W') => Below.trans hS.2.2 (hb.mono hS.2.2.size))
  have HC1 := Lib.hid (fun (W : World) (hS : W.cell? ⟨w.heap.size, 0, none⟩ = some (.slice A X.length c) ∧ W.cell? ⟨w.heap.size, 1, none⟩ = some (.slice A' O.length c') ∧ Below w5.heap.size w5 W) => gcolumns_any (.slice A X.length c) X W (hX0.below (hbw5.trans (Below.mono hS.2.2 hbw5.size))) HV.out.pX (by omega))
  have HC2 := Lib.hid (fun (W : World) (hS : W.cell? ⟨w.heap.size, 0, none⟩ = some (.slice A X.length c) ∧ W.cell? ⟨w.heap.size, 1, none⟩ = some (.slice A' O.length c') ∧ Below w5.heap.size w5 W) => gcolumns_any (.slice A' O.length c') O W (hO0.below (hbw5.trans (Below.mono hS.2.2 hbw5.size))) HV.out.pO (by omega))
  go_upto_region 3 with fail
  go_cut [3, 4] (fun s3 s4 wx => ∃ g1 h1 g2 h2, s3 = .func (.func 54) #[] #[.pointer (some ⟨g1, 0, none⟩)] ∧ s4 = .func (.func 54) #[] #[.pointer (some ⟨g2, 0, none⟩)] ∧ Arr wx w.heap.size 24 [.slice A X.length c, .slice A' O.length c'] ∧ Arr wx g1 22 [.slice (some ⟨h1, 0, none⟩) X.length X.length] ∧ Arr wx h1 3 (ints (tr X)) ∧ Arr wx g2 22 [.slice (some ⟨h2, 0, none⟩) O.length O.length] ∧ Arr wx h2 3 (ints (tr O)) ∧ Below w.heap.size w wx)
  case first =>
    go_region_held3 (fun w' => w'.cell? ⟨w.heap.size, 0, none⟩ = some (.slice A X.length c) ∧ w'.cell? ⟨w.heap.size, 1, none⟩ = some (.slice A' O.length c') ∧ Below w5.heap.size w5 w') ((refine KS.out _ ?_; repeat (first | exact Below.refl _ _ | exact hB1 | exact hB2 | refine Below.drew ?_)))
      (first
        | (go_at_call_of 34 (Value.slice A X.length c); refine (HC1.out _ (by assumption)).mono ?_; rintro e w6 ⟨v6, rfl, ⟨g1, h1, rfl, a1, a2⟩, hb6⟩; have hB1 := HJ.out _ _ (by assumption) hb6; clear hb6)
        | (go_at_call_of 34 (Value.slice A' O.length c'); refine (HC2.out _ (by assumption)).mono ?_; rintro e w7 ⟨v7, rfl, ⟨g2, hq, rfl, b1, b2⟩, hb7⟩; have hB2 := HJ.out _ _ (by assumption) hb7; have a1' := a1.below hb7 a1.lt; have a2' := a2.below hb7 a2.lt; clear hb7))
    go_wp2_with fail
    go_meet
    exact ⟨g1, h1, g2, hq, rfl, rfl, p0.below hB2 p0.lt, a1', a2', b1, b2, hbw5.trans (hB2.mono hbw5.size)⟩
  case rest =>
    clear KS HJ HC1 HC2 y0 y1 p0 hbw5
    obtain ⟨g1, h1, g2, hq, rfl, rfl, b0, a1, a2, b1, b2, hbw⟩ := hcut
    obtain ⟨B, hB⟩ : ∃ B, B = wc.heap.size := ⟨_, rfl⟩
    have hB' : B ≤ wc.heap.size := by omega
    have lb0 : w.heap.size < B := by have := b0.lt; omega
    have la1 : g1 < B := by have := a1.lt; omega
    have la2 : h1 < B := by have := a2.lt; omega
    have lb1 : g2 < B := by have := b1.lt; omega
    have lb2 : hq < B := by have := b2.lt; omega
    clear hB
    have y0 := b0.cell 0
    have y1 := b0.cell 1
    go_wp2_with fail
    clear y0 y1
    go_loopg [5, 22] X.length (fun gk s5 s22 wr => ∃ k : Nat, k ≤ X.length ∧ gk = X.length - k ∧ s22 = .int .i64 (k : Int) ∧ OwnP B wr s5 (crL X O k) ∧ Arr wr w.heap.size 24 [.slice A X.length c, .slice A' O.length c'] ∧ Arr wr g1 22 [.slice (some ⟨h1, 0, none⟩) X.length X.length] ∧ Arr wr h1 3 (ints (tr X)) ∧ Arr wr g2 22 [.slice (some ⟨hq, 0, none⟩) O.length O.length] ∧ Arr wr hq 3 (ints (tr O)) ∧ Below w.heap.size w wr ∧ B ≤ wr.heap.size)
    case atStart => exact ⟨0, Nat.zero_le _, rfl, rfl, OwnP.nil _ _, b0, a1, a2, b1, b2, hbw, hB'⟩
    case round =>
      clear b0 a1 a2 b1 b2 hbw hB'
      obtain ⟨k, hk, rfl, rfl, hown, b0, a1, a2, b1, b2, hbr, hB'⟩ := hrel
      by_cases hlt : k < X.length
      · have hltO : k < O.length := by have := HL.out; omega
        obtain ⟨bx, ox, rfl, hbx, cx⟩ := hX0.at_ hlt
        obtain ⟨bo, oo, rfl, hbo, co⟩ := hO0.at_ hltO
        rw [← gt_get hlt] at cx
        rw [← gt_get hltO] at co
        have gx := HV.out.pX.gt_rng hlt
        have go := HV.out.oX hlt
        have hneq : gt X k ≠ gt O k := fun e => HV.out.ne k hlt hltO (by rw [gt_get hlt, gt_get hltO] at e; exact e)
        have HLO := Lib.hid (fun (j : Nat) (h : (j : Int) ≤ minG (gt X k) (gt O k)) => crB_lo h)
        have HHI := Lib.hid (fun (j : Nat) (h : maxG (gt X k) (gt O k) ≤ (j : Int)) => crB_hi h)
        have HMI := Lib.hid (fun (j : Nat) (h1 : minG (gt X k) (gt O k) < (j : Int)) (h2 : (j : Int) < maxG (gt X k) (gt O k)) => crB_mid h1 h2)
        have bmx : minG (gt X k) (gt O k) + 1 ≤ maxG (gt X k) (gt O k) ∧ 0 ≤ minG (gt X k) (gt O k) ∧ maxG (gt X k) (gt O k) < X.length := by unfold minG maxG; split <;> split <;> omega
        have EMN := Lib.hid (show (if gt O k < gt X k then gt O k else gt X k) = minG (gt X k) (gt O k) from rfl)
        have EMX := Lib.hid (show (if gt X k < gt O k then gt O k else gt X k) = maxG (gt X k) (gt O k) from rfl)
        have z1 := (hbr.cell (p := ⟨bx, ox + k, none⟩) hbx).trans cx
        have z2 := (hbr.cell (p := ⟨bo, oo + k, none⟩) hbo).trans co
        have y0 := b0.cell 0
        have y1 := b0.cell 1
        have u1 : (k : Int) < (X.length : Int) := by omega
        have u2 : (k : Int) < (O.length : Int) := by omega
        generalize gt X k = x at *
        generalize gt O k = o at *
        go_upto_region 8 with fail
        have w1 : IntKind.i64.wrap ((if o < x then o else x) + 1) = (if o < x then o else x) + 1 := IntWalk.i64_in _ (by split <;> omega)
        go_quiet (fail)
        rw [EMN.out] at w1 ⊢
        clear w1 EMN
        generalize minG x o = mn at *
        generalize hmx : maxG x o = mx at *
        have EMX' := Lib.hid EMX.out
        clear EMX hmx
        obtain ⟨mn, rfl⟩ := Int.eq_ofNat_of_zero_le bmx.2.1
        obtain ⟨mx, rfl⟩ := Int.eq_ofNat_of_zero_le (show 0 ≤ mx by omega)
        have c0 : crL X O k ++ cI X O k (mn + 1) = crL X O k := by rw [cI_skip X O k (Nat.zero_le (mn + 1)) (fun j _ hj => HLO.out j (by omega))]; simp [cI]
        have C0 := Lib.hid c0
        clear c0
        have hownD := hown.below (bdrewN (Below.refl wr.heap.size wr) nq)
        have b0D := b0.drewN nq
        have a1D := a1.drewN nq
        have a2D := a2.drewN nq
        have b1D := b1.drewN nq
        have b2D := b2.drewN nq
        have hbrD := bdrewN hbr nq
        have hBD : B ≤ (wr.drewN nq).heap.size := hB'
        clear hown b0 a1 a2 b1 b2 hbr hB' z1 z2 y0 y1
        generalize wr.drewN nq = wo at *
        go_wp2_with fail
        go_loopg [5, 7] (mx - (mn + 1)) (fun gj s5 s7 wi => ∃ J : Nat, mn + 1 ≤ J ∧ J ≤ mx ∧ gj = mx - J ∧ s7 = .int .i64 (J : Int) ∧ OwnP B wi s5 (crL X O k ++ cI X O k J) ∧ Arr wi w.heap.size 24 [.slice (some ⟨bx, ox, none⟩) X.length c, .slice (some ⟨bo, oo, none⟩) O.length c'] ∧ Arr wi g1 22 [.slice (some ⟨h1, 0, none⟩) X.length X.length] ∧ Arr wi h1 3 (ints (tr X)) ∧ Arr wi g2 22 [.slice (some ⟨hq, 0, none⟩) O.length O.length] ∧ Arr wi hq 3 (ints (tr O)) ∧ Below w.heap.size w wi ∧ B ≤ wi.heap.size)
        case atStart => exact ⟨mn + 1, by omega, by omega, rfl, by go_num, by rw [C0.out]; exact hownD, b0D, a1D, a2D, b1D, b2D, hbrD, hBD⟩
        case round =>
          clear hownD b0D a1D a2D b1D b2D hbrD hBD
          obtain ⟨J, hJ1, hJ2, rfl, rfl, hown, b0, a1, a2, b1, b2, hbr, hB'⟩ := hrel
          have z1 := (hbr.cell (p := ⟨bx, ox + k, none⟩) hbx).trans cx
          have z2 := (hbr.cell (p := ⟨bo, oo + k, none⟩) hbo).trans co
          have y0 := b0.cell 0
          have y1 := b0.cell 1
          have hmc : (x < o ∧ o = (mx : Int)) ∨ (o < x ∧ x = (mx : Int)) := by
            have := EMX'.out
            by_cases hxo : x < o
            · rw [if_pos hxo] at this; exact .inl ⟨hxo, this⟩
            · rw [if_neg hxo] at this; exact .inr ⟨by omega, this⟩
          clear EMX'
          by_cases hlt2 : J < mx
          · rcases hmc with ⟨hxo, hmx⟩ | ⟨hxo, hmx⟩
            all_goals
              subst hmx
              go_wp2_with fail
              go_quiet (fail)
              have hownD := hown.below (bdrewN (Below.refl wr.heap.size wr) nq)
              have b0D := b0.drewN nq
              have a1D := a1.drewN nq
              have a2D := a2.drewN nq
              have b1D := b1.drewN nq
              have b2D := b2.drewN nq
              have hbrD := bdrewN hbr nq
              have hBD : B ≤ (wr.drewN nq).heap.size := hB'
              clear hown b0 a1 a2 b1 b2 hbr hB' z1 z2 y0 y1
              generalize wr.drewN nq = w9 at *
              go_wp2_with fail
              refine (gcolumns1_any g1 h1 X J _ HV.out.pX (by omega) a1D a2D).mono ?_
              rw [cl_gt HV.out.pX (by omega)]
              rintro e w9' ⟨rfl, rfl⟩
              go_wp2_with fail
              refine (gcolumns1_any g2 hq O J _ HV.out.pO (by have := HL.out; omega) b1D b2D).mono ?_
              rw [cl_gt HV.out.pO (by have := HL.out; omega)]
              rintro e w9' ⟨rfl, rfl⟩
              have hcm := HMI.out J (by omega) (by omega)
              have hlen : (crL X O k ++ cI X O k J).length ≤ 100000 := by
                have e1 := crL_len X O k
                have e2 := cI_len X O k J
                have e3 : k * X.length ≤ 40 * 40 := Nat.mul_le_mul (by omega) (by omega)
                rw [List.length_append]; omega
              have cbx := (cl_spec HV.out.pX (show J < X.length by omega)).1
              have cbo := (cl_spec HV.out.pO (show J < O.length by have := HL.out; omega)).1
              have HCM := Lib.hid hcm
              clear hcm
              generalize hp : ((cl X J : Nat) : Int) = p at *
              generalize hq' : ((cl O J : Nat) : Int) = q at *
              clear hp hq' cbx cbo
              have hown := hownD
              have b0 := b0D
              have a1 := a1D
              have a2 := a2D
              have b1 := b1D
              have b2 := b2D
              have hbr := hbrD
              have hB' := hBD
              clear hownD b0D a1D a2D b1D b2D hbrD hBD
              generalize hLL : crL X O k ++ cI X O k J = LL at *
              have HLL := Lib.hid hLL
              clear hLL
              obtain ⟨Av, cv, rfl⟩ := hown.form
              rcases Int.lt_trichotomy p q with hpq | hpq | hpq
              · skip
                have e1 : minG p q = p := by unfold minG; split <;> omega
                have e2 : maxG p q = q := by unfold maxG; split <;> omega
                rw [e1, e2] at HCM
                clear e1 e2
                by_cases t3 : p < (k : Int)
                · have t3' : decide (p < (k : Int)) = true := by simpa using t3
                  by_cases t4 : (k : Int) < q
                  · have t4' : decide ((k : Int) < q) = true := by simpa using t4
                    have hcb : crB X O k J = true := by rw [HCM.out, t3', t4']; rfl
                    clear HCM
                    have HE := Lib.hid (show crL X O k ++ cI X O k (J + 1) = LL ++ [(k, J)] by rw [cI_succ, if_pos hcb, ← List.append_assoc, HLL.out])
                    clear hcb
                    have hnew : Arr (w9.alloc (.cells #[.int .i64 (k : Int), .int .i64 (J : Int)] 63)) w9.heap.size 63 (pc (k, J)) := Arr.new w9 63 (pc (k, J))
                    have HNEW := Lib.hid hnew
                    clear hnew
                    go_wp2_with ((at_builtin; refine wpList_appP rfl _ _ rfl rfl (hown.alloc _) (m := (k, J)) rfl HNEW.out hlen (Nat.le_trans hB' (by simp)) ?_; intro v' w10 hown' hg'))
                    have hob : ∀ k', (Value.slice Av LL.length cv).ownBlock = some k' → B ≤ k' := fun k' hk' => (hown.lt k' hk').1
                    have hne : ∀ b, b < B → (Value.slice Av LL.length cv).ownBlock ≠ some b := fun b hb e => by have := hob b e; omega
                    have bl := hbr.alloc hbr.size (.cells #[.int .i64 (k : Int), .int .i64 (J : Int)] 63)
                    go_roundg (mx - (J + 1))
                    case measure => omega
                    case rel => exact ⟨J + 1, by omega, by omega, rfl, by go_num, by rw [HE.out]; exact hown', (b0.alloc _).gro hg' (hne _ lb0), (a1.alloc _).gro hg' (hne _ la1), (a2.alloc _).gro hg' (hne _ la2), (b1.alloc _).gro hg' (hne _ lb1), (b2.alloc _).gro hg' (hne _ lb2), bl.trans (hg'.bel.mono (by omega)), Nat.le_trans (Nat.le_trans hB' (by simp)) hg'.size⟩
                  · have t4' : decide ((k : Int) < q) = false := by simpa using t4
                    have hcb : crB X O k J = false := by rw [HCM.out, t4']; simp
                    clear HCM
                    have HE := Lib.hid (show crL X O k ++ cI X O k (J + 1) = LL by rw [cI_succ, if_neg (by rw [hcb]; simp), List.append_nil, HLL.out])
                    clear hcb
                    go_wp2_with fail
                    go_roundg (mx - (J + 1))
                    case measure => omega
                    case rel => exact ⟨J + 1, by omega, by omega, rfl, by go_num, by rw [HE.out]; exact hown, b0, a1, a2, b1, b2, hbr, hB'⟩
                · have t3' : decide (p < (k : Int)) = false := by simpa using t3
                  have hcb : crB X O k J = false := by rw [HCM.out, t3']; rfl
                  clear HCM
                  have HE := Lib.hid (show crL X O k ++ cI X O k (J + 1) = LL by rw [cI_succ, if_neg (by rw [hcb]; simp), List.append_nil, HLL.out])
                  clear hcb
                  go_wp2_with fail
                  go_roundg (mx - (J + 1))
                  case measure => omega
                  case rel => exact ⟨J + 1, by omega, by omega, rfl, by go_num, by rw [HE.out]; exact hown, b0, a1, a2, b1, b2, hbr, hB'⟩
              · subst hpq
                have e1 : minG p p = p := by unfold minG; split <;> omega
                have e2 : maxG p p = p := by unfold maxG; split <;> omega
                rw [e1, e2] at HCM
                clear e1 e2
                by_cases t3 : p < (k : Int)
                · have t3' : decide (p < (k : Int)) = true := by simpa using t3
                  by_cases t4 : (k : Int) < p
                  · exact absurd t4 (by omega)
                  · have t4' : decide ((k : Int) < p) = false := by simpa using t4
                    have hcb : crB X O k J = false := by rw [HCM.out, t4']; simp
                    clear HCM
                    have HE := Lib.hid (show crL X O k ++ cI X O k (J + 1) = LL by rw [cI_succ, if_neg (by rw [hcb]; simp), List.append_nil, HLL.out])
                    clear hcb
                    go_wp2_with fail
                    go_roundg (mx - (J + 1))
                    case measure => omega
                    case rel => exact ⟨J + 1, by omega, by omega, rfl, by go_num, by rw [HE.out]; exact hown, b0, a1, a2, b1, b2, hbr, hB'⟩
                · have t3' : decide (p < (k : Int)) = false := by simpa using t3
                  have hcb : crB X O k J = false := by rw [HCM.out, t3']; rfl
                  clear HCM
                  have HE := Lib.hid (show crL X O k ++ cI X O k (J + 1) = LL by rw [cI_succ, if_neg (by rw [hcb]; simp), List.append_nil, HLL.out])
                  clear hcb
                  go_wp2_with fail
                  go_roundg (mx - (J + 1))
                  case measure => omega
                  case rel => exact ⟨J + 1, by omega, by omega, rfl, by go_num, by rw [HE.out]; exact hown, b0, a1, a2, b1, b2, hbr, hB'⟩
              · skip
                have e1 : minG p q = q := by unfold minG; split <;> omega
                have e2 : maxG p q = p := by unfold maxG; split <;> omega
                rw [e1, e2] at HCM
                clear e1 e2
                by_cases t3 : q < (k : Int)
                · have t3' : decide (q < (k : Int)) = true := by simpa using t3
                  by_cases t4 : (k : Int) < p
                  · have t4' : decide ((k : Int) < p) = true := by simpa using t4
                    have hcb : crB X O k J = true := by rw [HCM.out, t3', t4']; rfl
                    clear HCM
                    have HE := Lib.hid (show crL X O k ++ cI X O k (J + 1) = LL ++ [(k, J)] by rw [cI_succ, if_pos hcb, ← List.append_assoc, HLL.out])
                    clear hcb
                    have hnew : Arr (w9.alloc (.cells #[.int .i64 (k : Int), .int .i64 (J : Int)] 63)) w9.heap.size 63 (pc (k, J)) := Arr.new w9 63 (pc (k, J))
                    have HNEW := Lib.hid hnew
                    clear hnew
                    go_wp2_with ((at_builtin; refine wpList_appP rfl _ _ rfl rfl (hown.alloc _) (m := (k, J)) rfl HNEW.out hlen (Nat.le_trans hB' (by simp)) ?_; intro v' w10 hown' hg'))
                    have hob : ∀ k', (Value.slice Av LL.length cv).ownBlock = some k' → B ≤ k' := fun k' hk' => (hown.lt k' hk').1
                    have hne : ∀ b, b < B → (Value.slice Av LL.length cv).ownBlock ≠ some b := fun b hb e => by have := hob b e; omega
                    have bl := hbr.alloc hbr.size (.cells #[.int .i64 (k : Int), .int .i64 (J : Int)] 63)
                    go_roundg (mx - (J + 1))
                    case measure => omega
                    case rel => exact ⟨J + 1, by omega, by omega, rfl, by go_num, by rw [HE.out]; exact hown', (b0.alloc _).gro hg' (hne _ lb0), (a1.alloc _).gro hg' (hne _ la1), (a2.alloc _).gro hg' (hne _ la2), (b1.alloc _).gro hg' (hne _ lb1), (b2.alloc _).gro hg' (hne _ lb2), bl.trans (hg'.bel.mono (by omega)), Nat.le_trans (Nat.le_trans hB' (by simp)) hg'.size⟩
                  · have t4' : decide ((k : Int) < p) = false := by simpa using t4
                    have hcb : crB X O k J = false := by rw [HCM.out, t4']; simp
                    clear HCM
                    have HE := Lib.hid (show crL X O k ++ cI X O k (J + 1) = LL by rw [cI_succ, if_neg (by rw [hcb]; simp), List.append_nil, HLL.out])
                    clear hcb
                    go_wp2_with fail
                    go_roundg (mx - (J + 1))
                    case measure => omega
                    case rel => exact ⟨J + 1, by omega, by omega, rfl, by go_num, by rw [HE.out]; exact hown, b0, a1, a2, b1, b2, hbr, hB'⟩
                · have t3' : decide (q < (k : Int)) = false := by simpa using t3
                  have hcb : crB X O k J = false := by rw [HCM.out, t3']; rfl
                  clear HCM
                  have HE := Lib.hid (show crL X O k ++ cI X O k (J + 1) = LL by rw [cI_succ, if_neg (by rw [hcb]; simp), List.append_nil, HLL.out])
                  clear hcb
                  go_wp2_with fail
                  go_roundg (mx - (J + 1))
                  case measure => omega
                  case rel => exact ⟨J + 1, by omega, by omega, rfl, by go_num, by rw [HE.out]; exact hown, b0, a1, a2, b1, b2, hbr, hB'⟩
          · rcases hmc with ⟨hxo, hmx⟩ | ⟨hxo, hmx⟩
            all_goals
              subst hmx
              have hJ3 : J = mx := by omega
              have HE := Lib.hid (show crL X O k ++ cI X O k J = crL X O (k + 1) by rw [crL_succ, cI_skip X O k (show J ≤ X.length by omega) (fun j hj _ => HHI.out j (by omega))])
              have hge : ¬ (J : Int) < (mx : Int) := by omega
              clear hJ3
              go_wp2_with fail
              go_quiet (fail)
              go_wp2_with fail
              go_roundg (X.length - (k + 1))
              case measure => omega
              case rel => exact ⟨k + 1, by omega, rfl, by go_num, by rw [← HE.out]; exact hown.below (bdrewN (Below.refl _ _) _), b0.drewN _, a1.drewN _, a2.drewN _, b1.drewN _, b2.drewN _, bdrewN hbr _, hB'⟩
      · have hk2 : k = X.length := by omega
        have u1 : ¬ (k : Int) < (X.length : Int) := by omega
        have HK2 := Lib.hid hk2
        clear hk2
        go_wp2_with fail
        go_ret
        exact ⟨_, rfl, by have := hown.pairs; rw [HK2.out] at this; exact this, hbr⟩
end Go.Proofs.Ytgclngoeglopcaa
