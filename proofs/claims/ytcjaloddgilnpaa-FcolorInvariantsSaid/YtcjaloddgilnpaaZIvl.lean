/- FcolorInvariants returns true. -/
import Derived.Test.YtcjaloddgilnpaaZSmt
import Derived.Test.YtcjaloddgilnpaaZNco
namespace Go.Proofs.Ytcjaloddgilnpaa
open Go.RowKit
set_option linter.unusedVariables false

theorem equal_same (vx vy : Value) (xs : List Int) (w : World) (hx : Ints w vx xs) (hy : Ints w vy xs) (hl : xs.length ≤ 1000) :
    Calls Try.prog 23 #[vx, vy] w fun e w' => e = .returned (.bool true) ∧ ∃ q, w' = w.drewN q := by
  obtain ⟨A, c, rfl, hc, hcx⟩ := id hx
  obtain ⟨A2, c2, rfl, hc2, hcy⟩ := id hy
  rcases Nat.eq_zero_or_pos xs.length with h0 | h0
  · rw [h0]
    refine (Try.slices_Equal_int_empty A A2 c 0 c2 w (by omega)).mono ?_
    rintro e w' ⟨rfl, rfl⟩
    exact ⟨rfl, 0, rfl⟩
  · obtain ⟨b, o, rfl, _, _⟩ := hx.at_ h0
    obtain ⟨b2, o2, rfl, _, _⟩ := hy.at_ h0
    have key : ∀ (b o c : Nat), Ints w (.slice (some ⟨b, o, none⟩) xs.length c) xs → ∀ j, j < xs.length → w.cell? ⟨b, o + j, none⟩ = some (.int .i64 (xs.getD j 0)) := by
      intro b o c h j hj
      obtain ⟨b', o', e, _, hcell⟩ := h.at_ hj
      injection e with e
      injection e with e1 e2
      subst e1 e2
      rw [hcell, List.getD_eq_getElem?_getD, List.getElem?_eq_getElem hj]; rfl
    refine (Try.slices_Equal_int b o xs.length c b2 o2 xs.length c2 xs xs w (Nat.le_refl _) (Nat.le_refl _) (by omega) (by omega) (key b o c hx) (key b2 o2 c2 hy)).mono ?_
    rintro e w' ⟨rfl, q, rfl⟩
    exact ⟨by simp, q, rfl⟩
/-- the invariants of the reference, filled up with zeros -/
theorem inv_pad {S M : List Int} {L : Int} {x : Nat} (h1 : min S.length (colN M L) ≤ x) (h2 : x < colN M L) : (List.range (x + 1)).map (gn (invL S M L)) = (List.range x).map (gn (invL S M L)) ++ [0] := by
  rw [List.range_succ, List.map_append]
  congr 1
  show [gn (invL S M L) x] = [0]
  rw [gn_invL h2]
  have hcl := cols_le (S := S) (M := M) (L := L)
  rw [gn_out (by rw [facL_length]; omega)]
theorem inv_start {S M : List Int} {L : Int} : (List.range (min S.length (colN M L))).map (gn (facO (smD (colN M L) (rowsOf S M L)) (colN M L) (rowsOf S M L) (min S.length (colN M L)))) = (List.range (min S.length (colN M L))).map (gn (invL S M L)) := by
  refine List.map_congr_left (fun j hj => ?_)
  have hj' := List.mem_range.1 hj
  have hS : 0 < S.length := by omega
  have hcols := rowsOf_cols (S := S) (M := M) (L := L) hS
  rw [gn_invL (by omega)]
  unfold facL
  rw [hcols]
theorem inv_all (S M : List Int) (L : Int) : (List.range (colN M L)).map (gn (invL S M L)) = invL S M L := by
  apply gn_ext (by simp [invL_length])
  intro i hi
  have hi' : i < colN M L := by simpa using hi
  rw [gn_map_range, if_pos hi']
set_option maxHeartbeats 2000000 in
set_option maxRecDepth 100000 in
theorem invariants_law (vs vm : Value) (S M : List Int) (L : Int) (w : World) (hS : Ints w vs S) (hM : Ints w vm M) :
    Calls Try.prog 5 #[.agg #[vs, vm, .int .i64 L]] w fun e w' => e = .returned (.bool true) ∧ Below w.heap.size w w' := by
  obtain ⟨i0, hi0, hz0, hz1, hz2⟩ := info_parts info_int
  have hW : Arr (w.alloc (.cells #[vs, vm, .int .i64 L] 24)) w.heap.size 24 [vs, vm, .int .i64 L] ∧ Below w.heap.size w (w.alloc (.cells #[vs, vm, .int .i64 L] 24)) := ⟨Arr.new w _ _, (Below.refl _ _).alloc (Nat.le_refl _) _⟩
  have HAW := Lib.hid awake_any
  have HGR := Lib.hid (fun W (hb : Below w.heap.size w W) => great_any vs vm S M L W (hS.below hb) (hM.below hb))
  have HFA := Lib.hid (fun W (hb : Below w.heap.size w W) => fault_any vs vm S M L 1 W (hS.below hb) (hM.below hb))
  have HSS := Lib.hid (fun W (hb : Below w.heap.size w W) => hS.below hb)
  have HMM := Lib.hid (fun W (hb : Below w.heap.size w W) => hM.below hb)
  obtain ⟨A, c, rfl, hc, hx⟩ := hS
  obtain ⟨A2, c2, rfl, hc2, hx2⟩ := hM
  clear hx hx2
  go_enter Try.func5, Try.ntmps5
  go_upto_region 1 with fail
  generalize (w.alloc (.cells #[.slice A S.length c, .slice A2 M.length c2, .int .i64 L] 24)) = w4 at hW ⊢
  obtain ⟨q0, hb4⟩ := hW
  go_upto_region 3 with (go_at_call 10; refine (HAW.out _).mono ?_; rintro e w5 ⟨rfl, hb5⟩)
  have q5 := q0.below hb5 q0.lt
  have hb5' := hb4.trans (hb5.mono hb4.size)
  have y0 := q5.cell 0
  have y1 := q5.cell 1
  have y2 := q5.cell 2
  clear q0 hb4 hb5
  cases hgr : grB S M with
  | true =>
    rw [hgr] at HGR
    clear hgr
    go_wp2_with (go_at_call 15; refine (HGR.out _ hb5').mono ?_; rintro e w6 ⟨rfl, hb6⟩)
    go_ret
    exact ⟨rfl, hb5'.trans (hb6.mono hb5'.size)⟩
  | false =>
    rw [hgr] at HGR
    clear hgr
    go_upto_region 5 with (go_at_call 15; refine (HGR.out _ hb5').mono ?_; rintro e w6 ⟨rfl, hb6⟩)
    have q6 := q5.below hb6 q5.lt
    have hb6' := hb5'.trans (hb6.mono hb5'.size)
    clear y0 y1 y2 q5 hb5' hb6
    have y0 := q6.cell 0
    have y1 := q6.cell 1
    have y2 := q6.cell 2
    cases hv : valB S M L with
    | false =>
      have HC := Lib.hid (Inv_no _ _ S M L w6 (HSS.out w6 hb6') (HMM.out w6 hb6') hv)
      have HF := Lib.hid (show fltV S M L 1 = 1 by unfold fltV; rw [if_pos hv])
      rw [HF.out] at HFA
      clear HF hv
      go_upto_region 6 with (go_at_call 21; refine HC.out.mono ?_; rintro e w7 ⟨rfl, hb7⟩)
      have q7 := q6.below hb7 q6.lt
      have hb7' := hb6'.trans (hb7.mono hb6'.size)
      clear y0 y1 y2
      have y0 := q7.cell 0
      have y1 := q7.cell 1
      have y2 := q7.cell 2
      go_wp2_with (go_at_call 17; refine (HFA.out _ hb7').mono ?_; rintro e w8 ⟨rfl, hb8⟩)
      go_ret
      exact ⟨rfl, hb7'.trans (hb8.mono hb7'.size)⟩
    | true =>
      by_cases hf : 14 < S.length ∨ 4 < L
      · have HC := Lib.hid (Inv_full _ _ S M L w6 (HSS.out w6 hb6') (HMM.out w6 hb6') hv hf)
        have HF := Lib.hid (show fltV S M L 1 = 5 by unfold fltV; rw [hv, if_neg (by decide), if_neg (by decide), if_pos hf])
        rw [HF.out] at HFA
        clear HF hv hf
        go_upto_region 6 with (go_at_call 21; refine HC.out.mono ?_; rintro e w7 ⟨rfl, hb7⟩)
        have q7 := q6.below hb7 q6.lt
        have hb7' := hb6'.trans (hb7.mono hb6'.size)
        clear y0 y1 y2
        have y0 := q7.cell 0
        have y1 := q7.cell 1
        have y2 := q7.cell 2
        go_wp2_with (go_at_call 17; refine (HFA.out _ hb7').mono ?_; rintro e w8 ⟨rfl, hb8⟩)
        go_ret
        exact ⟨rfl, hb7'.trans (hb8.mono hb7'.size)⟩
      · have HC := Lib.hid (Inv_yes _ _ S M L w6 (HSS.out w6 hb6') (HMM.out w6 hb6') hv (by omega) (by omega))
        have HF := Lib.hid (show fltV S M L 1 = 0 by unfold fltV; rw [hv, if_neg (by decide), if_neg (by decide), if_neg hf])
        rw [HF.out] at HFA
        have HOK := Lib.hid (valB_ok hv)
        have HAR := Lib.hid (fun W hb => rArcs _ _ S M L W (HSS.out W hb) (HMM.out W hb) HOK)
        have HRM := Lib.hid (fun W hb => rMatrix _ _ S M L W (HSS.out W hb) (HMM.out W hb) HOK)
        have hrk := rk_le (labA M M.length M.length) M.length
        have hm4 := HOK.out.m
        have hl0 := HOK.out.l0
        have hK24 : S.length ≤ 5 → colN M L ≤ 24 := fun h => by unfold colN; omega
        have hKc := colN_small (valB_ok hv) (show S.length ≤ 14 by omega) (show L ≤ 4 by omega)
        have HSMI := Lib.hid (fun vm W (hm : Mat W vm (matM (arcL M) (colN M L) S.length)) (h5 : S.length ≤ 5) => smith26_any vm (rowsOf S M L) S.length (colN M L) (min S.length (colN M L)) W hm (rowsOf_length S M L) (by omega) (hK24 h5) rfl (fun r hr => by
          rcases Nat.eq_zero_or_pos S.length with q | q
          · have hnil : rowsOf S M L = [] := List.eq_nil_of_length_eq_zero (by rw [rowsOf_length]; exact q)
            rw [hnil] at hr; cases hr
          · rw [rowsOf_len r hr, rowsOf_cols q]) rowsOf_sum)
        rw [inv_start] at HSMI
        have HPA := Lib.hid (fun x (h1 : min S.length (colN M L) ≤ x) (h2 : x < colN M L) => inv_pad (S := S) h1 h2)
        have HIA := Lib.hid (inv_all S M L)
        have HIL := Lib.hid (invL_length S M L)
        generalize invL S M L = I at *
        generalize colN M L = K at *
        have hK24' := Lib.hid hK24
        clear HF hv hf hK24 hrk hm4 hl0
        go_upto_region 6 with (go_at_call 21; refine HC.out.mono ?_; rintro e w7 ⟨g, rfl, hg7, ha7, hb7⟩)
        have q7 := q6.below hb7 q6.lt
        have hb7' := hb6'.trans (hb7.mono hb6'.size)
        clear y0 y1 y2
        have y0 := q7.cell 0
        have y1 := q7.cell 1
        have y2 := q7.cell 2
        go_upto_region 9 with (go_at_call 17; refine (HFA.out _ hb7').mono ?_; rintro e w8 ⟨rfl, hb8⟩)
        have q8 := q7.below hb8 q7.lt
        have hb8' := hb7'.trans (hb8.mono hb7'.size)
        have ha8 := ha7.below hb8 ha7.lt
        clear y0 y1 y2
        have y0 := q8.cell 0
        have y1 := q8.cell 1
        have y2 := q8.cell 2
        go_upto_region 10 with (go_at_call 18; refine (HAR.out _ hb8').mono ?_; rintro e w9 ⟨g9, rfl, hg9, ha9, hb9⟩)
        have q9 := q8.below hb9 q8.lt
        have hb9' := hb8'.trans (hb9.mono hb8'.size)
        have hi9 := ha8.below hb9 ha8.lt
        clear y0 y1 y2 ha7 ha8 ha9
        have y0 := q9.cell 0
        have y1 := q9.cell 1
        have y2 := q9.cell 2
        have z1 : ((K : Int) != (K : Int)) = false := by simp
        by_cases h5 : 5 < S.length
        · have z2 : (5 : Int) < (S.length : Int) := by omega
          go_wp2_with fail
          go_ret
          exact ⟨rfl, hb9'⟩
        · have z2 : ¬ ((5 : Int) < (S.length : Int)) := by omega
          have hK := hK24'.out (by omega)
          have hmin : min S.length K ≤ 5 := by omega
          have hmK : min S.length K ≤ K := by omega
          have HSM2 := Lib.hid (fun vm W hm => HSMI.out vm W hm (by omega))
          generalize min S.length K = d at *
          go_upto_region 15 with (first | (go_at_call 14; refine (HRM.out _ hb9').mono ?_; rintro e w10 ⟨v10, rfl, hm10, hb10⟩) | (go_at_call 22; refine (HSM2.out _ _ hm10).mono ?_; rintro e w11 ⟨v11, rfl, ho11, hb11⟩))
          have hb10' := hb9'.trans (hb10.mono hb9'.size)
          have hb11' := hb10'.trans (hb11.mono hb10'.size)
          have hi11 := (hi9.below hb10 hi9.lt).below hb11 (hi9.below hb10 hi9.lt).lt
          have hZ : w10.heap.size ≤ w11.heap.size := hb11.size
          have hg10 : g < w10.heap.size := (hi9.below hb10 hi9.lt).lt
          have hbz := hb10'.size
          clear y0 y1 y2 hm10 hb9 hb10 hb11 hi9
          have HP2 := Lib.hid (fun x (h1 : d ≤ x) (h2 : x < K) => show zs ((List.range (x + 1)).map (gn I)) = zs ((List.range x).map (gn I)) ++ [0] by rw [HPA.out x h1 h2]; unfold zs; rw [List.map_append]; rfl)
          have hb12 := hb11'
          go_loopg [8] (K - d) (fun gk s8 wr => ∃ x : Nat, d ≤ x ∧ x ≤ K ∧ gk = K - x ∧ OwnI 3 w10.heap.size wr s8 (zs ((List.range x).map (gn I))) ∧ Arr wr g 3 (nc I) ∧ Below w.heap.size w wr ∧ w10.heap.size ≤ wr.heap.size)
          case atStart => exact ⟨d, Nat.le_refl _, hmK, rfl, ho11, hi11, hb11', hZ⟩
          case round =>
            clear ho11 hi11 hb11' hb12 hZ
            obtain ⟨x, hdx, hx, rfl, hown, hi12, hb12, hZ⟩ := hrel
            obtain ⟨A5, c5, rfl⟩ := hown.form
            have HLL := Lib.hid (show (zs ((List.range x).map (gn I))).length = x by rw [zs_length]; simp)
            have HOW := Lib.hid hown
            clear hown
            by_cases hxt : x < K
            · have z3 : (((zs ((List.range x).map (gn I))).length : Nat) : Int) < (K : Int) := by rw [HLL.out]; omega
              have HE := Lib.hid (HP2.out x hdx hxt)
              have hll : (zs ((List.range x).map (gn I))).length ≤ 60 := by rw [HLL.out]; omega
              clear HLL
              generalize zs ((List.range x).map (gn I)) = LL at *
              go_wp2_with (at_builtin; refine wpList_appI rfl _ _ 22 rfl Try.underlying22 hi0 hz0 hz1 hz2 rfl (HOW.out.alloc _) rfl (Ints.one wr 3 _) (by simp; omega) (Nat.le_trans hZ (by simp)) ?_; intro v' w1 hown' hb1 hk1)
              have hbA : Below w10.heap.size wr (wr.alloc (.cells #[.int .i64 0] 3)) := (Below.refl _ _).alloc hZ _
              have hb2 := hbA.trans hb1
              go_roundg (K - (x + 1))
              case measure => omega
              case rel => exact ⟨x + 1, by omega, by omega, rfl, by rw [HE.out]; exact hown', hi12.below hb2 hg10, hb12.trans (hb2.mono hbz), Nat.le_trans hZ hb2.size⟩
            · have z3 : ¬ ((((zs ((List.range x).map (gn I))).length : Nat) : Int) < (K : Int)) := by rw [HLL.out]; omega
              have hxK : x = K := by omega
              have HI1 := Lib.hid (show Ints wr (.slice A5 (zs ((List.range x).map (gn I))).length c5) (zs I) by
                have h1 := HOW.out.ints
                have e1 : (List.range x).map (gn I) = I := by rw [hxK]; exact HIA.out
                rwa [e1] at h1 ⊢)
              have HI2 := Lib.hid (show Ints wr (.slice (some ⟨g, 0, none⟩) K K) (zs I) by
                have h1 := Ints.of_spare (w := wr) (g := g) (c := K) (t := 3) (xs := I) (Y := []) (by rw [List.append_nil]; exact hi12) (by rw [HIL.out]; exact Nat.le_refl _)
                rwa [HIL.out] at h1)
              have HEQ := Lib.hid (equal_same _ _ (zs I) wr HI2.out HI1.out (by rw [zs_length, HIL.out]; omega))
              clear hxK HLL HI1 HI2 HOW
              generalize zs ((List.range x).map (gn I)) = LL at *
              go_wp2_with (go_at_call 23; refine HEQ.out.mono ?_; rintro e w20 ⟨rfl, nq, rfl⟩)
              go_ret
              exact ⟨rfl, bdrewN hb12 _⟩
theorem invariants_row (vs vm : Value) (S M : List Int) (L : Int) (w : World) (hS : Ints w vs S) (hM : Ints w vm M) :
    Calls Try.prog 5 #[.agg #[vs, vm, .int .i64 L]] w fun e w' => e = .returned (.bool true) ∧ Below w.heap.size w w' := invariants_law vs vm S M L w hS hM
end Go.Proofs.Ytcjaloddgilnpaa
