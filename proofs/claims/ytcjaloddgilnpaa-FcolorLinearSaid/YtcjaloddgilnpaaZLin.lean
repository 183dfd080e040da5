/- FcolorLinear returns true. -/
import Derived.Test.YtcjaloddgilnpaaZLip
import Derived.BigRegion
namespace Go.Proofs.Ytcjaloddgilnpaa
open Go.RowKit
set_option linter.unusedVariables false

set_option maxHeartbeats 4000000 in
set_option maxRecDepth 100000 in
theorem linear_law (vs vm : Value) (S M : List Int) (L : Int) (a ti : Nat) (w : World) (hS : Ints w vs S) (hM : Ints w vm M) (ha : a < 256) (hti : ti < 256) :
    Calls Try.prog 7 #[.agg #[vs, vm, .int .i64 L], .int .u8 (a : Nat), .int .u8 (ti : Nat)] w fun e w' => e = .returned (.bool true) ∧ Below w.heap.size w w' := by
  obtain ⟨i0, hi0, hz0, hz1, hz2⟩ := info_parts info_int
  obtain ⟨i1, hi1, hy0, hy1, hy2⟩ := info_parts info_ints
  have hW : Arr (w.alloc (.cells #[vs, vm, .int .i64 L] 24)) w.heap.size 24 [vs, vm, .int .i64 L] ∧ Below w.heap.size w (w.alloc (.cells #[vs, vm, .int .i64 L] 24)) := ⟨Arr.new w _ _, (Below.refl _ _).alloc (Nat.le_refl _) _⟩
  have HAW := Lib.hid awake_any
  have HGR := Lib.hid (fun W (hb : Below w.heap.size w W) => great_any vs vm S M L W (hS.below hb) (hM.below hb))
  have HVR := Lib.hid (fun W (hb : Below w.heap.size w W) => valid_ref vs vm S M L W (hS.below hb) (hM.below hb))
  have HSS := Lib.hid (fun W (hb : Below w.heap.size w W) => hS.below hb)
  have HMM := Lib.hid (fun W (hb : Below w.heap.size w W) => hM.below hb)
  obtain ⟨A, c, rfl, hc, hx⟩ := hS
  obtain ⟨A2, c2, rfl, hc2, hx2⟩ := hM
  clear hx hx2
  obtain ⟨m, hm⟩ : ∃ m, m = a % 4 + 2 := ⟨_, rfl⟩
  obtain ⟨r4, hr4⟩ : ∃ r, r = a % 4 := ⟨_, rfl⟩
  have e1 : (a : Int) % 4 = (r4 : Int) := by omega
  rw [← hr4] at hm
  have e2 : (r4 : Int) + 2 = (m : Int) := by omega
  have hm1 : 2 ≤ m := by omega
  have hm2 : m ≤ 5 := by omega
  clear hm hr4
  go_enter Try.func7, Try.ntmps7
  go_upto_region 1 with fail
  generalize (w.alloc (.cells #[.slice A S.length c, .slice A2 M.length c2, .int .i64 L] 24)) = w4 at hW ⊢
  obtain ⟨q0, hb4⟩ := hW
  go_upto_region 4 with (go_at_call 10; refine (HAW.out _).mono ?_; rintro e w5 ⟨rfl, hb5⟩)
  have q5 := q0.below hb5 q0.lt
  have hb5' := hb4.trans (hb5.mono hb4.size)
  have y0 := q5.cell 0
  have y1 := q5.cell 1
  have y2 := q5.cell 2
  clear q0 hb4 hb5
  clear e1 e2
  cases hgr : grB S M with
  | true =>
    rw [hgr] at HGR
    clear hgr
    go_wp2_with (go_at_call 15; refine (HGR.out _ hb5').mono ?_; rintro e w6 ⟨rfl, hb6⟩)
    go_ret
    exact ⟨rfl, hb5'.trans (hb6.mono hb5'.size)⟩
  | false =>
    rw [hgr] at HGR
    clear hgr
    cases hv : valB S M L with
    | false =>
      rw [hv] at HVR
      clear hv
      go_wp2_with (first | (go_at_call 15; refine (HGR.out _ hb5').mono ?_; rintro e w6 ⟨rfl, hb6⟩; have hb6' := hb5'.trans (hb6.mono hb5'.size); have q6 := q5.below hb6 q5.lt; clear y0 y1 y2; have y0 := q6.cell 0; have y1 := q6.cell 1; have y2 := q6.cell 2) | (go_at_call 12; refine (HVR.out _ hb6').mono ?_; rintro e w7 ⟨rfl, hb7⟩))
      go_ret
      exact ⟨rfl, hb6'.trans (hb7.mono hb6'.size)⟩
    | true =>
      rw [hv] at HVR
      have HOK := Lib.hid (valB_ok hv)
      have HV := Lib.hid hv
      clear hv
      go_upto_region 6 with (first | (go_at_call 15; refine (HGR.out _ hb5').mono ?_; rintro e w6 ⟨rfl, hb6⟩; have hb6' := hb5'.trans (hb6.mono hb5'.size); have q6 := q5.below hb6 q5.lt; clear y0 y1 y2; have y0 := q6.cell 0; have y1 := q6.cell 1; have y2 := q6.cell 2) | (go_at_call 12; refine (HVR.out _ hb6').mono ?_; rintro e w7 ⟨rfl, hb7⟩))
      have hb7' := hb6'.trans (hb7.mono hb6'.size)
      have q7 := q6.below hb7 q6.lt
      have HAR := Lib.hid (fun W hb => rArcs _ _ S M L W (HSS.out W hb) (HMM.out W hb) HOK)
      have hcn := colN_le HOK.out
      clear y0 y1 y2 q5 q6 hb5' hb6 hb6' hb7 HGR HVR HAW
      have y0 := q7.cell 0
      have y1 := q7.cell 1
      have y2 := q7.cell 2
      go_upto_region 7 with (go_at_call 18; refine (HAR.out _ hb7').mono ?_; rintro e w8 ⟨g, rfl, hg8, a8, hb8⟩)
      have hb8' := hb7'.trans (hb8.mono hb7'.size)
      have q8 := q7.below hb8 q7.lt
      clear y0 y1 y2 q7 hb7' hb8 a8 hg8 HAR
      have y0 := q8.cell 0
      have y1 := q8.cell 1
      have y2 := q8.cell 2
      have HPW := Lib.hid (fun W => power_any m (colN M L) W (by omega) (by omega))
      have hpw := pwF_le m (colN M L)
      by_cases hK : colN M L = 0
      · have z1 : ((colN M L : Int) == 0) = true := by simp [hK]
        clear hK
        go_wp2_with fail
        go_ret
        exact ⟨rfl, hb8'⟩
      · have z1 : ((colN M L : Int) == 0) = false := by simp [hK]
        by_cases hp : 800 < pwF m (colN M L)
        · have z2 : (800 : Int) < (pwF m (colN M L) : Int) := by omega
          go_wp2_with (go_at_call 19; refine (HPW.out _).mono ?_; rintro e w10 ⟨rfl, rfl⟩)
          go_ret
          exact ⟨rfl, hb8'⟩
        · have z2 : ¬ ((800 : Int) < (pwF m (colN M L) : Int)) := by omega
          have hP : m ^ colN M L ≤ 800 := by
            have h1 := pwF_eq (m := m) (by omega) (colN M L)
            rcases Nat.le_total (m ^ colN M L) 1000000 with q | q
            · rw [show Nat.min (m ^ colN M L) 1000000 = m ^ colN M L from Nat.min_eq_left q] at h1; omega
            · rw [show Nat.min (m ^ colN M L) 1000000 = 1000000 from Nat.min_eq_right q] at h1; omega
          go_upto_region 9 with (go_at_call 19; refine (HPW.out _).mono ?_; rintro e w10 ⟨rfl, rfl⟩)
          clear z2 hp HPW hpw z1
          have hK0 : 0 < colN M L := by omega
          have HVC := Lib.hid (fun vx xs W (hX : Ints W vx (zs xs)) (hb : Below w.heap.size w W) (h1 : xs.length = colN M L) (h2 : ∀ j, j < xs.length → gn xs j < m) => valid_col _ _ vx S M L xs m W (HSS.out W hb) (HMM.out W hb) hX HV.out (by omega) (by omega) h1 h2)
          have HGL := Lib.hid (goodL_length S M L m)
          have HGE := Lib.hid (nCol_ge (m := m) HOK.out (by omega) hK0)
          have HMA := Lib.hid (fun h (hh : h < 4 * S.length) => arc_lt HOK.out (h := h) (by have := HOK.out.m; omega))
          have HCS := Lib.hid (fun (x y : List Nat) (hx : ∀ j, gn x j < m) (hy : ∀ j, gn y j < m) (h1 : colB (arcL M) S.length m x = true) (h2 : colB (arcL M) S.length m y = true) => colB_sum (t := ti) (show 0 < m by omega) HMA.out hx hy h1 h2)
          have HMK := Lib.hid (fun W => run_make_one (P := Try.prog) 22 3 i0 (.int .i64 0) Try.underlying22 hi0 hz0 hz1 rfl (by rw [hz2]; decide) (colN M L) (by omega) W)
          have HCT := Lib.hid (fun W (hb : Below w.heap.size w W) => count_lin _ _ S M L m W (HSS.out W hb) (HMM.out W hb) HV.out (by omega) (by omega) hK0 (by omega))
          clear hK HMA
          generalize nCol S M L m = NC at *
          generalize arcL M = arc at *
          generalize colN M L = K at *
          have hmk := HMK.out
          go_upto_region 11 with fail
          clear hmk
          have hI : Ints (w10.alloc (.cells (rowOf (List.replicate K (Value.int .i64 0))) 3)) (.slice (some ⟨w10.heap.size, 0, none⟩) K K) (zs (vec m K 0)) := by
            have h1 := Arr.new w10 3 (List.replicate K (Value.int .i64 0))
            have h2 : List.replicate K (Value.int .i64 0) = nc (vec m K 0) ++ [] := by rw [vec_zero, List.append_nil]; simp [nc]
            rw [h2] at h1 ⊢
            have h3 := Ints.of_spare (c := K) h1 (by rw [vec_length]; exact Nat.le_refl _)
            rw [vec_length] at h3
            exact h3
          have hcv : CurV m K 0 (w10.alloc (.cells (rowOf (List.replicate K (Value.int .i64 0))) 3)) none (.slice (some ⟨w10.heap.size, 0, none⟩) K K) := by
            unfold CurV
            rw [if_pos (Nat.pow_pos (by omega))]
            exact ⟨_, _, rfl, hI, by simp, by simp [heap_push]⟩
          have hb11 := hb8'.alloc hb8'.size (.cells (rowOf (List.replicate K (Value.int .i64 0))) 3)
          have q11 := q8.alloc (.cells (rowOf (List.replicate K (Value.int .i64 0))) 3)
          have hZ0 : w.heap.size < (w10.alloc (.cells (rowOf (List.replicate K (Value.int .i64 0))) 3)).heap.size := q11.lt
          generalize w10.alloc (.cells (rowOf (List.replicate K (Value.int .i64 0))) 3) = w11 at *
          generalize w10.heap.size = g10 at *
          obtain ⟨Z, hZ⟩ : ∃ Z, Z = w11.heap.size := ⟨_, rfl⟩
          have hZ1 : Z ≤ w11.heap.size := by omega
          rw [← hZ] at hZ0
          obtain ⟨P, hPP⟩ : ∃ P, P = m ^ K := ⟨_, rfl⟩
          rw [← hPP] at hP
          have HP := Lib.hid hPP
          clear hI hb8' q8 y0 y1 y2 hZ hPP
          go_loopg [10, 11] P (fun gk s10 s11 wr => ∃ (t : Nat) (fs : List Value), t ≤ P ∧ gk = P - t ∧ OwnV 22 Z wr s10 fs ∧ RowsI wr s10.ownBlock fs (goodL arc S.length m K t) ∧ CurV m K t wr s10.ownBlock s11 ∧ Below w.heap.size w wr ∧ Arr wr w.heap.size 24 [.slice A S.length c, .slice A2 M.length c2, .int .i64 L] ∧ Z ≤ wr.heap.size)
          case atStart => exact ⟨0, [], Nat.zero_le _, rfl, OwnV.nil _ _ _, RowsI.nil _, hcv, hb11, q11, hZ1⟩
          case round =>
            clear hcv hb11 q11 hZ1
            obtain ⟨t, fs, ht, rfl, hown, hrw, hcv, hb8, q3, hZ1⟩ := hrel
            obtain ⟨A1, c1, rfl⟩ := hown.form
            have HFL := Lib.hid hrw.1
            have hgl : fs.length ≤ t := by rw [hrw.1]; exact goodL_le arc S.length m K t
            by_cases hlt : t < P
            · obtain ⟨gx, cx, rfl, hI, hobx, hgx⟩ := hcv.yes (by rw [← HP.out]; exact hlt)
              have z3 : (0 : Int) < (K : Int) := by omega
              have y0 := q3.cell 0
              have y1 := q3.cell 1
              have y2 := q3.cell 2
              have HV8 := Lib.hid (HVC.out _ (vec m K t) wr hI hb8 (vec_length _ _ _) (fun j _ => gn_vec_lt (by omega) j))
              have HI8 := Lib.hid hI
              have HOB := Lib.hid hobx
              have HRW := Lib.hid hrw
              have HOW := Lib.hid hown
              have HNX := Lib.hid (fun W (hi : Ints W (.slice (some ⟨gx, 0, none⟩) K cx) (zs (vec m K t))) => next_any _ (vec m K t) m W hi (by rw [vec_length]; exact hK0) (by rw [vec_length]; omega) (by omega) (fun j => by have := gn_vec_lt (m := m) (K := K) (t := t) (by omega) j; omega))
              have HCV := Lib.hid (fun B e W ob hob (h : NxtE B (nxtF m (vec m K t)) e W) => h.curV (ob := ob) hK0 (by omega) (by rw [← HP.out]; exact hlt) hob)
              clear hcv hI hobx hrw hown
              cases hB : colB arc S.length m (vec m K t) with
              | true =>
                rw [hB] at HV8
                have HGN := Lib.hid (goodL_yes hB)
                clear hB
                go_upto_region 14 with (go_at_call 26; refine HV8.out.mono ?_; rintro e w12 ⟨rfl, hb12⟩)
                have hb12' := hb8.trans (hb12.mono hb8.size)
                have q4 := q3.below hb12 q3.lt
                have HO12 := Lib.hid (HOW.out.below hb12 (Nat.le_refl _))
                have HR12 := Lib.hid (HRW.out.below hb12)
                have HI12 := Lib.hid (HI8.out.below hb12)
                have hgx12 : gx < w12.heap.size := Nat.lt_of_lt_of_le hgx hb12.size
                have hZ2 : Z ≤ w12.heap.size := Nat.le_trans hZ1 hb12.size
                clear y0 y1 y2 q3 hb12
                go_upto_region 12 with (at_builtin; refine wpList_appV rfl _ _ 26 rfl Try.underlying26 hi1 hy0 hy1 (by omega) rfl rfl (HO12.out.alloc _) rfl (Vals.one _ _ _) (by simp [Value.oneCell']) (by simp; omega) (Nat.le_trans hZ2 (by simp)) ?_; intro v' w2 hown2 hb2 hk2 hv2)
                have HB2 := Lib.hid (((Below.refl Z w12).alloc hZ2 (.cells #[Value.slice (some ⟨gx, 0, none⟩) K cx] 22)).trans hb2)
                have HKB := Lib.hid (show ∀ k, k < w12.heap.size → (Value.slice A1 fs.length c1).ownBlock ≠ some k → w2.heap[k]? = w12.heap[k]? from fun k hk hne => (hk2 k (by simp [heap_push]; omega) hne).trans (Below.heap_alloc _ _ k hk))
                have HNB := Lib.hid (show ∀ k, k < w12.heap.size → (Value.slice A1 fs.length c1).ownBlock ≠ some k → v'.ownBlock ≠ some k from fun k hk hne e => by
                  rcases hv2 with hv2 | hv2
                  · rw [hv2] at e; exact hne e
                  · rw [hv2] at e; injection e with e; simp [heap_push] at e; omega)
                have HR2 := Lib.hid (show RowsI w2 v'.ownBlock (fs ++ [Value.slice (some ⟨gx, 0, none⟩) K cx]) (goodL arc S.length m K t ++ [vec m K t]) from by
                  have h1 := HR12.out.snoc (b := gx) (c := cx) (row := vec m K t) (by rw [vec_length]; exact HI12.out) hgx12 HOB.out
                  rw [vec_length] at h1
                  exact h1.keep HB2.out.size HKB.out HNB.out)
                have HO2 := Lib.hid hown2
                have HI2 := Lib.hid (show Ints w2 (.slice (some ⟨gx, 0, none⟩) K cx) (zs (vec m K t)) from by
                  obtain ⟨A', c', e, hc', hcell⟩ := HI12.out
                  refine ⟨A', c', e, hc', fun k x hk => ?_⟩
                  obtain ⟨b, o, e2, e3⟩ := hcell k x hk
                  injection e with e4
                  rw [← e4] at e2
                  injection e2 with e2
                  injection e2 with e5 e6
                  subst e5
                  exact ⟨gx, o, by rw [← e4, e6], (World.cell?_of_block (a := ⟨gx, o + k, none⟩) (HKB.out gx hgx12 HOB.out)).trans e3⟩)
                have hb2' := hb12'.trans (HB2.out.mono (by omega))
                have q5 := q4.below HB2.out hZ0
                have hZ3 : Z ≤ w2.heap.size := Nat.le_trans hZ2 HB2.out.size
                have HN2 := Lib.hid (HNX.out w2 HI2.out)
                clear hown2 hb2 hk2 hv2 HB2 HKB HNB
                go_wp2_with (go_at_call 25; refine HN2.out.mono ?_; rintro e w13 ⟨he, hb13⟩; obtain ⟨v, rfl, hcv⟩ := HCV.out _ _ _ v'.ownBlock (fun k hk e => by have := HO2.out.lt k e; omega) he)
                have hb13' := hb2'.trans (hb13.mono hb2'.size)
                have q6 := q5.below hb13 q5.lt
                go_roundg (P - (t + 1))
                case measure => omega
                case rel => exact ⟨t + 1, _, by omega, rfl, HO2.out.below hb13 (Nat.le_refl _), by rw [HGN.out]; exact HR2.out.below hb13, hcv, hb13', q6, Nat.le_trans hZ3 hb13.size⟩
              | false =>
                rw [hB] at HV8
                have HGN := Lib.hid (goodL_no hB)
                clear hB
                go_upto_region 12 with (go_at_call 26; refine HV8.out.mono ?_; rintro e w12 ⟨rfl, hb12⟩)
                have hb12' := hb8.trans (hb12.mono hb8.size)
                have q4 := q3.below hb12 q3.lt
                have HN12 := Lib.hid (HNX.out w12 (HI8.out.below hb12))
                have HO12 := Lib.hid (HOW.out.below hb12 (Nat.le_refl _))
                have HR12 := Lib.hid (HRW.out.below hb12)
                clear y0 y1 y2 q3
                go_wp2_with (go_at_call 25; refine HN12.out.mono ?_; rintro e w13 ⟨he, hb13⟩; obtain ⟨v, rfl, hcv⟩ := HCV.out _ _ _ (Value.slice A1 fs.length c1).ownBlock (fun k hk e => by have := HO12.out.lt k e; omega) he)
                have hb13' := hb12'.trans (hb13.mono hb12'.size)
                have q5 := q4.below hb13 q4.lt
                go_roundg (P - (t + 1))
                case measure => omega
                case rel => exact ⟨t + 1, fs, by omega, rfl, HO12.out.below hb13 (Nat.le_refl _), by rw [HGN.out]; exact HR12.out.below hb13, hcv, hb13', q5, Nat.le_trans hZ1 (Nat.le_trans hb12.size hb13.size)⟩
            · have hcv' := hcv.no (by rw [← HP.out]; exact hlt)
              subst hcv'
              have hPt : t = P := by omega
              have HGN := Lib.hid (show (goodL arc S.length m K t).length = NC P by rw [HGL.out, hPt])
              have HGM := Lib.hid (fun r (hr : r ∈ goodL arc S.length m K t) => goodL_mem (show 0 < m by omega) hr)
              rw [← HP.out] at HGE
              generalize goodL arc S.length m K t = G at *
              have HFN := Lib.hid (HFL.out.trans HGN.out)
              have hfm : m ≤ fs.length := by rw [HFL.out, HGN.out]; exact HGE.out
              have hf8 : fs.length ≤ 800 := by omega
              have HRW := Lib.hid hrw
              have HVA := Lib.hid hown.vals
              clear hPt hcv hgl hlt hrw hown HGL HGN HGE
              have y0 := q3.cell 0
              have y1 := q3.cell 1
              have y2 := q3.cell 2
              have HC14 := Lib.hid (HCT.out wr hb8)
              rw [← HP.out] at HC14
              have hct : ∀ nv ev : Nat, CtL (NC P) nv ev → (ev = 0 ∧ nv = fs.length) ∨ (ev = 5 ∧ nv = 0) := fun nv ev h => by
                rcases h with ⟨a, b⟩ | h
                · exact Or.inl ⟨a, b.trans HFN.out.symm⟩
                · exact Or.inr h
              have HCT2 := Lib.hid hct
              clear hct
              go_upto_region 16 with (go_at_call 16; refine HC14.out.mono ?_; rintro e w14 ⟨nv, ev, rfl, hct, hb14⟩)
              have hne := HCT2.out nv ev hct
              have hb14' := hb8.trans (hb14.mono hb8.size)
              have q14 := q3.below hb14 q3.lt
              have HRW14 := Lib.hid (HRW.out.below hb14)
              have HVA14 := Lib.hid (HVA.out.below hb14)
              clear y0 y1 y2 hct HCT2 HC14 HCT HRW HVA q3 hb14
              have y0 := q14.cell 0
              have y1 := q14.cell 1
              have y2 := q14.cell 2
              have z5 : ((fs.length : Int) != (fs.length : Int)) = false := by simp
              rcases hne with ⟨rfl, rfl⟩ | ⟨rfl, rfl⟩
              · go_upto_region 19 with fail
                clear z5
                go_loopg [77] fs.length (fun gk s77 wx => ∃ i : Nat, i ≤ fs.length ∧ gk = fs.length - i ∧ s77 = .int .i64 (i : Int) ∧ Below w14.heap.size w14 wx)
                case atStart => exact ⟨0, Nat.zero_le _, rfl, rfl, Below.refl _ _⟩
                case round =>
                  obtain ⟨i, hi, rfl, rfl, hbx⟩ := hrel
                  obtain ⟨wq, rfl⟩ : ∃ x, x = wr := ⟨_, rfl⟩
                  by_cases hit : i < fs.length
                  · have z6 : (i : Int) < (fs.length : Int) := by omega
                    have hbq := hb14'.trans (hbx.mono hb14'.size)
                    have q15 := q14.below hbx q14.lt
                    have HRW15 := Lib.hid (HRW14.out.below hbx)
                    have HVA15 := Lib.hid (HVA14.out.below hbx)
                    obtain ⟨j, hj⟩ : ∃ j, j = (i * 7 + 3) % fs.length := ⟨_, rfl⟩
                    have hjt : j < fs.length := by rw [hj]; exact Nat.mod_lt _ (by omega)
                    have e1 : ((i : Int) * 7 + 3) % (fs.length : Int) = (j : Int) := by rw [hj]; simp
                    have z7 : (j : Int) < (fs.length : Int) := by omega
                    have z8 : ((fs.length : Int) == 0) = false := beq_eq_false_iff_ne.2 (by omega)
                    have z9 : (fs.length : Int) ≠ 0 := by omega
                    have hGi : i < G.length := by have := HFL.out; omega
                    have hGj : j < G.length := by have := HFL.out; omega
                    obtain ⟨ba, oa, rfl, hba, ci⟩ := HVA15.out.at_ hit
                    obtain ⟨ba', oa', eA, _, cj⟩ := HVA15.out.at_ hjt
                    injection eA with eA
                    injection eA with eA1 eA2
                    subst eA1 eA2
                    obtain ⟨bx, cx, ex, hcx, hbxl, _, kx⟩ := HRW15.out.2 i fs[i] G[i] (List.getElem?_eq_getElem hit) (List.getElem?_eq_getElem hGi)
                    obtain ⟨by_, cy, ey, hcy, hbyl, _, ky⟩ := HRW15.out.2 j fs[j] G[j] (List.getElem?_eq_getElem hjt) (List.getElem?_eq_getElem hGj)
                    obtain ⟨lx, vx, sx⟩ := HGM.out G[i] (List.getElem_mem hGi)
                    obtain ⟨ly, vy, sy⟩ := HGM.out G[j] (List.getElem_mem hGj)
                    rw [ex] at ci
                    rw [ey] at cj
                    have HSU := Lib.hid (HCS.out G[i] G[j] vx vy sx sy)
                    generalize G[i] = X at *
                    generalize G[j] = Y at *
                    rw [lx] at ci kx
                    rw [ly] at cj ky
                    have KX := Lib.hid kx
                    have KY := Lib.hid ky
                    have VX := Lib.hid vx
                    have VY := Lib.hid vy
                    clear HVA15 HRW15 hj ex ey sx sy lx ly kx ky vx vy hcx hcy hGi hGj y0 y1 y2
                    have hmk := HMK.out
                    go_upto_region 23 with fail
                    have hW : ∀ W, W = wq.alloc (.cells (rowOf (List.replicate K (Value.int .i64 0))) 3) → Arr W wq.heap.size 3 (nc (smL m ti K X Y 0)) ∧ Below wq.heap.size wq W := by
                      intro W hW
                      subst hW
                      rw [smL_zero]
                      exact ⟨Arr.new wq _ _, (Below.refl _ _).alloc (Nat.le_refl _) _⟩
                    have HBS := Lib.hid (show w14.heap.size ≤ wq.heap.size from hbx.size)
                    generalize wq.alloc (.cells (rowOf (List.replicate K (Value.int .i64 0))) 3) = w23 at hW ⊢
                    obtain ⟨a23, b23⟩ := hW w23 rfl
                    obtain ⟨B, hB⟩ : ∃ B, B = wq.heap.size := ⟨_, rfl⟩
                    rw [← hB] at a23 b23 hbxl hbyl HBS ⊢
                    have HBB := Lib.hid hB
                    clear hW hmk ci cj e1 z7 z8 z9 hB
                    go_wp2_with fail
                    go_loopg [95] K (fun gk s95 wx => ∃ k : Nat, k ≤ K ∧ gk = K - k ∧ s95 = .int .i64 (k : Int) ∧ Arr wx B 3 (nc (smL m ti K X Y k)) ∧ Below B wq wx)
                    case atStart => exact ⟨0, Nat.zero_le _, rfl, rfl, a23, b23⟩
                    case round =>
                      clear a23 b23
                      obtain ⟨k, hk, rfl, rfl, a24, b24⟩ := hrel
                      by_cases hkt : k < K
                      · have z10 : (k : Int) < (K : Int) := by omega
                        have dx := (b24.cell (p := ⟨bx, k, none⟩) hbxl).trans (KX.out k hkt)
                        have dy := (b24.cell (p := ⟨by_, k, none⟩) hbyl).trans (KY.out k hkt)
                        have fz := a24.frozen k
                        have za := (a24.cell k).trans (nc_get (by rw [smL_length]; exact hkt))
                        have ux := VX.out k
                        have uy := VY.out k
                        have HST := Lib.hid (smL_step (m := m) (t := ti) (x := X) (y := Y) hkt)
                        obtain ⟨p, hp⟩ : ∃ p, p = ti * gn Y k := ⟨_, rfl⟩
                        obtain ⟨s, hs⟩ : ∃ s, s = gn X k + p := ⟨_, rfl⟩
                        obtain ⟨r, hr⟩ : ∃ r, r = s % m := ⟨_, rfl⟩
                        rw [← hp, ← hs, ← hr] at HST
                        have hpb : p ≤ 255 * 5 := by rw [hp]; exact Nat.mul_le_mul (by omega) (by omega)
                        have e1 : (ti : Int) * (gn Y k : Int) = (p : Int) := by rw [hp]; simp
                        have e2 : (gn X k : Int) + (p : Int) = (s : Int) := by omega
                        have e3 : (s : Int) % (m : Int) = (r : Int) := by rw [hr]; simp
                        have z11 : ((m : Int) == 0) = false := beq_eq_false_iff_ne.2 (by omega)
                        have z12 : (m : Int) ≠ 0 := by omega
                        generalize gn X k = fx at *
                        generalize gn Y k = fy at *
                        clear hp hs hr
                        go_upto_region 26 with fail
                        go_region
                        have HA := Lib.hid ((a24.set k (.int .i64 (r : Int))).drew)
                        rw [HST.out] at HA
                        have HBL := Lib.hid ((b24.setCell (p := ⟨B, k, none⟩) (Nat.le_refl _) (.int .i64 (r : Int))).drew)
                        clear a24 b24 dx dy fz za e1 e2 e3
                        go_wp2_with fail
                        go_roundg (K - (k + 1))
                        case measure => omega
                        case rel => exact ⟨k + 1, by omega, rfl, by go_num, HA.out, HBL.out⟩
                      · have z10 : ¬ ((k : Int) < (K : Int)) := by omega
                        have hkK : k = K := by omega
                        have HA := Lib.hid (show Arr wr B 3 (nc (smL m ti K X Y K)) by have h := a24; rw [hkK] at h; exact h)
                        clear hkK a24
                        rw [HBB.out] at b24
                        have hbz := hbq.trans (b24.mono hbq.size)
                        have q24 := q15.below b24 q15.lt
                        have HSI := Lib.hid (show Ints wr (.slice (some ⟨B, 0, none⟩) K K) (zs (smL m ti K X Y K)) from by
                          have h1 := Ints.of_spare (w := wr) (g := B) (c := K) (t := 3) (xs := smL m ti K X Y K) (Y := []) (by rw [List.append_nil]; exact HA.out) (by rw [smL_length]; exact Nat.le_refl _)
                          rwa [smL_length] at h1)
                        have HVS := Lib.hid (HVC.out _ (smL m ti K X Y K) wr HSI.out hbz (smL_length _ _ _ _ _ _) (fun j hj => by
                          rw [smL_length] at hj
                          rw [gn_smL hj, if_pos hj]; exact Nat.mod_lt _ (by omega)))
                        rw [HSU.out] at HVS
                        have y0 := q24.cell 0
                        have y1 := q24.cell 1
                        have y2 := q24.cell 2
                        go_wp2_with (go_at_call 26; refine HVS.out.mono ?_; rintro e w30 ⟨rfl, hb30⟩)
                        have hb31 := hbx.trans ((b24.trans (hb30.mono b24.size)).mono hbx.size)
                        go_roundg (fs.length - (i + 1))
                        case measure => omega
                        case rel => exact ⟨i + 1, by omega, rfl, by go_num, hb31⟩
                  · have z6 : ¬ ((i : Int) < (fs.length : Int)) := by omega
                    have z7 : (m : Int) ≤ (fs.length : Int) := by omega
                    go_wp2_with fail
                    go_ret
                    exact ⟨rfl, hb14'.trans (hbx.mono hb14'.size)⟩
              · go_upto_region 19 with fail
                clear z5
                go_loopg [77] fs.length (fun gk s77 wx => ∃ i : Nat, i ≤ fs.length ∧ gk = fs.length - i ∧ s77 = .int .i64 (i : Int) ∧ Below w14.heap.size w14 wx)
                case atStart => exact ⟨0, Nat.zero_le _, rfl, rfl, Below.refl _ _⟩
                case round =>
                  obtain ⟨i, hi, rfl, rfl, hbx⟩ := hrel
                  obtain ⟨wq, rfl⟩ : ∃ x, x = wr := ⟨_, rfl⟩
                  by_cases hit : i < fs.length
                  · have z6 : (i : Int) < (fs.length : Int) := by omega
                    have hbq := hb14'.trans (hbx.mono hb14'.size)
                    have q15 := q14.below hbx q14.lt
                    have HRW15 := Lib.hid (HRW14.out.below hbx)
                    have HVA15 := Lib.hid (HVA14.out.below hbx)
                    obtain ⟨j, hj⟩ : ∃ j, j = (i * 7 + 3) % fs.length := ⟨_, rfl⟩
                    have hjt : j < fs.length := by rw [hj]; exact Nat.mod_lt _ (by omega)
                    have e1 : ((i : Int) * 7 + 3) % (fs.length : Int) = (j : Int) := by rw [hj]; simp
                    have z7 : (j : Int) < (fs.length : Int) := by omega
                    have z8 : ((fs.length : Int) == 0) = false := beq_eq_false_iff_ne.2 (by omega)
                    have z9 : (fs.length : Int) ≠ 0 := by omega
                    have hGi : i < G.length := by have := HFL.out; omega
                    have hGj : j < G.length := by have := HFL.out; omega
                    obtain ⟨ba, oa, rfl, hba, ci⟩ := HVA15.out.at_ hit
                    obtain ⟨ba', oa', eA, _, cj⟩ := HVA15.out.at_ hjt
                    injection eA with eA
                    injection eA with eA1 eA2
                    subst eA1 eA2
                    obtain ⟨bx, cx, ex, hcx, hbxl, _, kx⟩ := HRW15.out.2 i fs[i] G[i] (List.getElem?_eq_getElem hit) (List.getElem?_eq_getElem hGi)
                    obtain ⟨by_, cy, ey, hcy, hbyl, _, ky⟩ := HRW15.out.2 j fs[j] G[j] (List.getElem?_eq_getElem hjt) (List.getElem?_eq_getElem hGj)
                    obtain ⟨lx, vx, sx⟩ := HGM.out G[i] (List.getElem_mem hGi)
                    obtain ⟨ly, vy, sy⟩ := HGM.out G[j] (List.getElem_mem hGj)
                    rw [ex] at ci
                    rw [ey] at cj
                    have HSU := Lib.hid (HCS.out G[i] G[j] vx vy sx sy)
                    generalize G[i] = X at *
                    generalize G[j] = Y at *
                    rw [lx] at ci kx
                    rw [ly] at cj ky
                    have KX := Lib.hid kx
                    have KY := Lib.hid ky
                    have VX := Lib.hid vx
                    have VY := Lib.hid vy
                    clear HVA15 HRW15 hj ex ey sx sy lx ly kx ky vx vy hcx hcy hGi hGj y0 y1 y2
                    have hmk := HMK.out
                    go_upto_region 23 with fail
                    have hW : ∀ W, W = wq.alloc (.cells (rowOf (List.replicate K (Value.int .i64 0))) 3) → Arr W wq.heap.size 3 (nc (smL m ti K X Y 0)) ∧ Below wq.heap.size wq W := by
                      intro W hW
                      subst hW
                      rw [smL_zero]
                      exact ⟨Arr.new wq _ _, (Below.refl _ _).alloc (Nat.le_refl _) _⟩
                    have HBS := Lib.hid (show w14.heap.size ≤ wq.heap.size from hbx.size)
                    generalize wq.alloc (.cells (rowOf (List.replicate K (Value.int .i64 0))) 3) = w23 at hW ⊢
                    obtain ⟨a23, b23⟩ := hW w23 rfl
                    obtain ⟨B, hB⟩ : ∃ B, B = wq.heap.size := ⟨_, rfl⟩
                    rw [← hB] at a23 b23 hbxl hbyl HBS ⊢
                    have HBB := Lib.hid hB
                    clear hW hmk ci cj e1 z7 z8 z9 hB
                    go_wp2_with fail
                    go_loopg [95] K (fun gk s95 wx => ∃ k : Nat, k ≤ K ∧ gk = K - k ∧ s95 = .int .i64 (k : Int) ∧ Arr wx B 3 (nc (smL m ti K X Y k)) ∧ Below B wq wx)
                    case atStart => exact ⟨0, Nat.zero_le _, rfl, rfl, a23, b23⟩
                    case round =>
                      clear a23 b23
                      obtain ⟨k, hk, rfl, rfl, a24, b24⟩ := hrel
                      by_cases hkt : k < K
                      · have z10 : (k : Int) < (K : Int) := by omega
                        have dx := (b24.cell (p := ⟨bx, k, none⟩) hbxl).trans (KX.out k hkt)
                        have dy := (b24.cell (p := ⟨by_, k, none⟩) hbyl).trans (KY.out k hkt)
                        have fz := a24.frozen k
                        have za := (a24.cell k).trans (nc_get (by rw [smL_length]; exact hkt))
                        have ux := VX.out k
                        have uy := VY.out k
                        have HST := Lib.hid (smL_step (m := m) (t := ti) (x := X) (y := Y) hkt)
                        obtain ⟨p, hp⟩ : ∃ p, p = ti * gn Y k := ⟨_, rfl⟩
                        obtain ⟨s, hs⟩ : ∃ s, s = gn X k + p := ⟨_, rfl⟩
                        obtain ⟨r, hr⟩ : ∃ r, r = s % m := ⟨_, rfl⟩
                        rw [← hp, ← hs, ← hr] at HST
                        have hpb : p ≤ 255 * 5 := by rw [hp]; exact Nat.mul_le_mul (by omega) (by omega)
                        have e1 : (ti : Int) * (gn Y k : Int) = (p : Int) := by rw [hp]; simp
                        have e2 : (gn X k : Int) + (p : Int) = (s : Int) := by omega
                        have e3 : (s : Int) % (m : Int) = (r : Int) := by rw [hr]; simp
                        have z11 : ((m : Int) == 0) = false := beq_eq_false_iff_ne.2 (by omega)
                        have z12 : (m : Int) ≠ 0 := by omega
                        generalize gn X k = fx at *
                        generalize gn Y k = fy at *
                        clear hp hs hr
                        go_upto_region 26 with fail
                        go_region
                        have HA := Lib.hid ((a24.set k (.int .i64 (r : Int))).drew)
                        rw [HST.out] at HA
                        have HBL := Lib.hid ((b24.setCell (p := ⟨B, k, none⟩) (Nat.le_refl _) (.int .i64 (r : Int))).drew)
                        clear a24 b24 dx dy fz za e1 e2 e3
                        go_wp2_with fail
                        go_roundg (K - (k + 1))
                        case measure => omega
                        case rel => exact ⟨k + 1, by omega, rfl, by go_num, HA.out, HBL.out⟩
                      · have z10 : ¬ ((k : Int) < (K : Int)) := by omega
                        have hkK : k = K := by omega
                        have HA := Lib.hid (show Arr wr B 3 (nc (smL m ti K X Y K)) by have h := a24; rw [hkK] at h; exact h)
                        clear hkK a24
                        rw [HBB.out] at b24
                        have hbz := hbq.trans (b24.mono hbq.size)
                        have q24 := q15.below b24 q15.lt
                        have HSI := Lib.hid (show Ints wr (.slice (some ⟨B, 0, none⟩) K K) (zs (smL m ti K X Y K)) from by
                          have h1 := Ints.of_spare (w := wr) (g := B) (c := K) (t := 3) (xs := smL m ti K X Y K) (Y := []) (by rw [List.append_nil]; exact HA.out) (by rw [smL_length]; exact Nat.le_refl _)
                          rwa [smL_length] at h1)
                        have HVS := Lib.hid (HVC.out _ (smL m ti K X Y K) wr HSI.out hbz (smL_length _ _ _ _ _ _) (fun j hj => by
                          rw [smL_length] at hj
                          rw [gn_smL hj, if_pos hj]; exact Nat.mod_lt _ (by omega)))
                        rw [HSU.out] at HVS
                        have y0 := q24.cell 0
                        have y1 := q24.cell 1
                        have y2 := q24.cell 2
                        go_wp2_with (go_at_call 26; refine HVS.out.mono ?_; rintro e w30 ⟨rfl, hb30⟩)
                        have hb31 := hbx.trans ((b24.trans (hb30.mono b24.size)).mono hbx.size)
                        go_roundg (fs.length - (i + 1))
                        case measure => omega
                        case rel => exact ⟨i + 1, by omega, rfl, by go_num, hb31⟩
                  · have z6 : ¬ ((i : Int) < (fs.length : Int)) := by omega
                    have z7 : (m : Int) ≤ (fs.length : Int) := by omega
                    go_wp2_with fail
                    go_ret
                    exact ⟨rfl, hb14'.trans (hbx.mono hb14'.size)⟩
theorem linear_row (vs vm : Value) (S M : List Int) (L : Int) (a ti : Int) (w : World) (hS : Ints w vs S) (hM : Ints w vm M) (ha : 0 ≤ a ∧ a ≤ 255) (hti : 0 ≤ ti ∧ ti ≤ 255) :
    Calls Try.prog 7 #[.agg #[vs, vm, .int .i64 L], .int .u8 a, .int .u8 ti] w fun e w' => e = .returned (.bool true) ∧ Below w.heap.size w w' := by
  obtain ⟨x, rfl⟩ : ∃ x : Nat, a = (x : Int) := ⟨a.toNat, by omega⟩
  obtain ⟨y, rfl⟩ : ∃ y : Nat, ti = (y : Int) := ⟨ti.toNat, by omega⟩
  exact linear_law vs vm S M L x y w hS hM (by omega) (by omega)
end Go.Proofs.Ytcjaloddgilnpaa
