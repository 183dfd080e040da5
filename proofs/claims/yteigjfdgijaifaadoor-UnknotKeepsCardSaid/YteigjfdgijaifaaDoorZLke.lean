/- The law UnknotKeeps: the walk. -/
import Derived.Test.YteigjfdgijaifaaDoorZLfi
import Derived.Test.YteigjfdgijaifaaDoorZRtw
namespace Go.Proofs.YteigjfdgijaifaaDoor
open Go.RowKit Go.Shelf
set_option linter.unusedVariables false

theorem valid_longB {X O : List Int} (h : 40 < X.length ∨ O.length ≠ X.length) : validB X O = false := by
  cases e : validB X O with
  | false => rfl
  | true =>
    have hv := (validB_iff X O).1 e
    have := hv.most
    have := hv.len
    omega
set_option maxHeartbeats 1000000 in
theorem valid_long (vx vo : Value) (X O : List Int) (w : World) (hX : Ints w vx X) (hO : Ints w vo O) (h : 40 < X.length ∨ O.length ≠ X.length) :
    Calls Tryd.prog 15 #[.agg #[vx, vo]] w fun e w' => e = .returned (.bool false) ∧ Below w.heap.size w w' := by
  have hX0 := hX
  have hO0 := hO
  obtain ⟨A, c, rfl, hc, hh⟩ := hX
  obtain ⟨A', c', rfl, hc', hh'⟩ := hO
  clear hh hh'
  by_cases t1 : X.length < 2
  · have z1 : (X.length : Int) < 2 := by omega
    clear h t1
    go_enter Tryd.func15, Tryd.ntmps15
    go_wp2_with fail
    go_ret
    exact ⟨rfl, (Below.refl _ _).alloc (Nat.le_refl _) _⟩
  have z1 : ¬ (X.length : Int) < 2 := by omega
  by_cases t2 : 40 < X.length
  · have z2 : (40 : Int) < (X.length : Int) := by omega
    clear h t2
    go_enter Tryd.func15, Tryd.ntmps15
    go_wp2_with fail
    go_ret
    exact ⟨rfl, (Below.refl _ _).alloc (Nat.le_refl _) _⟩
  have z2 : ¬ (40 : Int) < (X.length : Int) := by omega
  have t4 : ((O.length : Int) != (X.length : Int)) = true := by simp; omega
  go_enter Tryd.func15, Tryd.ntmps15
  go_wp2_with fail
  go_ret
  exact ⟨rfl, (Below.refl _ _).alloc (Nat.le_refl _) _⟩
set_option maxHeartbeats 1000000 in
theorem apply_long (vx vo : Value) (X O : List Int) (k : Int) (rows : Bool) (a v : Int) (w : World) (hX : Ints w vx X) (hO : Ints w vo O) (h : 40 < X.length ∨ O.length ≠ X.length) :
    Calls Tryd.prog 11 #[.agg #[vx, vo], .agg #[.int .i64 k, .bool rows, .int .i64 a, .int .i64 v]] w (GRes w.heap.size w (applyM X O k rows a v)) := by
  have hv := valid_longB h
  have hfin := Lib.hid (show applyM X O k rows a v = (1, [], []) by simp only [applyM]; rw [if_pos hv])
  have hX0 := hX
  have hO0 := hO
  obtain ⟨A, c, rfl, hc, hh⟩ := hX
  obtain ⟨A', c', rfl, hc', hh'⟩ := hO
  clear hh hh'
  go_enter Tryd.func11, Tryd.ntmps11
  go_wp2_with fail
  have hW : Arr (((w.alloc (.cells #[.slice A X.length c, .slice A' O.length c'] 26)).alloc (.cells #[.int .i64 k, .bool rows, .int .i64 a, .int .i64 v] 37)).alloc (.cells #[.slice none 0 0, .slice none 0 0] 26)) w.heap.size 26 [.slice A X.length c, .slice A' O.length c'] ∧ Arr (((w.alloc (.cells #[.slice A X.length c, .slice A' O.length c'] 26)).alloc (.cells #[.int .i64 k, .bool rows, .int .i64 a, .int .i64 v] 37)).alloc (.cells #[.slice none 0 0, .slice none 0 0] 26)) (w.heap.size + 1) 37 [.int .i64 k, .bool rows, .int .i64 a, .int .i64 v] ∧ Arr (((w.alloc (.cells #[.slice A X.length c, .slice A' O.length c'] 26)).alloc (.cells #[.int .i64 k, .bool rows, .int .i64 a, .int .i64 v] 37)).alloc (.cells #[.slice none 0 0, .slice none 0 0] 26)) (w.heap.size + 2) 26 [.slice none 0 0, .slice none 0 0] ∧ Below w.heap.size w (((w.alloc (.cells #[.slice A X.length c, .slice A' O.length c'] 26)).alloc (.cells #[.int .i64 k, .bool rows, .int .i64 a, .int .i64 v] 37)).alloc (.cells #[.slice none 0 0, .slice none 0 0] 26)) ∧ (((w.alloc (.cells #[.slice A X.length c, .slice A' O.length c'] 26)).alloc (.cells #[.int .i64 k, .bool rows, .int .i64 a, .int .i64 v] 37)).alloc (.cells #[.slice none 0 0, .slice none 0 0] 26)).heap.size = w.heap.size + 3 :=
    ⟨((Arr.new _ _ [_, _]).alloc _).alloc _, (Arr.newAt (w.alloc _) _ [_, _, _, _] _ (by simp)).alloc _, Arr.newAt ((w.alloc _).alloc _) _ [_, _] _ (by simp),
      (((Below.refl _ _).alloc (Nat.le_refl _) _).alloc (by simp) _).alloc (by simp <;> omega) _, by simp⟩
  generalize (((w.alloc (.cells #[.slice A X.length c, .slice A' O.length c'] 26)).alloc (.cells #[.int .i64 k, .bool rows, .int .i64 a, .int .i64 v] 37)).alloc (.cells #[.slice none 0 0, .slice none 0 0] 26)) = w4 at hW ⊢
  obtain ⟨q0, q1, q2, hb4, hs4⟩ := hW
  refine (valid_long _ _ X O _ (hX0.below hb4) (hO0.below hb4) h).mono ?_
  rintro e w5 ⟨rfl, hb5⟩
  have hbw5 := hb4.trans (hb5.mono hb4.size)
  have p0 := q0.below hb5 q0.lt
  have p1 := q1.below hb5 q1.lt
  have p2 := q2.below hb5 q2.lt
  have hsz := hb5.size
  rw [hs4] at hsz
  clear q0 q1 q2 hb5 hb4 hs4
  have y0 := p0.cell 0
  have y1 := p0.cell 1
  have z0 := p1.cell 0
  have z1 := p1.cell 1
  have z2 := p1.cell 2
  have z3 := p1.cell 3
  have y2 := p2.cell 0
  have y3 := p2.cell 1
  have y4 := p2.frozen 0
  have y5 := p2.frozen 1
  have hzr := Lib.hid ((p2.set 0 (.slice none 0 0)).set 1 (.slice none 0 0))
  go_wp2_with fail
  refine bodyPost_ret (v := .tuple #[.agg #[.slice none 0 0, .slice none 0 0], .int .i64 1]) (results_ct Tryd.results11 _ _ (w.heap.size + 2) 26 _ _ rfl hzr.out Tryd.underlying26 rfl info_grid) rfl ?_
  rw [hfin.out]
  exact GRes.err (by decide) (bset2 (r := w.heap.size + 2) hbw5 (by omega))


theorem apply_all (vx vo : Value) (X O : List Int) (k : Int) (rows : Bool) (a v : Int) (w : World) (hX : Ints w vx X) (hO : Ints w vo O) :
    Calls Tryd.prog 11 #[.agg #[vx, vo], .agg #[.int .i64 k, .bool rows, .int .i64 a, .int .i64 v]] w (GRes w.heap.size w (applyM X O k rows a v)) := by
  by_cases h : 40 < X.length ∨ O.length ≠ X.length
  · exact apply_long vx vo X O k rows a v w hX hO h
  · exact apply_any vx vo X O k rows a v w hX hO (by omega) (by omega)
theorem app_len1 {X O Y P : List Int} {k a v : Int} {r : Bool} (h : applyM X O k r a v = (0, Y, P)) : Y.length ≤ X.length + 1 := by
  by_cases hk : k = 4
  · subst hk
    obtain ⟨hv, hr, Y', P', hc, rfl, rfl⟩ := applyM_inv h
    have hlv : (vw r X).length = X.length := vw_length _ _
    have ha : a.toNat ≤ (vw r X).length := by have := hr.2.1; simp [limAt] at this; omega
    rw [vw_length]
    unfold colsL at hc
    rw [if_neg (by decide), if_neg (by decide), if_neg (by decide)] at hc
    split at hc
    · injection hc with hc _; cases hc
    · injection hc with _ hc
      injection hc with eY eP
      rw [← eY, addL_length _ _ _ _ _ ha]; omega
  · have := app_len hk h
    omega
/-- what Decide answers of a small grid with one component -/
def DuP (g : Gd) (w : World) (e : Ending) (w' : World) : Prop :=
  Below w.heap.size w w' ∧ ∃ (b : Bool) (A : Option Addr) (m cc : Nat) (n' code : Int), e = .returned (.tuple #[.agg #[.bool b, .slice A m cc, .int .i64 n'], .int .i64 code]) ∧ (code = 13 ∨ code = 0 ∧ (b = true ↔ DU g))
theorem decide_du (va vb : Value) (X O : List Int) (w : World) (hX : Ints w va X) (hO : Ints w vb O) (hv : VdG (X, O)) (h6 : X.length ≤ 6) (hc : comp X O = 1) (ht : Tb w) :
    Calls Tryd.prog 10 #[.agg #[va, vb], .int .i64 5000] w (DuP (X, O) w) := by
  have hl : X.length = O.length := hv.len
  refine (Decide_any va vb X O 5000 w hX hO (by omega) (by omega) (by decide) ht).mono ?_
  rintro e w' ⟨hb, hc'⟩
  refine ⟨hb, ?_⟩
  rcases hc' with ⟨h, _⟩ | ⟨_, h, _⟩ | ⟨_, _, r, hr, h⟩
  · exact absurd hv h
  · simp only at h; omega
  · rcases h with ⟨rfl, rfl⟩ | ⟨K, rfl, rfl⟩ | ⟨K, c, L, a, v, rfl, _, _, _, _, hm, rfl⟩
    · exact ⟨_, _, _, _, _, _, rfl, .inl rfl⟩
    · refine ⟨_, _, _, _, _, _, rfl, .inr ⟨rfl, ?_⟩⟩
      constructor
      · intro h; cases h
      · intro h
        exact absurd ((Exq.pl (g := (X, O)) hv hr).1 K rfl) (no_done hv h6 hc h)
    · obtain ⟨A, c', rfl, _⟩ := hm
      refine ⟨_, _, _, _, _, _, rfl, .inr ⟨rfl, ?_⟩⟩
      have := found_du hv ((Exq.pl (g := (X, O)) hv hr).2 K c rfl)
      simp [this]
set_option maxHeartbeats 4000000 in
set_option maxRecDepth 100000 in
theorem keeps_law (v0 v1 : Value) (X O : List Int) (k : Int) (r : Bool) (a v : Int) (w : World) (hX : Ints w v0 X) (hO : Ints w v1 O) (ht : Tb w) :
    Calls Tryd.prog 4 #[.agg #[v0, v1], .agg #[.int .i64 k, .bool r, .int .i64 a, .int .i64 v]] w fun e w' => e = .returned (.bool true) ∧ Below w.heap.size w w' := by
  have HT := Lib.hid (fun W (hb : Below w.heap.size w W) => ht.below hb)
  have HX := Lib.hid (fun W (hb : Below w.heap.size w W) => hX.below hb)
  have HO := Lib.hid (fun W (hb : Below w.heap.size w W) => hO.below hb)
  obtain ⟨A0, c0, rfl, -, -⟩ := hX
  obtain ⟨A1, c1, rfl, -, -⟩ := hO
  clear ht
  go_enter Tryd.func4, Tryd.ntmps4
  go_upto_region 1 with fail
  have hal := ((Below.refl w.heap.size w).alloc (Nat.le_refl _) (.cells #[.slice A0 X.length c0, .slice A1 O.length c1] 26)).alloc (by simp only [World.size_alloc]; omega) (.cells #[.int .i64 k, .bool r, .int .i64 a, .int .i64 v] 37)
  have YG := Lib.hid (show Arr ((w.alloc (.cells #[.slice A0 X.length c0, .slice A1 O.length c1] 26)).alloc (.cells #[.int .i64 k, .bool r, .int .i64 a, .int .i64 v] 37)) w.heap.size 26 [.slice A0 X.length c0, .slice A1 O.length c1] from (Arr.new w _ [_, _]).alloc _)
  have YM := Lib.hid (show Arr ((w.alloc (.cells #[.slice A0 X.length c0, .slice A1 O.length c1] 26)).alloc (.cells #[.int .i64 k, .bool r, .int .i64 a, .int .i64 v] 37)) (w.heap.size + 1) 37 [.int .i64 k, .bool r, .int .i64 a, .int .i64 v] from Arr.newAt (w.alloc _) _ [_, _, _, _] _ (by simp))
  have HB1 := Lib.hid hal
  generalize (w.alloc (.cells #[.slice A0 X.length c0, .slice A1 O.length c1] 26)).alloc (.cells #[.int .i64 k, .bool r, .int .i64 a, .int .i64 v] 37) = w1 at YG YM HB1 ⊢
  clear hal
  have HAW := Lib.hid (awake45 w1 (HT.out _ HB1.out))
  go_upto_region 3 with (go_at_call 7; refine HAW.out.mono ?_; rintro e2 w2 ⟨rfl, hb2⟩)
  have HB2 := Lib.hid (HB1.out.trans (hb2.mono HB1.out.size))
  have YG2 := Lib.hid (YG.out.below hb2 YG.out.lt)
  have YM2 := Lib.hid (YM.out.below hb2 YM.out.lt)
  clear hb2 YG YM HB1 HAW
  have y0 := YG2.out.cell 0
  have y1 := YG2.out.cell 1
  have z0 := YM2.out.cell 0
  have z1 := YM2.out.cell 1
  have z2 := YM2.out.cell 2
  have z3 := YM2.out.cell 3
  have HAP := Lib.hid (apply_all _ _ X O k r a v w2 (HX.out _ HB2.out) (HO.out _ HB2.out))
  obtain ⟨res, hres⟩ : ∃ res, res = applyM X O k r a v := ⟨_, rfl⟩
  have HRES := Lib.hid hres
  rw [← hres] at HAP
  clear hres
  go_wp2_with fail
  refine HAP.out.mono ?_
  rintro e3 w3 ⟨hb3, gv, rfl, hgv⟩
  have HB3 := Lib.hid (HB2.out.trans (hb3.mono HB2.out.size))
  have YG3 := Lib.hid (YG2.out.below hb3 YG2.out.lt)
  have hgv' : ∃ (P0 : Option Addr) (p0 q0 : Nat) (P1 : Option Addr) (p1 q1 : Nat), gv = .agg #[.slice P0 p0 q0, .slice P1 p1 q1] ∧ (res.1 = 0 → Ints w3 (.slice P0 p0 q0) res.2.1 ∧ Ints w3 (.slice P1 p1 q1) res.2.2) := by
    by_cases h0 : res.1 = 0
    · rw [if_pos h0] at hgv
      obtain ⟨gx, go, rfl, _, _, _, h1, h2⟩ := hgv
      exact ⟨_, _, _, _, _, _, rfl, fun _ => ⟨Ints.of_arr h1, Ints.of_arr h2⟩⟩
    · rw [if_neg h0] at hgv
      exact ⟨_, _, _, _, _, _, hgv, fun h => absurd h h0⟩
  clear hgv
  obtain ⟨P0, p0, q0, P1, p1, q1, rfl, hz⟩ := hgv'
  clear y0 y1 z0 z1 z2 z3 YG2 YM2 HAP hb3
  have hal := (Below.refl w3.heap.size w3).alloc (Nat.le_refl _) (.cells #[.slice P0 p0 q0, .slice P1 p1 q1] 26)
  have HZ := Lib.hid (fun h => (⟨(hz h).1.below hal, (hz h).2.below hal⟩ : Ints (w3.alloc (.cells #[.slice P0 p0 q0, .slice P1 p1 q1] 26)) (.slice P0 p0 q0) res.2.1 ∧ Ints (w3.alloc (.cells #[.slice P0 p0 q0, .slice P1 p1 q1] 26)) (.slice P1 p1 q1) res.2.2))
  clear hz
  obtain ⟨code, hcode⟩ : ∃ x, x = res.1 := ⟨_, rfl⟩
  have HCD := Lib.hid hcode
  rw [← hcode]
  clear hcode
  go_upto_region 4 with fail
  have YX := Lib.hid (show Arr (w3.alloc (.cells #[.slice P0 p0 q0, .slice P1 p1 q1] 26)) w3.heap.size 26 [.slice P0 p0 q0, .slice P1 p1 q1] from Arr.new w3 _ [_, _])
  have YG4 := Lib.hid (YG3.out.below hal YG3.out.lt)
  have HB4 := Lib.hid (HB3.out.trans (hal.mono HB3.out.size))
  generalize w3.alloc (.cells #[.slice P0 p0 q0, .slice P1 p1 q1] 26) = w4 at HZ YX YG4 HB4 ⊢
  generalize w3.heap.size = bX at YX ⊢
  clear hal YG3 HB3
  have y0 := YG4.out.cell 0
  have y1 := YG4.out.cell 1
  have hg := great45_any A0 A1 X.length c0 O.length c1 5 w4
  obtain ⟨gb, hgb⟩ : ∃ gb, gb = (decide ((5 : Int) < (X.length : Int)) || decide ((5 : Int) < (O.length : Int))) := ⟨_, rfl⟩
  rw [← hgb] at hg
  have HGB := Lib.hid hgb
  have HG := Lib.hid hg
  clear hg hgb
  go_wp2_with (fail)
  refine HG.out.mono ?_
  rintro e5 w5 ⟨rfl, hb5⟩
  have HB5 := Lib.hid (HB4.out.trans (hb5.mono HB4.out.size))
  have YX5 := Lib.hid (YX.out.below hb5 YX.out.lt)
  have YG5 := Lib.hid (YG4.out.below hb5 YG4.out.lt)
  have HZ5 := Lib.hid (fun h => (⟨(HZ.out h).1.below hb5, (HZ.out h).2.below hb5⟩ : Ints w5 (.slice P0 p0 q0) res.2.1 ∧ Ints w5 (.slice P1 p1 q1) res.2.2))
  clear hb5 HG y0 y1 YG4 YX HZ HB4
  cases gb with
  | true =>
    go_wp2_with fail
    go_ret
    exact ⟨rfl, HB5.out⟩
  | false =>
    by_cases h0 : code = 0
    · have HC0 := Lib.hid h0
      subst h0
      have hfacts : VdG (X, O) ∧ X.length ≤ 5 ∧ VdG (res.2.1, res.2.2) ∧ Same2 (X, O) (res.2.1, res.2.2) ∧ res.2.1.length ≤ 6 ∧ comp res.2.1 res.2.2 = comp X O := by
        have happ : applyM X O k r a v = (0, res.2.1, res.2.2) := by rw [← HRES.out, HCD.out]
        have h1 := app_len1 happ
        have h5 := HGB.out
        simp only [Bool.false_eq, Bool.or_eq_false_iff, decide_eq_false_iff_not] at h5
        exact ⟨(applyM_inv happ).1, by omega, applyM_res_vd happ, apply_same happ, by omega, comp_apply happ⟩
      obtain ⟨hvd, h5, hvz, hsm, h6, hcz⟩ := hfacts
      have HVD := Lib.hid hvd
      have H5 := Lib.hid h5
      have HVZ := Lib.hid hvz
      have HSM := Lib.hid hsm
      have H6 := Lib.hid h6
      have HCZ := Lib.hid hcz
      clear hvd h5 hvz hsm h6 hcz HC0
      have y0 := YG5.out.cell 0
      have y1 := YG5.out.cell 1
      have HCM := Lib.hid (components_any _ _ X O w5 (HX.out _ HB5.out) (HO.out _ HB5.out) HVD.out)
      obtain ⟨cm, hcm⟩ : ∃ x, x = comp X O := ⟨_, rfl⟩
      rw [← hcm] at HCM
      have HM := Lib.hid hcm
      clear hcm
      go_wp2_with fail
      refine HCM.out.mono ?_
      rintro e6 w6 ⟨rfl, hb6⟩
      have HB6 := Lib.hid (HB5.out.trans (hb6.mono HB5.out.size))
      have YX6 := Lib.hid (YX5.out.below hb6 YX5.out.lt)
      have YG6 := Lib.hid (YG5.out.below hb6 YG5.out.lt)
      have HZ6 := Lib.hid (⟨(HZ5.out HCD.out.symm).1.below hb6, (HZ5.out HCD.out.symm).2.below hb6⟩ : Ints w6 (.slice P0 p0 q0) res.2.1 ∧ Ints w6 (.slice P1 p1 q1) res.2.2)
      clear hb6 HCM y0 y1 YG5 YX5 HZ5 HB5
      by_cases h1 : cm = 1
      · subst h1
        have y0 := YG6.out.cell 0
        have y1 := YG6.out.cell 1
        have HRT := Lib.hid (rotate_any _ _ X O w6 (HX.out _ HB6.out) (HO.out _ HB6.out) HVD.out)
        obtain ⟨R0, R1, hR⟩ : ∃ R0 R1, ((R0, R1) : Gd) = rotG (X, O) := ⟨_, _, rfl⟩
        have e0 : (tr O).reverse = R0 := (congrArg Prod.fst hR).symm
        have e1 : (tr X).reverse = R1 := (congrArg Prod.snd hR).symm
        rw [e0, e1] at HRT
        have HRF := Lib.hid (show VdG (R0, R1) ∧ R0.length = X.length ∧ comp R0 R1 = comp X O ∧ Same2 (X, O) (R0, R1) by rw [show R0 = (rotG (X, O)).1 from e0.symm, show R1 = (rotG (X, O)).2 from e1.symm]; exact rot_facts HVD.out)
        clear hR e0 e1
        go_wp2_with fail
        refine HRT.out.mono ?_
        rintro e7 w7 ⟨rv, rfl, ⟨gx, go, rfl, _, _, _, hr1, hr2⟩, hb7⟩
        have HB7 := Lib.hid (HB6.out.trans (hb7.mono HB6.out.size))
        have hal := (Below.refl w7.heap.size w7).alloc (Nat.le_refl _) (.cells #[.slice (some ⟨gx, 0, none⟩) R0.length R0.length, .slice (some ⟨go, 0, none⟩) R1.length R1.length] 26)
        have HB8 := Lib.hid (HB7.out.trans (hal.mono HB7.out.size))
        have YR8 := Lib.hid (show Arr (w7.alloc (.cells #[.slice (some ⟨gx, 0, none⟩) R0.length R0.length, .slice (some ⟨go, 0, none⟩) R1.length R1.length] 26)) w7.heap.size 26 [.slice (some ⟨gx, 0, none⟩) R0.length R0.length, .slice (some ⟨go, 0, none⟩) R1.length R1.length] from Arr.new w7 _ [_, _])
        have YX8 := Lib.hid ((YX6.out.below hb7 YX6.out.lt).below hal (YX6.out.below hb7 YX6.out.lt).lt)
        have YG8 := Lib.hid ((YG6.out.below hb7 YG6.out.lt).below hal (YG6.out.below hb7 YG6.out.lt).lt)
        have HZ8 := Lib.hid (⟨(HZ6.out.1.below hb7).below hal, (HZ6.out.2.below hb7).below hal⟩ : Ints (w7.alloc (.cells #[.slice (some ⟨gx, 0, none⟩) R0.length R0.length, .slice (some ⟨go, 0, none⟩) R1.length R1.length] 26)) (.slice P0 p0 q0) res.2.1 ∧ Ints (w7.alloc (.cells #[.slice (some ⟨gx, 0, none⟩) R0.length R0.length, .slice (some ⟨go, 0, none⟩) R1.length R1.length] 26)) (.slice P1 p1 q1) res.2.2)
        have HR8 := Lib.hid (⟨(Ints.of_arr hr1).below hal, (Ints.of_arr hr2).below hal⟩ : Ints (w7.alloc (.cells #[.slice (some ⟨gx, 0, none⟩) R0.length R0.length, .slice (some ⟨go, 0, none⟩) R1.length R1.length] 26)) (.slice (some ⟨gx, 0, none⟩) R0.length R0.length) R0 ∧ Ints (w7.alloc (.cells #[.slice (some ⟨gx, 0, none⟩) R0.length R0.length, .slice (some ⟨go, 0, none⟩) R1.length R1.length] 26)) (.slice (some ⟨go, 0, none⟩) R1.length R1.length) R1)
        clear hb7 HRT y0 y1 YG6 YX6 HZ6 HB6 HB7 hr1 hr2
        go_upto_region 7 with fail
        generalize w7.alloc (.cells #[.slice (some ⟨gx, 0, none⟩) R0.length R0.length, .slice (some ⟨go, 0, none⟩) R1.length R1.length] 26) = w8 at HB8 YR8 YX8 YG8 HZ8 HR8 ⊢
        generalize w7.heap.size = bR at YR8 ⊢
        clear hal
        have y0 := YG8.out.cell 0
        have y1 := YG8.out.cell 1
        have HD := Lib.hid (decide_du _ _ X O w8 (HX.out _ HB8.out) (HO.out _ HB8.out) HVD.out (by have := H5.out; omega) HM.out.symm (HT.out _ HB8.out))
        go_wp2_with fail
        refine HD.out.mono ?_
        rintro e9 w9 ⟨hb9, b1, D1, m1, k1, n1, cd1, rfl, hcd1⟩
        have HC1 := Lib.hid hcd1
        have hal := (Below.refl w9.heap.size w9).alloc (Nat.le_refl _) (.cells #[.bool b1, .slice D1 m1 k1, .int .i64 n1] 32)
        have HB9 := Lib.hid ((HB8.out.trans (hb9.mono HB8.out.size)).trans (hal.mono (HB8.out.trans (hb9.mono HB8.out.size)).size))
        have YV9 := Lib.hid (show Arr (w9.alloc (.cells #[.bool b1, .slice D1 m1 k1, .int .i64 n1] 32)) w9.heap.size 32 [.bool b1, .slice D1 m1 k1, .int .i64 n1] from Arr.new w9 _ [_, _, _])
        have YX9 := Lib.hid ((YX8.out.below hb9 YX8.out.lt).below hal (YX8.out.below hb9 YX8.out.lt).lt)
        have YR9 := Lib.hid ((YR8.out.below hb9 YR8.out.lt).below hal (YR8.out.below hb9 YR8.out.lt).lt)
        have HZ9 := Lib.hid (And.intro ((HZ8.out.1.below hb9).below hal) ((HZ8.out.2.below hb9).below hal))
        have HR9 := Lib.hid (And.intro ((HR8.out.1.below hb9).below hal) ((HR8.out.2.below hb9).below hal))
        clear hb9 hcd1 HD y0 y1 YG8 YX8 YR8 HZ8 HR8 HB8
        go_upto_region 8 with fail
        generalize w9.alloc (.cells #[.bool b1, .slice D1 m1 k1, .int .i64 n1] 32) = w10 at HB9 YV9 YX9 YR9 HZ9 HR9 ⊢
        generalize w9.heap.size = bV at YV9 ⊢
        clear hal
        have y0 := YX9.out.cell 0
        have y1 := YX9.out.cell 1
        have HD := Lib.hid (decide_du _ _ res.2.1 res.2.2 w10 HZ9.out.1 HZ9.out.2 HVZ.out H6.out (HCZ.out.trans HM.out.symm) (HT.out _ HB9.out))
        go_wp2_with fail
        refine HD.out.mono ?_
        rintro e11 w11 ⟨hb11, b2, D2, m2, k2, n2, cd2, rfl, hcd2⟩
        have HC2 := Lib.hid hcd2
        have hal := (Below.refl w11.heap.size w11).alloc (Nat.le_refl _) (.cells #[.bool b2, .slice D2 m2 k2, .int .i64 n2] 32)
        have HB11 := Lib.hid ((HB9.out.trans (hb11.mono HB9.out.size)).trans (hal.mono (HB9.out.trans (hb11.mono HB9.out.size)).size))
        have YU11 := Lib.hid (show Arr (w11.alloc (.cells #[.bool b2, .slice D2 m2 k2, .int .i64 n2] 32)) w11.heap.size 32 [.bool b2, .slice D2 m2 k2, .int .i64 n2] from Arr.new w11 _ [_, _, _])
        have YV11 := Lib.hid ((YV9.out.below hb11 YV9.out.lt).below hal (YV9.out.below hb11 YV9.out.lt).lt)
        have YR11 := Lib.hid ((YR9.out.below hb11 YR9.out.lt).below hal (YR9.out.below hb11 YR9.out.lt).lt)
        have HR11 := Lib.hid (And.intro ((HR9.out.1.below hb11).below hal) ((HR9.out.2.below hb11).below hal))
        clear hb11 hcd2 HD y0 y1 YX9 YR9 YV9 HZ9 HR9 HB9
        go_upto_region 9 with fail
        generalize w11.alloc (.cells #[.bool b2, .slice D2 m2 k2, .int .i64 n2] 32) = w12 at HB11 YU11 YV11 YR11 HR11 ⊢
        generalize w11.heap.size = bU at YU11 ⊢
        clear hal
        have y0 := YR11.out.cell 0
        have y1 := YR11.out.cell 1
        have HD := Lib.hid (decide_du _ _ _ _ w12 HR11.out.1 HR11.out.2 HRF.out.1 (by have h1 := HRF.out.2.1; have := H5.out; omega) (HRF.out.2.2.1.trans HM.out.symm) (HT.out _ HB11.out))
        go_wp2_with fail
        refine HD.out.mono ?_
        rintro e13 w13 ⟨hb13, b3, D3, m3, k3, n3, cd3, rfl, hcd3⟩
        have HC3 := Lib.hid hcd3
        have HB13 := Lib.hid (HB11.out.trans (hb13.mono HB11.out.size))
        have YU13 := (YU11.out.below hb13 YU11.out.lt).alloc (.cells #[.bool b3, .slice D3 m3 k3, .int .i64 n3] 32)
        have YV13 := (YV11.out.below hb13 YV11.out.lt).alloc (.cells #[.bool b3, .slice D3 m3 k3, .int .i64 n3] 32)
        have HB14 := Lib.hid (HB13.out.alloc HB13.out.size (.cells #[.bool b3, .slice D3 m3 k3, .int .i64 n3] 32))
        have u0 := YU13.cell 0
        have v0 := YV13.cell 0
        clear hb13 hcd3 HD y0 y1 YU11 YV11 YR11 HR11 HB11 YU13 YV13
        by_cases e1 : cd1 = 13
        · subst e1
          go_wp2_with fail
          go_ret
          exact ⟨rfl, HB14.out⟩
        by_cases e2 : cd2 = 13
        · subst e2
          go_wp2_with fail
          go_ret
          exact ⟨rfl, HB14.out⟩
        by_cases e3 : cd3 = 13
        · subst e3
          go_wp2_with fail
          go_ret
          exact ⟨rfl, HB14.out⟩
        obtain ⟨rfl, i1⟩ := HC1.out.resolve_left e1
        obtain ⟨rfl, i2⟩ := HC2.out.resolve_left e2
        obtain ⟨rfl, i3⟩ := HC3.out.resolve_left e3
        have hb12 : b2 = b1 := Bool.eq_iff_iff.2 (i2.trans ((DU_iff HSM.out).symm.trans i1.symm))
        have hb13 : b3 = b1 := Bool.eq_iff_iff.2 (i3.trans ((DU_iff HRF.out.2.2.2).symm.trans i1.symm))
        subst hb12 hb13
        clear i1 i2 i3 HC1 HC2 HC3 e1 e2 e3
        go_wp2_with fail
        go_ret
        exact ⟨by simp, HB14.out⟩
      · have z1 : (cm != 1) = true := by simp [h1]
        go_wp2_with fail
        go_ret
        exact ⟨rfl, HB6.out⟩
    · have z1 : (code != 0) = true := by simp [h0]
      go_wp2_with fail
      go_ret
      exact ⟨rfl, HB5.out⟩
end Go.Proofs.YteigjfdgijaifaaDoor
