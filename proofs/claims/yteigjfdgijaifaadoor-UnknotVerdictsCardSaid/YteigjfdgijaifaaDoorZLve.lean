/- The law UnknotVerdicts: the walk. -/
import Derived.Test.YteigjfdgijaifaaDoorZVer
namespace Go.Proofs.YteigjfdgijaifaaDoor
open Go.RowKit Go.Shelf
set_option linter.unusedVariables false

theorem pls_play2 {g z : Gd} {ms : List Mv} (hv : VdG g) (h : Pls g ms z) : playM g.1 g.2 ms = (0, z.1, z.2, -1) := by
  unfold playM
  rw [if_neg (by rw [(validB_iff _ _).2 hv]; simp)]
  exact h.1 0
/-- what Decide and Reached say together of a small grid -/
def VvP (g : Gd) (bt : Bool) (A : Option Addr) (n c : Nat) (k : Int) (gs : List Gd) (Mvs : List Mv → Prop) : Prop :=
  ClP g gs ∧ (∀ h ∈ gs, VdG h) ∧ twoB gs = bt ∧ gs.length ≤ 5000 ∧ ((bt = false ∧ n = 0 ∧ k = (gs.length : Int)) ∨ bt = true ∧ k = 0 ∧ ∃ ms a, Mvs ms ∧ Pls g ms a ∧ a.1.length = 2 ∧ ms.length ≤ 10000 ∧ ∀ m ∈ ms, m.k ≠ 4)
theorem vv_of {X O : List Int} {w1 w1' w2 : World} {e1 e2 : Ending} {w : World} (hv : VdG (X, O)) (h5 : X.length ≤ 5) (hc : comp X O ≤ 1) (h1 : DecP 5000 (X, O) w e1 w1) (h2 : ReP 5000 (X, O) w1' e2 w2) :
    ∃ (bt : Bool) (A : Option Addr) (n c : Nat) (k : Int) (Al : Option Addr) (cl : Nat) (gs : List Gd), e1 = .returned (.tuple #[.agg #[.bool bt, .slice A n c, .int .i64 k], .int .i64 0]) ∧ e2 = .returned (.tuple #[.slice Al gs.length cl, .int .i64 0]) ∧ Gds w2 (.slice Al gs.length cl) gs ∧ VvP (X, O) bt A n c k gs (fun ms => Moves w1 (.slice A n c) ms) := by
  have hpos := comp_pos hv
  have hc1 : comp (X, O).1 (X, O).2 = 1 := by simp only at hpos ⊢; omega
  have h6 : (X, O).1.length ≤ 6 := by show X.length ≤ 6; omega
  rcases h2.2 with ⟨h, _⟩ | ⟨_, h, _⟩ | ⟨_, _, r2, hr2, ⟨rfl, _⟩ | ⟨K, v, gs, rfl, hp, _, hg, rfl⟩⟩
  · exact absurd hv h
  · simp only at h; omega
  · exact absurd hr2 (room5 (g := (X, O)) hv h5 (by decide))
  · have hm5 := hr2.most K (.inl rfl)
    have e5 : (5000 : Int).toNat = 5000 := rfl
    have hdn := (Exq.pl (g := (X, O)) hv hr2).1 K rfl
    have hlen : gs.length = K.length := by rw [hp.length_eq, List.length_map]
    obtain ⟨Al, cl, rfl, hcl⟩ := hg
    rcases h1.2 with ⟨h, _⟩ | ⟨_, h, _⟩ | ⟨_, _, r1, hr1, ⟨rfl, _⟩ | ⟨K1, rfl, rfl⟩ | ⟨K1, c, L, a, v, rfl, hL, hlf, hpl, ha2, hmv, rfl⟩⟩
    · exact absurd hv h
    · simp only at h; omega
    · exact absurd hr1 (room5 (g := (X, O)) hv h5 (by decide))
    · rcases Exq.other hr2 hr1 with ⟨h, _⟩ | h | ⟨_, _, _, h⟩
      · cases h
      · injection h with h
        subst h
        exact ⟨false, none, 0, 0, _, Al, cl, gs, rfl, rfl, ⟨Al, cl, rfl, hcl⟩, ver_closed hv hdn hp, ver_vd hdn hp, ver_two_no ((Exq.pl (g := (X, O)) hv hr1).1 K1 rfl) hp, by omega, .inl ⟨rfl, rfl, by rw [hlen]⟩⟩
      · cases h
    · have hfd := (Exq.pl (g := (X, O)) hv hr1).2 K1 c rfl
      obtain ⟨A, c', rfl, hmx⟩ := hmv
      refine ⟨true, A, _, c', 0, Al, cl, gs, rfl, rfl, ⟨Al, cl, rfl, hcl⟩, ver_closed hv hdn hp, ver_vd hdn hp, ver_two_yes hv h6 hc1 (found_du hv hfd) hdn hp, by omega, .inr ⟨rfl, rfl, _, a, ⟨A, c', rfl, hmx⟩, hpl, ha2, ?_, ver_ms hfd hL⟩⟩
      have : L.reverse.flatten.length = L.flatten.length := by rw [List.length_flatten, List.map_reverse, List.sum_reverse, ← List.length_flatten]
      rw [this]
      omega
theorem vd_inj {b b' : Bool} {A A' : Option Addr} {n n' c c' : Nat} {k k' cd cd' : Int} (h : Ending.returned (.tuple #[.agg #[.bool b, .slice A n c, .int .i64 k], .int .i64 cd]) = .returned (.tuple #[.agg #[.bool b', .slice A' n' c', .int .i64 k'], .int .i64 cd'])) : b = b' ∧ A = A' ∧ n = n' ∧ c = c' ∧ k = k' ∧ cd = cd' := by
  injection h with h
  injection h with h
  have h1 := congrArg (fun a => a[0]?) h
  have h2 := congrArg (fun a => a[1]?) h
  simp at h1 h2
  obtain ⟨a, ⟨b1, b2, b3⟩, c1⟩ := h1
  exact ⟨a, b1, b2, b3, c1, h2⟩
theorem dec_bad {g : Gd} {w w' : World} {e : Ending} {ec : Int} (h : DecP 5000 g w e w') (hb : (¬ VdG g ∧ ec = 1) ∨ (VdG g ∧ 1 < comp g.1 g.2 ∧ ec = 16)) : e = .returned (.tuple #[.agg #[.bool false, .slice none 0 0, .int .i64 0], .int .i64 ec]) := by
  rcases hb with ⟨h1, rfl⟩ | ⟨h1, h2, rfl⟩
  · rcases h.2 with ⟨_, h⟩ | ⟨h, _⟩ | ⟨h, _⟩
    · exact h
    · exact absurd h h1
    · exact absurd h h1
  · rcases h.2 with ⟨h, _⟩ | ⟨_, _, h⟩ | ⟨_, h, _⟩
    · exact absurd h1 h
    · exact h
    · omega
theorem rea_bad {g : Gd} {w w' : World} {e : Ending} {ec : Int} (h : ReP 5000 g w e w') (hb : (¬ VdG g ∧ ec = 1) ∨ (VdG g ∧ 1 < comp g.1 g.2 ∧ ec = 16)) : e = .returned (.tuple #[.slice none 0 0, .int .i64 ec]) := by
  rcases hb with ⟨h1, rfl⟩ | ⟨h1, h2, rfl⟩
  · rcases h.2 with ⟨_, h⟩ | ⟨h, _⟩ | ⟨h, _⟩
    · exact h
    · exact absurd h h1
    · exact absurd h h1
  · rcases h.2 with ⟨h, _⟩ | ⟨_, _, h⟩ | ⟨_, h, _⟩
    · exact absurd h1 h
    · exact h
    · omega
set_option maxHeartbeats 8000000 in
set_option maxRecDepth 100000 in
theorem verdicts_law (v0 v1 : Value) (X O : List Int) (w : World) (hX : Ints w v0 X) (hO : Ints w v1 O) (ht : Tb w) :
    Calls Tryd.prog 6 #[.agg #[v0, v1]] w fun e w' => e = .returned (.bool true) ∧ Below w.heap.size w w' := by
  have HT := Lib.hid (fun W (hb : Below w.heap.size w W) => ht.below hb)
  have HX := Lib.hid (fun W (hb : Below w.heap.size w W) => hX.below hb)
  have HO := Lib.hid (fun W (hb : Below w.heap.size w W) => hO.below hb)
  obtain ⟨A0, c0, rfl, -, -⟩ := hX
  obtain ⟨A1, c1, rfl, -, -⟩ := hO
  clear ht
  go_enter Tryd.func6, Tryd.ntmps6
  go_upto_region 1 with fail
  have hal := (Below.refl w.heap.size w).alloc (Nat.le_refl _) (.cells #[.slice A0 X.length c0, .slice A1 O.length c1] 26)
  have YG := Lib.hid (show Arr (w.alloc (.cells #[.slice A0 X.length c0, .slice A1 O.length c1] 26)) w.heap.size 26 [.slice A0 X.length c0, .slice A1 O.length c1] from Arr.new w _ [_, _])
  have HB1 := Lib.hid hal
  generalize w.alloc (.cells #[.slice A0 X.length c0, .slice A1 O.length c1] 26) = w1 at YG HB1 ⊢
  clear hal
  have HAW := Lib.hid (awake45 w1 (HT.out _ HB1.out))
  go_upto_region 3 with (go_at_call 7; refine HAW.out.mono ?_; rintro e2 w2 ⟨rfl, hb2⟩)
  have HB2 := Lib.hid (HB1.out.trans (hb2.mono HB1.out.size))
  have YG2 := Lib.hid (YG.out.below hb2 YG.out.lt)
  clear hb2 YG HB1 HAW
  have y0 := YG2.out.cell 0
  have y1 := YG2.out.cell 1
  have hg := great45_any A0 A1 X.length c0 O.length c1 5 w2
  obtain ⟨gb, hgb⟩ : ∃ gb, gb = (decide ((5 : Int) < (X.length : Int)) || decide ((5 : Int) < (O.length : Int))) := ⟨_, rfl⟩
  rw [← hgb] at hg
  have HGB := Lib.hid hgb
  have HG := Lib.hid hg
  clear hg hgb
  go_wp2_with (fail)
  refine HG.out.mono ?_
  rintro e3 w3 ⟨rfl, hb3⟩
  have HB3 := Lib.hid (HB2.out.trans (hb3.mono HB2.out.size))
  have YG3 := Lib.hid (YG2.out.below hb3 YG2.out.lt)
  clear hb3 HG y0 y1 YG2 HB2
  cases gb with
  | true =>
    go_wp2_with fail
    go_ret
    exact ⟨rfl, HB3.out⟩
  | false =>
    have h5 : X.length ≤ 5 ∧ O.length ≤ 5 := by
      have h5 := HGB.out
      simp only [Bool.false_eq, Bool.or_eq_false_iff, decide_eq_false_iff_not] at h5
      omega
    have H5 := Lib.hid h5
    clear h5 HGB
    have y0 := YG3.out.cell 0
    have y1 := YG3.out.cell 1
    have HD := Lib.hid (Decide_any _ _ X O 5000 w3 (HX.out _ HB3.out) (HO.out _ HB3.out) (by have := H5.out; omega) (by have := H5.out; omega) (by decide) (HT.out _ HB3.out))
    go_wp2_with fail
    refine HD.out.mono ?_
    rintro e4 w4 hd4
    have HDP := Lib.hid hd4
    have hform : ∃ (bt : Bool) (A : Option Addr) (n c : Nat) (k cd : Int), e4 = .returned (.tuple #[.agg #[.bool bt, .slice A n c, .int .i64 k], .int .i64 cd]) := by
      rcases hd4.2 with ⟨_, rfl⟩ | ⟨_, _, rfl⟩ | ⟨_, _, r, _, ⟨_, rfl⟩ | ⟨K, _, rfl⟩ | ⟨K, c, L, a, v, _, _, _, _, _, hmv, rfl⟩⟩
      · exact ⟨_, _, _, _, _, _, rfl⟩
      · exact ⟨_, _, _, _, _, _, rfl⟩
      · exact ⟨_, _, _, _, _, _, rfl⟩
      · exact ⟨_, _, _, _, _, _, rfl⟩
      · obtain ⟨A, c', rfl, _⟩ := hmv
        exact ⟨_, _, _, _, _, _, rfl⟩
    obtain ⟨bt, AM, nM, cM, kS, cd, he4⟩ := hform
    have hb4 := hd4.1
    have HB4 := Lib.hid (HB3.out.trans (hb4.mono HB3.out.size))
    have HB34 := Lib.hid hb4
    have YG4 := Lib.hid (YG3.out.below hb4 YG3.out.lt)
    have hal := (Below.refl w4.heap.size w4).alloc (Nat.le_refl _) (.cells #[.bool bt, .slice AM nM cM, .int .i64 kS] 32)
    have HAL := Lib.hid hal
    have HB5 := Lib.hid (HB4.out.trans (hal.mono HB4.out.size))
    have YG5 := Lib.hid (YG4.out.below hal YG4.out.lt)
    have YV5 := Lib.hid (show Arr (w4.alloc (.cells #[.bool bt, .slice AM nM cM, .int .i64 kS] 32)) w4.heap.size 32 [.bool bt, .slice AM nM cM, .int .i64 kS] from Arr.new w4 _ [_, _, _])
    have HE4 := Lib.hid he4
    subst he4
    clear hd4 hb4 hal HD y0 y1 YG3 HB4 YG4
    go_upto_region 6 with fail
    generalize hw5 : w4.alloc (.cells #[.bool bt, .slice AM nM cM, .int .i64 kS] 32) = w5 at HB5 YG5 YV5 HAL ⊢
    obtain ⟨q, hq⟩ : ∃ q, q = w4.heap.size := ⟨_, rfl⟩
    rw [← hq] at YV5 ⊢
    clear hq hw5
    have y0 := YG5.out.cell 0
    have y1 := YG5.out.cell 1
    have HR := Lib.hid (Reached_any _ _ X O 5000 w5 (HX.out _ HB5.out) (HO.out _ HB5.out) (by have := H5.out; omega) (by have := H5.out; omega) (by decide) (HT.out _ HB5.out))
    go_wp2_with fail
    refine HR.out.mono ?_
    rintro e6 w6 hr6
    have HB6 := Lib.hid (HB5.out.trans (hr6.1.mono HB5.out.size))
    have YG6 := Lib.hid (YG5.out.below hr6.1 YG5.out.lt)
    have YV6 := Lib.hid (YV5.out.below hr6.1 YV5.out.lt)
    have HRP := Lib.hid hr6
    have HV := Lib.hid (valid_any _ _ X O w6 (HX.out _ HB6.out) (HO.out _ HB6.out) (by have := H5.out; omega) (by have := H5.out; omega))
    clear y0 y1 HR YG5 HB5
    by_cases hv : VdG (X, O)
    · have HVD := Lib.hid hv
      have hvb := (validB_iff X O).2 hv
      rw [hvb] at HV
      have HC := Lib.hid (fun W (hb : Below w.heap.size w W) => components_any _ _ X O W (HX.out _ hb) (HO.out _ hb) HVD.out)
      obtain ⟨cm, hcm⟩ : ∃ x, x = comp X O := ⟨_, rfl⟩
      rw [← hcm] at HC
      by_cases hc : 1 < cm
      · have hbad : (¬ VdG (X, O) ∧ (16 : Int) = 1) ∨ (VdG (X, O) ∧ 1 < comp (X, O).1 (X, O).2 ∧ (16 : Int) = 16) := .inr ⟨hv, by simp only; omega, rfl⟩
        have hx := dec_bad HDP.out hbad
        obtain ⟨rfl, rfl, rfl, rfl, rfl, rfl⟩ := vd_inj hx
        obtain rfl := rea_bad hr6 hbad
        have z1 : (1 : Int) < (cm : Int) := by omega
        clear hv hvb hcm hc hbad hx hr6
        have y0 := YG6.out.cell 0
        have y1 := YG6.out.cell 1
        go_wp2_with fail
        refine HV.out.mono ?_
        rintro e7 w7 ⟨rfl, hb7⟩
        have HB7 := Lib.hid (HB6.out.trans (hb7.mono HB6.out.size))
        have YG7 := Lib.hid (YG6.out.below hb7 YG6.out.lt)
        have YV7 := Lib.hid (YV6.out.below hb7 YV6.out.lt)
        have HC7 := Lib.hid (HC.out w7 HB7.out)
        clear y0 y1 hb7 HV YG6 YV6 HC
        have y0 := YG7.out.cell 0
        have y1 := YG7.out.cell 1
        go_wp2_with fail
        refine HC7.out.mono ?_
        rintro e8 w8 ⟨rfl, hb8⟩
        have HB8 := Lib.hid (HB7.out.trans (hb8.mono HB7.out.size))
        have YV8 := YV7.out.below hb8 YV7.out.lt
        have u0 := YV8.cell 0
        have u1 := YV8.cell 1
        have u2 := YV8.cell 2
        clear hb8 y0 y1 YV8 YV7 YG7
        go_wp2_with fail
        go_ret
        exact ⟨rfl, HB8.out⟩
      · have z1 : ¬ (1 : Int) < (cm : Int) := by omega
        have hcl : comp X O ≤ 1 := by omega
        obtain ⟨bt', A', n', c', k', Al, cl, gs, he4, rfl, hgd, hvv⟩ := vv_of hv (by have := H5.out; omega) hcl HDP.out hr6
        obtain ⟨rfl, rfl, rfl, rfl, rfl, rfl⟩ := vd_inj he4
        have HGD := Lib.hid hgd
        have HVV := Lib.hid hvv
        have HM6 := Lib.hid (fun ms (h : Moves w4 (.slice AM nM cM) ms) => (h.below HAL.out).below hr6.1)
        clear hv hvb hcm hc hcl he4 hgd hvv hr6 HRP
        have y0 := YG6.out.cell 0
        have y1 := YG6.out.cell 1
        go_wp2_with fail
        refine HV.out.mono ?_
        rintro e7 w7 ⟨rfl, hb7⟩
        have HB7 := Lib.hid (HB6.out.trans (hb7.mono HB6.out.size))
        have YG7 := Lib.hid (YG6.out.below hb7 YG6.out.lt)
        have YV7 := Lib.hid (YV6.out.below hb7 YV6.out.lt)
        have HC7 := Lib.hid (HC.out w7 HB7.out)
        have HGD7 := Lib.hid (HGD.out.below hb7)
        have HM7 := Lib.hid (fun ms h => (HM6.out ms h).below hb7)
        clear y0 y1 hb7 HV YG6 YV6 HC HGD HM6
        have y0 := YG7.out.cell 0
        have y1 := YG7.out.cell 1
        go_wp2_with fail
        refine HC7.out.mono ?_
        rintro e8 w8 ⟨rfl, hb8⟩
        have HB8 := Lib.hid (HB7.out.trans (hb8.mono HB7.out.size))
        have YG8 := YG7.out.below hb8 YG7.out.lt
        have YV8 := YV7.out.below hb8 YV7.out.lt
        have HGD8 := Lib.hid (HGD7.out.below hb8)
        have HM8 := Lib.hid (fun ms h => (HM7.out ms h).below hb8)
        clear hb8 y0 y1 YV7 YG7 HC7 HGD7 HM7
        obtain ⟨B, hB⟩ : ∃ B, B = w.heap.size := ⟨_, rfl⟩
        have hBv : Value.pointer (some ⟨w.heap.size, 0, none⟩) = .pointer (some ⟨B, 0, none⟩) := by rw [hB]
        rw [← hB] at YG8
        try rw [hBv]
        clear hBv hB
        have y0 := YG8.cell 0
        have y1 := YG8.cell 1
        have u0 := YV8.cell 0
        go_upto_region 9 with fail
        have HTW := Lib.hid (fun W (hS : W.cell? ⟨B, 0, none⟩ = some (.slice A0 X.length c0) ∧ W.cell? ⟨B, 1, none⟩ = some (.slice A1 O.length c1) ∧ W.cell? ⟨q, 0, none⟩ = some (.bool bt) ∧ Below w8.heap.size w8 W) => two_any Al _ cl gs W (HGD8.out.below hS.2.2.2) (by have := HVV.out.2.2.2.1; omega))
        rw [HVV.out.2.2.1] at HTW
        have HCW := Lib.hid (fun W (hS : W.cell? ⟨B, 0, none⟩ = some (.slice A0 X.length c0) ∧ W.cell? ⟨B, 1, none⟩ = some (.slice A1 O.length c1) ∧ W.cell? ⟨q, 0, none⟩ = some (.bool bt) ∧ Below w8.heap.size w8 W) => (Closed_any _ _ X O Al gs.length cl gs W (HX.out _ (HB8.out.trans (hS.2.2.2.mono HB8.out.size))) (HO.out _ (HB8.out.trans (hS.2.2.2.mono HB8.out.size))) (by have := H5.out; omega) (by have := H5.out; omega) (HGD8.out.below hS.2.2.2) (by have := HVV.out.2.2.2.1; omega) HVV.out.2.1 (HT.out _ (HB8.out.trans (hS.2.2.2.mono HB8.out.size)))).mono (fun e w' (h : (∃ b, e = .returned (.bool b) ∧ (b = true ↔ ClP (X, O) gs)) ∧ Below W.heap.size W w') => show e = .returned (.bool true) ∧ Below W.heap.size W w' from by
          obtain ⟨⟨b, rfl, hb⟩, h2⟩ := h
          rw [hb.2 HVV.out.1]
          exact ⟨rfl, h2⟩))
        have HJ := Lib.hid (fun W W' (hS : W.cell? ⟨B, 0, none⟩ = some (.slice A0 X.length c0) ∧ W.cell? ⟨B, 1, none⟩ = some (.slice A1 O.length c1) ∧ W.cell? ⟨q, 0, none⟩ = some (.bool bt) ∧ Below w8.heap.size w8 W) (hb : Below W.heap.size W W') => Below.trans hS.2.2.2 (hb.mono hS.2.2.2.size))
        have KS := Lib.hid (fun W (hb : Below w8.heap.size w8 W) => (⟨(hb.cell YG8.lt).trans y0, (hb.cell YG8.lt).trans y1, (hb.cell YV8.lt).trans u0, hb⟩ : W.cell? ⟨B, 0, none⟩ = some (.slice A0 X.length c0) ∧ W.cell? ⟨B, 1, none⟩ = some (.slice A1 O.length c1) ∧ W.cell? ⟨q, 0, none⟩ = some (.bool bt) ∧ Below w8.heap.size w8 W))
        have zb : (bt != bt) = false := by simp
        go_region_held3 (fun W => W.cell? ⟨B, 0, none⟩ = some (.slice A0 X.length c0) ∧ W.cell? ⟨B, 1, none⟩ = some (.slice A1 O.length c1) ∧ W.cell? ⟨q, 0, none⟩ = some (.bool bt) ∧ Below w8.heap.size w8 W) ((refine KS.out _ ?_; repeat (first | exact Below.refl _ _ | exact hb10 | exact hb12 | refine Below.drew ?_)))
          (first
            | (go_at_call 16; refine (HTW.out _ (by assumption)).mono ?_; rintro e9 w9 ⟨rfl, hb9⟩; have hb10 := HJ.out _ _ (by assumption) hb9; clear hb9)
            | (go_at_call 17; refine (HCW.out _ (by assumption)).mono ?_; rintro e11 w11 ⟨rfl, hb11⟩; have hb12 := HJ.out _ _ (by assumption) hb11; clear hb11))
        have HB11 := Lib.hid (HB8.out.trans (hb12.mono HB8.out.size))
        have YV11 := YV8.below hb12 YV8.lt
        have YG11 := YG8.below hb12 YG8.lt
        have HM11 := Lib.hid (fun ms h => (HM8.out ms h).below hb12)
        clear HTW HCW HJ KS y0 y1 u0 YV8 YG8 HM8 HGD8 hb10 hb12
        have u0 := YV11.cell 0
        have u1 := YV11.cell 1
        have u2 := YV11.cell 2
        obtain ⟨_, _, _, _, hfin⟩ := HVV.out
        clear HVV
        rcases hfin with ⟨rfl, rfl, rfl⟩ | ⟨rfl, rfl, ms, a, hmv, hpl, ha2, hml, hk4⟩
        · have zl : ((gs.length : Int) == (gs.length : Int)) = true := by simp
          go_wp2_with fail
          go_ret
          exact ⟨rfl, HB11.out⟩
        · have HMV := Lib.hid (HM11.out ms hmv)
          have hpp := pls_play2 (g := (X, O)) HVD.out hpl
          simp only at hpp
          have HK4 := Lib.hid hk4
          have hnm : nM = ms.length := by obtain ⟨A3, c3, e3, _⟩ := hmv; injection e3
          subst hnm
          have HML := Lib.hid hml
          have HA2 := Lib.hid ha2
          have HPL := Lib.hid (play_any _ _ (.slice AM ms.length cM) X O ms w11 (HX.out _ HB11.out) (HO.out _ HB11.out) HMV.out (by have := H5.out; omega) (by have := H5.out; omega) HML.out)
          rw [hpp] at HPL
          clear hmv hpl ha2 hml hk4 hpp HM11
          have y0 := YG11.cell 0
          have y1 := YG11.cell 1
          go_wp2_with fail
          refine HPL.out.mono ?_
          rintro e13 w13 ⟨hb13, A3, n3, c3, A4, n4, c4, rfl, j0, j1⟩
          have hn3 := ints_len j0
          simp only at hn3
          have e2 : (n3 : Int) = 2 := by have := HA2.out; omega
          have hal := (Below.refl w13.heap.size w13).alloc (Nat.le_refl _) (.cells #[.slice A3 n3 c3, .slice A4 n4 c4] 26)
          have HB14 := Lib.hid ((HB11.out.trans (hb13.mono HB11.out.size)).trans (hal.mono (HB11.out.trans (hb13.mono HB11.out.size)).size))
          have X7 := Lib.hid (show Arr (w13.alloc (.cells #[.slice A3 n3 c3, .slice A4 n4 c4] 26)) w13.heap.size 26 [.slice A3 n3 c3, .slice A4 n4 c4] from Arr.new w13 _ [_, _])
          have YV14 := Lib.hid ((YV11.below hb13 YV11.lt).below hal (YV11.below hb13 YV11.lt).lt)
          have HM14 := Lib.hid ((HMV.out.below hb13).below hal)
          clear hb13 j0 j1 hn3 y0 y1 u0 u1 u2 YV11 YG11 HPL HMV
          go_upto_region 14 with fail
          generalize w13.alloc (.cells #[.slice A3 n3 c3, .slice A4 n4 c4] 26) = w14 at HB14 X7 YV14 HM14 ⊢
          generalize w13.heap.size = b7 at X7 ⊢
          clear hal
          have u1 := YV14.out.cell 1
          have hml := HML.out
          go_wp2_with fail
          clear u1
          go_loopg [101] ms.length (fun gk s101 wr => ∃ k : Nat, k ≤ ms.length ∧ gk = ms.length - k ∧ s101 = .int .i64 k ∧ Hid (Below w14.heap.size w14 wr))
          case atStart => exact ⟨0, Nat.zero_le _, rfl, rfl, Below.refl _ _⟩
          case round =>
            obtain ⟨k, hk, rfl, rfl, HW⟩ := hrel
            by_cases hlt : k < ms.length
            · obtain ⟨b, o, rfl, hbl, d0, d1, d2, d3⟩ := HM14.out.at_ hlt
              have hk4 := HK4.out _ (List.getElem_mem hlt)
              have d0 := (HW.out.cell (p := ⟨b, o + k * 4, none⟩) hbl).trans d0
              have d1 := (HW.out.cell (p := ⟨b, o + k * 4 + 1, none⟩) hbl).trans d1
              have d2 := (HW.out.cell (p := ⟨b, o + k * 4 + 2, none⟩) hbl).trans d2
              have d3 := (HW.out.cell (p := ⟨b, o + k * 4 + 3, none⟩) hbl).trans d3
              have z1 : (k : Int) < (ms.length : Int) := by omega
              generalize ms[k] = m at *
              obtain ⟨mk, mr, ma, mv⟩ := m
              simp only at hk4 d0 d1 d2 d3
              have z4 : (mk == 4) = false := by simp [hk4]
              have HW2 := Lib.hid (HW.out.alloc HW.out.size (.cells #[.int .i64 mk, .bool mr, .int .i64 ma, .int .i64 mv] 37))
              clear hk4 HW
              go_wp2_with fail
              go_roundg (ms.length - (k + 1))
              case measure => omega
              case rel => exact ⟨k + 1, by omega, rfl, by go_num, HW2⟩
            · obtain rfl : k = ms.length := by omega
              have HB15 := Lib.hid (HB14.out.trans (HW.out.mono HB14.out.size))
              have x0 := (X7.out.below HW.out X7.out.lt).cell 0
              have u2 := (YV14.out.below HW.out YV14.out.lt).cell 2
              clear hk HW
              go_wp2_with fail
              go_ret
              exact ⟨rfl, HB15.out⟩
    · have hbad : (¬ VdG (X, O) ∧ (1 : Int) = 1) ∨ (VdG (X, O) ∧ 1 < comp (X, O).1 (X, O).2 ∧ (1 : Int) = 16) := .inl ⟨hv, rfl⟩
      have hx := dec_bad HDP.out hbad
      obtain ⟨rfl, rfl, rfl, rfl, rfl, rfl⟩ := vd_inj hx
      obtain rfl := rea_bad hr6 hbad
      have hvb : validB X O = false := by
        cases h : validB X O with
        | false => rfl
        | true => exact absurd ((validB_iff X O).1 h) hv
      rw [hvb] at HV
      clear hv hvb hbad hx hr6
      have y0 := YG6.out.cell 0
      have y1 := YG6.out.cell 1
      go_wp2_with fail
      refine HV.out.mono ?_
      rintro e7 w7 ⟨rfl, hb7⟩
      have HB7 := Lib.hid (HB6.out.trans (hb7.mono HB6.out.size))
      have YV7 := YV6.out.below hb7 YV6.out.lt
      have u0 := YV7.cell 0
      have u1 := YV7.cell 1
      have u2 := YV7.cell 2
      clear hb7 y0 y1 YV7 YV6 YG6
      go_wp2_with fail
      go_ret
      exact ⟨rfl, HB7.out⟩
end Go.Proofs.YteigjfdgijaifaaDoor
