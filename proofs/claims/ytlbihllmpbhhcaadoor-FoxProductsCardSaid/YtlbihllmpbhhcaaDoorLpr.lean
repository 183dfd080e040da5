/- FoxProducts: the law's walk. -/
import Derived.Test.YtlbihllmpbhhcaaDoorLrd
import Derived.Test.YtlbihllmpbhhcaaDoorDgr
import Derived.Test.YtlbihllmpbhhcaaDoorShp
import Derived.Test.YtlbihllmpbhhcaaDoorPhg
namespace Go.Proofs.YtlbihllmpbhhcaaDoor
open Go.RowKit
set_option linter.unusedVariables false

theorem OwnI.form3 {e : TypeId} {base : Nat} {w : World} {v : Value} {xs : List Int} (h : OwnI e base w v xs) : ∃ A n c, v = .slice A n c := by
  obtain ⟨A, c, e⟩ := h.form
  exact ⟨A, _, c, e⟩
set_option maxHeartbeats 1000000 in
set_option maxRecDepth 100000 in
theorem products_law (vu vv vc : Value) (us vs : List Int) (gen : Int) (comp : List Int) (w : World) (hu : Ints w vu us) (hv : Ints w vv vs) (hc : Ints w vc comp) (lu : us.length ≤ 9223372036854775807) (lv : vs.length ≤ 9223372036854775807) (lc : comp.length ≤ 9223372036854775807) (ht : Tb w) :
    Calls Tryd.prog 6 #[vu, vv, .int .i64 gen, vc] w fun e w' => e = .returned (.bool true) ∧ Below w.heap.size w w' := by
  have HA := Lib.hid (awakeF_any w ht)
  have HU := Lib.hid hu
  have HV := Lib.hid hv
  have HC := Lib.hid hc
  have HT := Lib.hid ht
  obtain ⟨A, c, rfl, _, _⟩ := hu
  obtain ⟨A2, c2, rfl, _, _⟩ := hv
  obtain ⟨A3, c3, rfl, _, _⟩ := hc
  clear ht
  go_enter Tryd.func6, Tryd.ntmps6
  go_wp2_with fail
  refine HA.out.mono ?_
  rintro e w1 ⟨rfl, hb1⟩
  have HB1 := Lib.hid hb1
  have HG := Lib.hid (great_at2 A A2 A3 us.length c vs.length c2 comp.length c3 w1 lu lv lc)
  have hb2 : Below w.heap.size w (w1.alloc (.cells #[.slice A us.length c, .slice A2 vs.length c2] 42)) := hb1.alloc hb1.size _
  clear HA hb1
  obtain ⟨G, hG⟩ : ∃ G, G = grB [(A, us.length, c), (A2, vs.length, c2)] comp.length := ⟨_, rfl⟩
  rw [← hG] at HG
  cases G with
  | true =>
    clear hG
    go_wp2_with fail
    refine HG.out.mono ?_
    rintro e w2 ⟨rfl, rfl⟩
    go_wp2_with fail
    go_ret
    exact ⟨rfl, hb2⟩
  | false =>
    obtain ⟨l1, l2, l3⟩ := grB2 hG.symm
    clear hG
    have hbW : Below w1.heap.size w1 (w1.alloc (.cells #[.slice A us.length c, .slice A2 vs.length c2] 42)) := (Below.refl _ _).alloc (Nat.le_refl _) _
    have HF1 := Lib.hid (fits_any (.slice A us.length c) (.slice A3 comp.length c3) us comp gen (w1.alloc (.cells #[.slice A us.length c, .slice A2 vs.length c2] 42)) (HU.out.below hb2) (HC.out.below hb2) (by omega) (by omega))
    have HF2 := Lib.hid (fits_any (.slice A2 vs.length c2) (.slice A3 comp.length c3) vs comp gen (w1.alloc (.cells #[.slice A us.length c, .slice A2 vs.length c2] 42)) (HV.out.below hb2) (HC.out.below hb2) (by omega) (by omega))
    obtain ⟨F1, hF1⟩ : ∃ F, F = fitB us comp gen := ⟨_, rfl⟩
    obtain ⟨F2, hF2⟩ : ∃ F, F = fitB vs comp gen := ⟨_, rfl⟩
    rw [← hF1] at HF1
    rw [← hF2] at HF2
    cases F1 with
    | false =>
      clear hF1 hF2 hbW HF2
      go_wp2_with fail
      refine HG.out.mono ?_
      rintro e w2 ⟨rfl, rfl⟩
      go_wp2_with fail
      refine HF1.out.mono ?_
      rintro e w2 ⟨rfl, rfl⟩
      go_wp2_with fail
      go_ret
      exact ⟨rfl, hb2⟩
    | true =>
    cases F2 with
    | false =>
      clear hF1 hF2 hbW
      go_wp2_with fail
      refine HG.out.mono ?_
      rintro e w2 ⟨rfl, rfl⟩
      go_wp2_with fail
      refine HF1.out.mono ?_
      rintro e w2 ⟨rfl, rfl⟩
      go_wp2_with fail
      refine HF2.out.mono ?_
      rintro e w2 ⟨rfl, rfl⟩
      go_wp2_with fail
      go_ret
      exact ⟨rfl, hb2⟩
    | true =>
    have HFU := Lib.hid hF1.symm
    have HFV := Lib.hid hF2.symm
    have HUB := Lib.hid (fitB_bd hF1.symm l3)
    clear hF1 hF2 hbW
    go_wp2_with fail
    refine HG.out.mono ?_
    rintro e w2 ⟨rfl, rfl⟩
    go_wp2_with fail
    refine HF1.out.mono ?_
    rintro e w2 ⟨rfl, rfl⟩
    go_wp2_with fail
    refine HF2.out.mono ?_
    rintro e w2 ⟨rfl, rfl⟩
    clear HF1 HF2 HG
    go_upto_region 5 with fail
    generalize (w1.alloc (.cells #[.slice A us.length c, .slice A2 vs.length c2] 42)) = w3 at hb2 ⊢
    have HB3 := Lib.hid hb2
    obtain ⟨i0, hi0, hz0, hz1, hz2⟩ := info_parts info_int
    have HU3 := Lib.hid (fun W (hb : Below w3.heap.size w3 W) => (HU.out.below hb2).below hb)
    have HV3 := Lib.hid (fun W (hb : Below w3.heap.size w3 W) => (HV.out.below hb2).below hb)
    have hbA : Below w3.heap.size w3 (w3.alloc (.cells #[] 3)) := (Below.refl _ _).alloc (Nat.le_refl _) _
    have HOA := Lib.hid (OwnI.emptyAt (e := 3) (base := w3.heap.size) (Nat.le_refl _) (heap_alloc_new w3 (.cells #[] 3)))
    have HIA := Lib.hid (HU3.out _ hbA)
    clear hb2
    have HN1 := Lib.hid (show ([] : List Int).length + us.length ≤ 1000000000 from by simp; omega)
    have HN2 := Lib.hid (show us.length + vs.length ≤ 1000000000 from by omega)
    have HN3 := Lib.hid hbA.size
    have HBA := Lib.hid hbA
    clear hbA
    go_wp2_with (first | (at_builtin; refine wpList_appI2 rfl (.tmp 40) (.tmp 41) 42 22 rfl Tryd.underlying42 Tryd.underlying22 hi0 hz0 hz1 hz2 rfl HOA.out rfl HIA.out HN1.out HN3.out ?_; intro v1 w4 hown1 hbel1 hkx1 hmv1; have HBBx := Lib.hid (HBA.out.trans hbel1); have HOB := Lib.hid (show OwnI 3 w3.heap.size w4 v1 us from by simpa using hown1); have HIB := Lib.hid (HV3.out _ HBBx.out); clear hown1 hbel1 hkx1 hmv1) | (at_builtin; refine wpList_appI2 rfl (.tmp 42) (.tmp 43) 42 22 rfl Tryd.underlying42 Tryd.underlying22 hi0 hz0 hz1 hz2 rfl HOB.out rfl HIB.out HN2.out HBBx.out.size ?_; intro v2 w5 hown2 hbel2 hkx2 hmv2; have HOC := Lib.hid hown2; have HBC := Lib.hid (HBBx.out.trans hbel2); obtain ⟨A5, n5, c5, rfl⟩ := hown2.form3; clear hown2 hbel2 hkx2 hmv2))
    have HO5 := Lib.hid HOC.out.ints
    have HB5 := Lib.hid (HB3.out.trans (HBC.out.mono HB3.out.size))
    have HLL := Lib.hid (show (us ++ vs).length ≤ 80 from by rw [List.length_append]; omega)
    have HFA := Lib.hid (fitB_app HFU.out HFV.out)
    have HFI := Lib.hid (fitB_inv HFU.out)
    have HDA := Lib.hid (dF_append comp gen us vs)
    have HDI := Lib.hid (dF_inv comp gen (fitB_ne HFU.out))
    have HCB := Lib.hid (fitB_mem HFU.out).2.2.2
    have HXU := Lib.hid (fitB_mem HFU.out).2.2.1
    have HLI := Lib.hid (pshL_len (invW us) [])
    clear HOC HBC HOA HOB HIA HIB HU3 HV3 HN1 HN2 HN3 HBA HBBx
    have HD1 := Lib.hid (Derivative_ok (.slice A us.length c) (.slice A3 comp.length c3) us comp gen w5 (HU.out.below HB5.out) (HC.out.below HB5.out) (by omega) (by omega) HFU.out)
    generalize us ++ vs = al at *
    go_wp2_with fail
    refine HD1.out.mono ?_
    rintro e w6 ⟨b1, B1, n1, d1, r1, rfl, hd1⟩
    have HE1 := Lib.hid hd1
    go_upto_region 7 with fail
    have hbx := hd1.box
    have hbb : Below w5.heap.size w5 (w6.alloc (.cells #[.bool b1, .slice B1 n1 d1] 27)) := hd1.bel.alloc hd1.bel.size _
    generalize (w6.alloc (.cells #[.bool b1, .slice B1 n1 d1] 27)) = w7 at hbx hbb ⊢
    have HG1 := Lib.hid hbb
    have HX1 := Lib.hid hbx
    have HB7 := Lib.hid (HB5.out.trans (hbb.mono HB5.out.size))
    have HD2 := Lib.hid (Derivative_ok (.slice A2 vs.length c2) (.slice A3 comp.length c3) vs comp gen w7 (HV.out.below HB7.out) (HC.out.below HB7.out) (by omega) (by omega) HFV.out)
    clear hbx hbb hd1 HD1
    go_wp2_with fail
    refine HD2.out.mono ?_
    rintro e w8 ⟨b2, B2, n2, d2, r2, rfl, hd2⟩
    have HE2 := Lib.hid hd2
    go_upto_region 8 with fail
    have hbx := hd2.box
    have hbb : Below w7.heap.size w7 (w8.alloc (.cells #[.bool b2, .slice B2 n2 d2] 27)) := hd2.bel.alloc hd2.bel.size _
    generalize (w8.alloc (.cells #[.bool b2, .slice B2 n2 d2] 27)) = w9 at hbx hbb ⊢
    have HG2 := Lib.hid hbb
    have HX2 := Lib.hid hbx
    have HB9 := Lib.hid (HB7.out.trans (hbb.mono HB7.out.size))
    have HD3 := Lib.hid (Derivative_ok (.slice A5 n5 c5) (.slice A3 comp.length c3) al comp gen w9 ((HO5.out.below HG1.out).below hbb) (HC.out.below HB9.out) (by have := HLL.out; omega) (by omega) HFA.out)
    clear hbx hbb hd2 HD2
    go_wp2_with fail
    refine HD3.out.mono ?_
    rintro e wA ⟨b3, B3, n3, d3, r3, rfl, hd3⟩
    have HE3 := Lib.hid hd3
    go_upto_region 9 with fail
    have hbx := hd3.box
    have hbb : Below w9.heap.size w9 (wA.alloc (.cells #[.bool b3, .slice B3 n3 d3] 27)) := hd3.bel.alloc hd3.bel.size _
    generalize (wA.alloc (.cells #[.bool b3, .slice B3 n3 d3] 27)) = wB at hbx hbb ⊢
    have HG3 := Lib.hid hbb
    have HX3 := Lib.hid hbx
    have HBB := Lib.hid (HB9.out.trans (hbb.mono HB9.out.size))
    have HIV := Lib.hid (Inverse_any (.slice A us.length c) us wB (HU.out.below HBB.out) (by omega) HUB.out)
    clear hbx hbb hd3 HD3
    go_wp2_with fail
    refine HIV.out.mono ?_
    rintro e wC ⟨vi, rfl, hoi, hbi⟩
    have HII := Lib.hid hoi.ints
    have HBI := Lib.hid hbi
    have HBC := Lib.hid (HBB.out.trans (hbi.mono HBB.out.size))
    obtain ⟨A6, n6, c6, rfl⟩ := hoi.form3
    have HD4 := Lib.hid (Derivative_ok (.slice A6 n6 c6) (.slice A3 comp.length c3) (pshL [] (invW us)) comp gen wC HII.out (HC.out.below HBC.out) (by have := HLI.out; rw [invW_len] at this; simp at this; omega) (by omega) HFI.out)
    have HDL := Lib.hid (show (pshL [] (invW us)).length ≤ 40 from by have := HLI.out; rw [invW_len] at this; simp at this; omega)
    generalize pshL [] (invW us) = iv at *
    clear hoi hbi HIV
    go_wp2_with fail
    refine HD4.out.mono ?_
    rintro e wD ⟨b4, B4, n4, d4, r4, rfl, hd4⟩
    have HE4 := Lib.hid hd4
    go_upto_region 10 with fail
    have hbx := hd4.box
    have hbb : Below wC.heap.size wC (wD.alloc (.cells #[.bool b4, .slice B4 n4 d4] 27)) := hd4.bel.alloc hd4.bel.size _
    generalize (wD.alloc (.cells #[.bool b4, .slice B4 n4 d4] 27)) = wE at hbx hbb ⊢
    have HG4 := Lib.hid hbb
    have HX4 := Lib.hid hbx
    have HBE := Lib.hid (HBC.out.trans (hbb.mono HBC.out.size))
    have HDG := Lib.hid (degree_any (.slice A us.length c) (.slice A3 comp.length c3) us comp wE (HU.out.below HBE.out) (HC.out.below HBE.out) (by omega) (by omega) HXU.out HCB.out)
    obtain ⟨N, hN⟩ : ∃ N, N = dg comp us := ⟨_, rfl⟩
    have hNb := dg_bd (ws := us) HCB.out
    rw [← hN] at HDG HDA HDI hNb
    have hNb2 : -40000 ≤ N ∧ N ≤ 40000 := by omega
    have HNN := Lib.hid hN
    have HP1 := Lib.hid (((HX1.out.below HG2.out).below HG3.out).below (HBI.out.trans (hbb.mono HBI.out.size)))
    have HP2 := Lib.hid ((HX2.out.below HG3.out).below (HBI.out.trans (hbb.mono HBI.out.size)))
    have HP3 := Lib.hid (HX3.out.below (HBI.out.trans (hbb.mono HBI.out.size)))
    have HP4 := HX4
    clear hbx hbb hd4 HD4 hN hNb
    go_wp2_with fail
    refine HDG.out.mono ?_
    rintro e wF ⟨rfl, rfl⟩
    clear HDG
    go_upto_region 13 with fail
    -- the polynomials
    have hx1 := HE1.out.exp HCB.out
    have hx2 := HE2.out.exp HCB.out
    have HS2 := Lib.hid (show movP (fun x => x + N) (some r2) = some (r2.map (mvT (fun x => x + N))) from movP_some (fun t ht => by have := hx2 t ht; show -1048576 ≤ t.1 + N ∧ t.1 + N ≤ 1048576; omega))
    have HS1 := Lib.hid (show movP (fun x => x + -N) (some r1) = some (r1.map (mvT (fun x => x + -N))) from movP_some (fun t ht => by have := hx1 t ht; show -1048576 ≤ t.1 + -N ∧ t.1 + -N ≤ 1048576; omega))
    have HO2 := Lib.hid (show okP (some (r2.map (mvT (fun x => x + N)))) from ⟨HE2.out.can.mv N, HE2.out.lim.mv (fun t ht => by have := hx2 t ht; omega)⟩)
    have HO1 := Lib.hid (show okP (some (r1.map (mvT (fun x => x + -N)))) from ⟨HE1.out.can.mv (-N), HE1.out.lim.mv (fun t ht => by have := hx1 t ht; omega)⟩)
    have HA3 := Lib.hid (fun r (h : CombP (fun a b => a + b) (some r1) (some (r2.map (mvT (fun x => x + N)))) r) => comb_is h HE3.out.can HE3.out.lim (fun e => by rw [HE1.out.eq, cf_mv, HE2.out.eq, HE3.out.eq, HDA.out]))
    have HA4 := Lib.hid (fun r (h : CombP (fun _ b => -b) (some []) (some (r1.map (mvT (fun x => x + -N)))) r) => comb_is h HE4.out.can HE4.out.lim (fun e => by rw [cf_mv, HE1.out.eq, HE4.out.eq, HDI.out, show e - -N = e + N by omega]))
    generalize r2.map (mvT (fun x => x + N)) = s2 at *
    generalize r1.map (mvT (fun x => x + -N)) = s1 at *
    clear hx1 hx2
    go_cut [8] (fun s8 wx => s8 = .bool true ∧ Below w.heap.size w wx)
    case first =>
      refine wp_region_phiG (by kernel_rfl) (by kernel_rfl) (by kernel_rfl) (by kernel_rfl) (phiT (fun i => ([some (.agg #[.bool b3, .slice B3 n3 d3]), some (.agg #[.bool b1, .slice B1 n1 d1]), some (.agg #[.bool b2, .slice B2 n2 d2]), some (.int .i64 N), none, none, some (.bool true), some (.bool true), some (.agg #[.bool b4, .slice B4 n4 d4]), some (.agg #[.bool b1, .slice B1 n1 d1]), some (.int .i64 N), some (.int .i64 (-N)), none, none, some (.bool true), some (.bool true), some (.bool true)] : List (Option Value)).getD i none) (fun i v w => (if i = 4 then (fun v w => PolyV w v (some s2)) v w else (if i = 5 then (fun v w => PolyV w v (some r3)) v w else (if i = 12 then (fun v w => PolyV w v (some s1)) v w else (if i = 13 then (fun v w => PolyV w v (some r4)) v w else True)))))) (fun i v w w' h hb => ?_) ⟨?_, ?_, ?_, ?_, ?_, ?_, ?_, ?_, ?_, ?_, ?_, ?_, ?_, ?_, ?_, ?_, ?_, trivial⟩ ?_
      · unfold phiT at h ⊢
        split
        · next u hu => rw [hu] at h; exact h
        · next hu =>
          rw [hu] at h
          simp only at h ⊢
          by_cases q4 : i = 4
          · rw [if_pos q4] at h ⊢; exact PolyV.below h hb
          · rw [if_neg q4] at h ⊢
            by_cases q5 : i = 5
            · rw [if_pos q5] at h ⊢; exact PolyV.below h hb
            · rw [if_neg q5] at h ⊢
              by_cases q12 : i = 12
              · rw [if_pos q12] at h ⊢; exact PolyV.below h hb
              · rw [if_neg q12] at h ⊢
                by_cases q13 : i = 13
                · rw [if_pos q13] at h ⊢; exact PolyV.below h hb
                · rw [if_neg q13] at h ⊢
                  trivial
      · intro x w1 bA hbel hdep hold hb
        refine ⟨trivial, ?_⟩
        have e14 : bA.tmps[14]?.getD undef = .pointer (some ⟨wA.heap.size, 0, none⟩) := hb 14
        have qk := (HP3.out.below hbel).arr
        have cc0 := qk.cell 0
        have cc1 := qk.cell 1
        clear qk
        refine phi_run (.agg #[.bool b3, .slice B3 n3 d3]) ?_ rfl
        clear hb hdep hold
        go_simp
      · intro x w1 bA hbel hdep hold hb
        refine ⟨trivial, ?_⟩
        have e10 : bA.tmps[10]?.getD undef = .pointer (some ⟨w6.heap.size, 0, none⟩) := hb 10
        have qk := (HP1.out.below hbel).arr
        have cc0 := qk.cell 0
        have cc1 := qk.cell 1
        clear qk
        refine phi_run (.agg #[.bool b1, .slice B1 n1 d1]) ?_ rfl
        clear hb hdep hold
        go_simp
      · intro x w1 bA hbel hdep hold hb
        refine ⟨trivial, ?_⟩
        have e12 : bA.tmps[12]?.getD undef = .pointer (some ⟨w8.heap.size, 0, none⟩) := hb 12
        have qk := (HP2.out.below hbel).arr
        have cc0 := qk.cell 0
        have cc1 := qk.cell 1
        clear qk
        refine phi_run (.agg #[.bool b2, .slice B2 n2 d2]) ?_ rfl
        clear hb hdep hold
        go_simp
      · intro x w1 bA hbel hdep hold hb
        refine ⟨trivial, ?_⟩
        have e18 : bA.tmps[18]?.getD undef = .int .i64 N := hb 18
        refine phi_run (.int .i64 N) ?_ rfl
        clear hb hdep hold
        go_simp
      · intro x w1 bA hbel hdep hold hb
        refine ⟨trivial, ?_⟩
        have e93 : bA.tmps[93]?.getD undef = .agg #[.bool b2, .slice B2 n2 d2] := (hb 93).trans (hdep 2 (by decide))
        have e94 : bA.tmps[94]?.getD undef = .int .i64 N := (hb 94).trans (hdep 3 (by decide))
        refine phi_call ?_ ((Shift_any (.agg #[.bool b2, .slice B2 n2 d2]) (some r2) N w1 (HP2.out.val.below hbel) HP2.out.okp (by omega)).mono fun e w' h => (by obtain ⟨v, he, hv, hb'⟩ := h; rw [HS2.out] at hv; exact ⟨v, he, hb', hv⟩))
        clear hb hdep hold
        go_simp
      · intro x w1 bA hbel hdep hold hb
        refine ⟨trivial, ?_⟩
        have e92 : bA.tmps[92]?.getD undef = .agg #[.bool b1, .slice B1 n1 d1] := (hb 92).trans (hdep 1 (by decide))
        have p95 := hdep 4 (by decide)
        have e95 : bA.tmps[95]?.getD undef = x 4 := hb 95
        generalize x 4 = x95 at p95 e95
        have P95 := Lib.hid (show (fun v w => PolyV w v (some s2)) x95 w1 from p95)
        clear p95
        refine phi_call ?_ ((Add_any (.agg #[.bool b1, .slice B1 n1 d1]) x95 (some r1) (some s2) w1 (HP1.out.val.below hbel) P95.out HP1.out.okp HO2.out).mono fun e w' h => (by obtain ⟨v, r, he, hv, hr, hb'⟩ := h; rw [HA3.out r hr] at hv; exact ⟨v, he, hb', hv⟩))
        clear hb hdep hold
        go_simp
      · intro x w1 bA hbel hdep hold hb
        refine ⟨trivial, ?_⟩
        have e91 : bA.tmps[91]?.getD undef = .agg #[.bool b3, .slice B3 n3 d3] := (hb 91).trans (hdep 0 (by decide))
        have p96 := hdep 5 (by decide)
        have e96 : bA.tmps[96]?.getD undef = x 5 := hb 96
        generalize x 5 = x96 at p96 e96
        have P96 := Lib.hid (show (fun v w => PolyV w v (some r3)) x96 w1 from p96)
        clear p96
        refine phi_call ?_ ((Equal_any (.agg #[.bool b3, .slice B3 n3 d3]) x96 (some r3) (some r3) w1 (HP3.out.val.below hbel) P96.out HP3.out.okp HP3.out.okp).mono fun e w' h => (by obtain ⟨he, hb'⟩ := h; rw [eqP_of rfl] at he; exact ⟨_, he, hb', rfl⟩))
        clear hb hdep hold
        go_simp
      · intro x w1 bA hbel hdep hold hb
        refine ⟨trivial, ?_⟩
        have e97 : bA.tmps[97]?.getD undef = .bool true := (hb 97).trans (hdep 6 (by decide))
        refine phi_run (.bool true) ?_ rfl
        clear hb hdep hold
        go_simp
      · intro x w1 bA hbel hdep hold hb
        refine ⟨⟨98, rfl, (hb 98).trans (hdep 7 (by decide))⟩, ?_⟩
        have e16 : bA.tmps[16]?.getD undef = .pointer (some ⟨wD.heap.size, 0, none⟩) := hb 16
        have qk := (HP4.out.below hbel).arr
        have cc0 := qk.cell 0
        have cc1 := qk.cell 1
        clear qk
        refine phi_run (.agg #[.bool b4, .slice B4 n4 d4]) ?_ rfl
        clear hb hdep hold
        go_simp
      · intro x w1 bA hbel hdep hold hb
        refine ⟨⟨98, rfl, (hb 98).trans (hdep 7 (by decide))⟩, ?_⟩
        have e10 : bA.tmps[10]?.getD undef = .pointer (some ⟨w6.heap.size, 0, none⟩) := hb 10
        have qk := (HP1.out.below hbel).arr
        have cc0 := qk.cell 0
        have cc1 := qk.cell 1
        clear qk
        refine phi_run (.agg #[.bool b1, .slice B1 n1 d1]) ?_ rfl
        clear hb hdep hold
        go_simp
      · intro x w1 bA hbel hdep hold hb
        refine ⟨⟨98, rfl, (hb 98).trans (hdep 7 (by decide))⟩, ?_⟩
        have e18 : bA.tmps[18]?.getD undef = .int .i64 N := hb 18
        refine phi_run (.int .i64 N) ?_ rfl
        clear hb hdep hold
        go_simp
      · intro x w1 bA hbel hdep hold hb
        refine ⟨⟨98, rfl, (hb 98).trans (hdep 7 (by decide))⟩, ?_⟩
        have e101 : bA.tmps[101]?.getD undef = .int .i64 N := (hb 101).trans (hdep 10 (by decide))
        have hw : IntKind.i64.wrap (-N) = -N := IntWalk.i64_in _ (by omega)
        refine phi_run (.int .i64 (-N)) ?_ rfl
        clear hb hdep hold
        go_simp
      · intro x w1 bA hbel hdep hold hb
        refine ⟨⟨98, rfl, (hb 98).trans (hdep 7 (by decide))⟩, ?_⟩
        have e100 : bA.tmps[100]?.getD undef = .agg #[.bool b1, .slice B1 n1 d1] := (hb 100).trans (hdep 9 (by decide))
        have e102 : bA.tmps[102]?.getD undef = .int .i64 (-N) := (hb 102).trans (hdep 11 (by decide))
        refine phi_call ?_ ((Shift_any (.agg #[.bool b1, .slice B1 n1 d1]) (some r1) (-N) w1 (HP1.out.val.below hbel) HP1.out.okp (by omega)).mono fun e w' h => (by obtain ⟨v, he, hv, hb'⟩ := h; rw [HS1.out] at hv; exact ⟨v, he, hb', hv⟩))
        clear hb hdep hold
        go_simp
      · intro x w1 bA hbel hdep hold hb
        refine ⟨⟨98, rfl, (hb 98).trans (hdep 7 (by decide))⟩, ?_⟩
        have p103 := hdep 12 (by decide)
        have e103 : bA.tmps[103]?.getD undef = x 12 := hb 103
        generalize x 12 = x103 at p103 e103
        have P103 := Lib.hid (show (fun v w => PolyV w v (some s1)) x103 w1 from p103)
        clear p103
        refine phi_call ?_ ((Neg_any x103 (some s1) w1 P103.out HO1.out).mono fun e w' h => (by obtain ⟨v, r, he, hv, hr, hb'⟩ := h; rw [HA4.out r hr] at hv; exact ⟨v, he, hb', hv⟩))
        clear hb hdep hold
        go_simp
      · intro x w1 bA hbel hdep hold hb
        refine ⟨⟨98, rfl, (hb 98).trans (hdep 7 (by decide))⟩, ?_⟩
        have e99 : bA.tmps[99]?.getD undef = .agg #[.bool b4, .slice B4 n4 d4] := (hb 99).trans (hdep 8 (by decide))
        have p104 := hdep 13 (by decide)
        have e104 : bA.tmps[104]?.getD undef = x 13 := hb 104
        generalize x 13 = x104 at p104 e104
        have P104 := Lib.hid (show (fun v w => PolyV w v (some r4)) x104 w1 from p104)
        clear p104
        refine phi_call ?_ ((Equal_any (.agg #[.bool b4, .slice B4 n4 d4]) x104 (some r4) (some r4) w1 (HP4.out.val.below hbel) P104.out HP4.out.okp HP4.out.okp).mono fun e w' h => (by obtain ⟨he, hb'⟩ := h; rw [eqP_of rfl] at he; exact ⟨_, he, hb', rfl⟩))
        clear hb hdep hold
        go_simp
      · intro x w1 bA hbel hdep hold hb
        refine ⟨trivial, ?_⟩
        have e98 : bA.tmps[98]?.getD undef = .bool true := (hb 98).trans (hdep 7 (by decide))
        have e105 : bA.tmps[105]?.getD undef = .bool true := (hb 105).trans (hdep 14 (by decide))
        refine phi_run (.bool true) ?_ rfl
        clear hb hdep hold
        go_simp
      · intro x w1 bA hbel hdep hold hb
        refine ⟨trivial, ?_⟩
        have e106 : bA.tmps[106]?.getD undef = .bool true := (hb 106).trans (hdep 15 (by decide))
        refine phi_run (.bool true) ?_ rfl
        clear hb hdep hold
        go_simp
      intro x w1 hbel hall
      have x0e : x 0 = .agg #[.bool b3, .slice B3 n3 d3] := hall 0 (by decide)
      have x1e : x 1 = .agg #[.bool b1, .slice B1 n1 d1] := hall 1 (by decide)
      have x2e : x 2 = .agg #[.bool b2, .slice B2 n2 d2] := hall 2 (by decide)
      have x3e : x 3 = .int .i64 N := hall 3 (by decide)
      have p95 := hall 4 (by decide)
      have p96 := hall 5 (by decide)
      have x6e : x 6 = .bool true := hall 6 (by decide)
      have x7e : x 7 = .bool true := hall 7 (by decide)
      have x8e : x 8 = .agg #[.bool b4, .slice B4 n4 d4] := hall 8 (by decide)
      have x9e : x 9 = .agg #[.bool b1, .slice B1 n1 d1] := hall 9 (by decide)
      have x10e : x 10 = .int .i64 N := hall 10 (by decide)
      have x11e : x 11 = .int .i64 (-N) := hall 11 (by decide)
      have p103 := hall 12 (by decide)
      have p104 := hall 13 (by decide)
      have x14e : x 14 = .bool true := hall 14 (by decide)
      have x15e : x 15 = .bool true := hall 15 (by decide)
      have x16e : x 16 = .bool true := hall 16 (by decide)
      simp only [putAll, dstOf, Act.put, List.map_cons, List.map_nil, List.setIfInBounds_toArray, List.set_cons_succ, List.set_cons_zero, Nat.reduceAdd, x0e, x1e, x2e, x3e, x6e, x7e, x8e, x9e, x10e, x11e, x14e, x15e, x16e]
      clear x0e x1e x2e x3e x6e x7e x8e x9e x10e x11e x14e x15e x16e hall
      have HFIN := Lib.hid (HBE.out.trans (hbel.mono HBE.out.size))
      go_wp2_with fail
      go_meet
      exact ⟨rfl, HFIN.out⟩
    case rest =>
      obtain ⟨rfl, hb⟩ := hcut
      go_wp2_with fail
      go_ret
      exact ⟨rfl, hb⟩
end Go.Proofs.YtlbihllmpbhhcaaDoor
