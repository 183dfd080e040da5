/- FoxChains: the law's walk. -/
import Derived.Test.YtlbihllmpbhhcaaGreatDoorPvs
import Derived.Test.YtlbihllmpbhhcaaGreatDoorPhs
import Derived.Test.YtlbihllmpbhhcaaGreatDoorPrd
import Derived.Test.YtlbihllmpbhhcaaGreatDoorSbs
namespace Go.Proofs.YtlbihllmpbhhcaaGreatDoor
open Go.RowKit
set_option linter.unusedVariables false

theorem csm_bd (comp inner : List Int) (g : Int) (im : List (List Int)) (w : List Int) (hw : w.length ≤ 12) (hm : ∀ m ∈ im, m.length ≤ 40) : ∀ (n : Nat) (e : Int), (csm comp inner g im w n e).natAbs ≤ n * 480
  | 0, e => by rw [csm]; simp
  | k + 1, e => by
    have h1 := csm_bd comp inner g im w hw hm k e
    have h2 := cvF_dF_bd comp inner (k : Int) g w (im[k]?.getD []) e
    have h3 : (im[k]?.getD []).length ≤ 40 := by
      cases hc : im[k]? with
      | none => simp
      | some m => exact hm m (List.mem_of_getElem? hc)
    have h4 : w.length * (im[k]?.getD []).length ≤ 12 * 40 := Nat.mul_le_mul hw h3
    rw [csm, Nat.succ_mul]; omega
theorem Wds.two {w : World} {b : Nat} {v1 v2 : Value} {us vs : List Int} (h : Arr w b 38 [v1, v2]) (h1 : Ints w v1 us) (h2 : Ints w v2 vs) : Wds w (.slice (some ⟨b, 0, none⟩) 2 2) [us, vs] := by
  refine ⟨_, 2, rfl, fun k hk => ?_⟩
  match k, hk with
  | 0, _ => exact ⟨b, 0, v1, rfl, h.cell 0, h1⟩
  | 1, _ => exact ⟨b, 0, v2, rfl, h.cell 1, h2⟩
theorem fitB_sbs {us vs ws comp : List Int} {gen : Int} (h1 : fitB us comp gen = true) (h2 : fitB vs comp gen = true) : fitB (pshL [] (sbs [us, vs] ws)) comp gen = true := by
  refine fitB_red (fitB_mk (fitB_mem h1).1 (fitB_mem h1).2.1 (fun y hy => ?_) (fitB_mem h1).2.2.2)
  obtain ⟨m, hm, hy⟩ := sbs_mem hy
  simp at hm
  have h3 : ∀ x ∈ m, x ≠ 0 ∧ x ≤ comp.length ∧ -(comp.length : Int) ≤ x := by
    rcases hm with rfl | rfl
    · exact (fitB_mem h1).2.2.1
    · exact (fitB_mem h2).2.2.1
  rcases hy with hy | hy
  · exact h3 y hy
  · have := h3 _ hy; omega
set_option maxHeartbeats 4000000 in
set_option maxRecDepth 100000 in
theorem chains_law (vw va vb vc : Value) (ws us vs : List Int) (gen : Int) (comp : List Int) (w : World) (hw : Ints w vw ws) (ha : Ints w va us) (hb : Ints w vb vs) (hc : Ints w vc comp) (lw : ws.length ≤ 9223372036854775807) (la : us.length ≤ 9223372036854775807) (lb : vs.length ≤ 9223372036854775807) (lc : comp.length ≤ 9223372036854775807) (ht : Tb w) :
    Calls Tryz.prog 4 #[vw, va, vb, .int .i64 gen, vc] w fun e w' => e = .returned (.bool true) ∧ Below w.heap.size w w' := by
  have HA := Lib.hid (awakeF_any w ht)
  have HW := Lib.hid hw
  have HXA := Lib.hid ha
  have HXB := Lib.hid hb
  have HC := Lib.hid hc
  obtain ⟨A0, c0, rfl, -, -⟩ := hw
  obtain ⟨A1, c1, rfl, -, -⟩ := ha
  obtain ⟨A2, c2, rfl, -, -⟩ := hb
  obtain ⟨A3, c3, rfl, -, -⟩ := hc
  obtain ⟨n0, hn0⟩ : ∃ n, n = ws.length := ⟨_, rfl⟩
  obtain ⟨n1, hn1⟩ : ∃ n, n = us.length := ⟨_, rfl⟩
  obtain ⟨n2, hn2⟩ : ∃ n, n = vs.length := ⟨_, rfl⟩
  obtain ⟨n3, hn3⟩ : ∃ n, n = comp.length := ⟨_, rfl⟩
  rw [← hn0] at lw HW ⊢
  rw [← hn1] at la HXA ⊢
  rw [← hn2] at lb HXB ⊢
  rw [← hn3] at lc HC ⊢
  have HN0 := Lib.hid hn0
  have HN1 := Lib.hid hn1
  have HN2 := Lib.hid hn2
  have HN3 := Lib.hid hn3
  clear ht hn0 hn1 hn2 hn3
  go_enter Tryz.func4, Tryz.ntmps4
  go_wp2_with fail
  refine HA.out.mono ?_
  rintro e w1 ⟨rfl, hb1⟩
  have hW : ∀ W, W = (w1.alloc (.cells #[.slice A1 n1 c1, .slice A2 n2 c2] 38)) → Arr W w1.heap.size 38 [.slice A1 n1 c1, .slice A2 n2 c2] ∧ Below w.heap.size w W ∧ w1.heap.size < W.heap.size := by
    rintro W rfl
    exact ⟨Arr.new _ _ [_, _], hb1.alloc hb1.size _, by simp⟩
  have hs1 := hb1.size
  clear HA hb1
  go_upto_region 4 with fail
  generalize (w1.alloc (.cells #[.slice A1 n1 c1, .slice A2 n2 c2] 38)) = w2 at hW ⊢
  obtain ⟨q1, hb2, hlt2⟩ := hW w2 rfl
  clear hW
  obtain ⟨B1, hB1⟩ : ∃ B, B = w1.heap.size := ⟨_, rfl⟩
  rw [← hB1] at q1 hlt2 hs1 ⊢
  have Q1 := Lib.hid q1
  have HB2 := Lib.hid hb2
  have HLT2 := Lib.hid hlt2
  have HS1 := Lib.hid hs1
  clear hB1 q1 hlt2 hs1
  have HG := Lib.hid (great_at3 A0 A1 A2 A3 n0 c0 n1 c1 n2 c2 n3 c3 w2 lw la lb lc)
  have HB3 := Lib.hid (hb2.alloc hb2.size (.cells #[.slice A0 n0 c0, .slice A1 n1 c1, .slice A2 n2 c2] 38))
  clear hb2
  obtain ⟨G, hG⟩ : ∃ G, G = grB [(A0, n0, c0), (A1, n1, c1), (A2, n2, c2)] n3 := ⟨_, rfl⟩
  rw [← hG] at HG
  cases G with
  | true =>
    clear hG
    go_wp2_with fail
    refine HG.out.mono ?_
    rintro e w2 ⟨rfl, rfl⟩
    go_wp2_with fail
    go_ret
    exact ⟨rfl, HB3.out⟩
  | false =>
    obtain ⟨l0, l1, l2, l3⟩ := grB3 hG.symm
    clear hG
    by_cases g12 : (n0 : Int) > 12
    · go_wp2_with fail
      refine HG.out.mono ?_
      rintro e w2 ⟨rfl, rfl⟩
      go_wp2_with fail
      go_ret
      exact ⟨rfl, HB3.out⟩
    have l12 : n0 ≤ 12 := by omega
    have HF1 := Lib.hid (fits_any (.slice A1 n1 c1) (.slice A3 n3 c3) us comp gen _ (HXA.out.below HB3.out) (HC.out.below HB3.out) (by have := HN1.out; omega) (by have := HN3.out; omega))
    have HF2 := Lib.hid (fits_any (.slice A2 n2 c2) (.slice A3 n3 c3) vs comp gen _ (HXB.out.below HB3.out) (HC.out.below HB3.out) (by have := HN2.out; omega) (by have := HN3.out; omega))
    obtain ⟨F1, hF1⟩ : ∃ F, F = fitB us comp gen := ⟨_, rfl⟩
    obtain ⟨F2, hF2⟩ : ∃ F, F = fitB vs comp gen := ⟨_, rfl⟩
    obtain ⟨F3, hF3⟩ : ∃ F, F = fitB ws [1, 1] 0 := ⟨_, rfl⟩
    rw [← hF1] at HF1
    rw [← hF2] at HF2
    cases F1 with
    | false =>
      clear hF1 hF2 hF3 HF2
      go_wp2_with fail
      refine HG.out.mono ?_
      rintro e w2 ⟨rfl, rfl⟩
      go_wp2_with fail
      refine HF1.out.mono ?_
      rintro e w2 ⟨rfl, rfl⟩
      go_wp2_with fail
      go_ret
      exact ⟨rfl, HB3.out⟩
    | true =>
    cases F2 with
    | false =>
      clear hF1 hF2 hF3
      go_wp2_with fail
      refine HG.out.mono ?_
      rintro e w2 ⟨rfl, rfl⟩
      go_wp2_with fail
      refine HF1.out.mono ?_
      rintro e w2 ⟨rfl, rfl⟩
      go_wp2_with fail
      refine HF2.out.mono ?_
      rintro e w2 ⟨rfl, rfl⟩
      go_wp2_with fail
      go_ret
      exact ⟨rfl, HB3.out⟩
    | true =>
    have hW : ∀ W, W = (w2.alloc (.cells #[.slice A0 n0 c0, .slice A1 n1 c1, .slice A2 n2 c2] 38)) → Arr W B1 38 [.slice A1 n1 c1, .slice A2 n2 c2] ∧ B1 < W.heap.size := by
      rintro W rfl
      exact ⟨Q1.out.alloc _, by have := HLT2.out; simp; omega⟩
    have HFA := Lib.hid hF1.symm
    have HFB := Lib.hid hF2.symm
    clear hF1 hF2
    go_wp2_with fail
    refine HG.out.mono ?_
    rintro e w2 ⟨rfl, rfl⟩
    clear HG Q1 HLT2
    generalize (w2.alloc (.cells #[.slice A0 n0 c0, .slice A1 n1 c1, .slice A2 n2 c2] 38)) = w3 at *
    obtain ⟨q3, hlt3⟩ := hW w3 rfl
    clear hW
    have Q3 := Lib.hid q3
    have HLT3 := Lib.hid hlt3
    clear q3 hlt3
    have HB4 := Lib.hid (HB3.out.alloc HB3.out.size (.cells #[.int .i64 1, .int .i64 1] 3))
    have HF3 := Lib.hid (fits_any (.slice A0 n0 c0) (.slice (some ⟨w3.heap.size, 0, none⟩) 2 2) ws [1, 1] 0 (w3.alloc (.cells #[.int .i64 1, .int .i64 1] 3)) (HW.out.below HB4.out) (Ints.of_arr (xs := [1, 1]) (Arr.new w3 3 [.int .i64 1, .int .i64 1])) (by have := HN0.out; omega) (by simp))
    rw [← hF3] at HF3
    cases F3 with
    | false =>
      clear hF3
      go_wp2_with fail
      refine HF1.out.mono ?_
      rintro e w2 ⟨rfl, rfl⟩
      go_wp2_with fail
      refine HF2.out.mono ?_
      rintro e w2 ⟨rfl, rfl⟩
      go_wp2_with fail
      refine HF3.out.mono ?_
      rintro e w2 ⟨rfl, rfl⟩
      go_wp2_with fail
      go_ret
      exact ⟨rfl, HB4.out⟩
    | true =>
    have HFW := Lib.hid hF3.symm
    clear hF3
    go_wp2_with fail
    refine HF1.out.mono ?_
    rintro e w2 ⟨rfl, rfl⟩
    go_wp2_with fail
    refine HF2.out.mono ?_
    rintro e w2 ⟨rfl, rfl⟩
    go_wp2_with fail
    refine HF3.out.mono ?_
    rintro e w2 ⟨rfl, rfl⟩
    clear HF1 HF2 HF3
    have Q4 := Lib.hid (Q3.out.alloc (.cells #[.int .i64 1, .int .i64 1] 3))
    have HLT4 := Lib.hid (show B1 < (w3.alloc (.cells #[.int .i64 1, .int .i64 1] 3)).heap.size by have := HLT3.out; simp; omega)
    go_upto_region 6 with fail
    generalize (w3.alloc (.cells #[.int .i64 1, .int .i64 1] 3)) = w4 at *
    clear Q3 HLT3 HB3
    have HDA := Lib.hid (degree_any (.slice A1 n1 c1) (.slice A3 n3 c3) us comp w4 (HXA.out.below HB4.out) (HC.out.below HB4.out) (by have := HN1.out; omega) (by have := HN3.out; omega) (fitB_mem HFA.out).2.2.1 (fitB_mem HFA.out).2.2.2)
    have HDB := Lib.hid (degree_any (.slice A2 n2 c2) (.slice A3 n3 c3) vs comp w4 (HXB.out.below HB4.out) (HC.out.below HB4.out) (by have := HN2.out; omega) (by have := HN3.out; omega) (fitB_mem HFB.out).2.2.1 (fitB_mem HFB.out).2.2.2)
    have hda := dg_bd (ws := us) (fitB_mem HFA.out).2.2.2
    have hdb := dg_bd (ws := vs) (fitB_mem HFA.out).2.2.2
    obtain ⟨da, hDA⟩ : ∃ d, d = dg comp us := ⟨_, rfl⟩
    obtain ⟨db, hDB⟩ : ∃ d, d = dg comp vs := ⟨_, rfl⟩
    rw [← hDA] at HDA hda
    rw [← hDB] at HDB hdb
    have HXDA := Lib.hid hDA
    have HXDB := Lib.hid hDB
    have hda2 : -40000 ≤ da ∧ da ≤ 40000 := by have := HN1.out; omega
    have hdb2 : -40000 ≤ db ∧ db ≤ 40000 := by have := HN2.out; omega
    clear hDA hDB hda hdb
    go_wp2_with fail
    refine HDA.out.mono ?_
    rintro e w2 ⟨rfl, rfl⟩
    go_wp2_with fail
    refine HDB.out.mono ?_
    rintro e w2 ⟨rfl, rfl⟩
    clear HDA HDB
    have hW : ∀ W, W = (w4.alloc (.cells #[.int .i64 da, .int .i64 db] 3)) → Arr W w4.heap.size 3 [.int .i64 da, .int .i64 db] ∧ Arr W B1 38 [.slice A1 n1 c1, .slice A2 n2 c2] ∧ Below w.heap.size w W ∧ B1 < w4.heap.size ∧ w4.heap.size < W.heap.size := by
      rintro W rfl
      exact ⟨Arr.new _ _ [_, _], Q4.out.alloc _, HB4.out.alloc HB4.out.size _, HLT4.out, by simp⟩
    go_upto_region 7 with fail
    generalize (w4.alloc (.cells #[.int .i64 da, .int .i64 db] 3)) = w5 at hW ⊢
    obtain ⟨q5, q5b, hb5, hlt5, hlt5b⟩ := hW w5 rfl
    clear hW Q4 HLT4 HB4
    obtain ⟨B2, hB2⟩ : ∃ B, B = w4.heap.size := ⟨_, rfl⟩
    rw [← hB2] at q5 hlt5 hlt5b ⊢
    clear hB2
    have y0 := q5.cell 0
    have y1 := q5.cell 1
    have HB5 := Lib.hid hb5
    have Q5i := Lib.hid q5
    have Q5w := Lib.hid q5b
    have HL5 := Lib.hid hlt5
    have HL5b := Lib.hid hlt5b
    clear q5 q5b hb5 hlt5 hlt5b
    by_cases g1 : da < -1000
    · go_wp2_with fail
      go_ret
      exact ⟨rfl, HB5.out⟩
    by_cases g2 : da > 1000
    · go_wp2_with fail
      go_ret
      exact ⟨rfl, HB5.out⟩
    by_cases g3 : db < -1000
    · go_wp2_with fail
      go_ret
      exact ⟨rfl, HB5.out⟩
    by_cases g4 : db > 1000
    · go_wp2_with fail
      go_ret
      exact ⟨rfl, HB5.out⟩
    have HWDS := Lib.hid (Wds.two Q5w.out (HXA.out.below HB5.out) (HXB.out.below HB5.out))
    have hfw := fitB_mem HFW.out
    have hsl : (sbs [us, vs] ws).length ≤ 480 := by
      have h1 := sbs_len (im := [us, vs]) (N := 40) (fun m hm => by
        simp at hm
        rcases hm with rfl | rfl
        · have := HN1.out; omega
        · have := HN2.out; omega) ws
      have := HN0.out
      omega
    have HSB := Lib.hid (substitute_any (.slice A0 n0 c0) (.slice (some ⟨B1, 0, none⟩) 2 2) ws [us, vs] w5 (HW.out.below HB5.out) HWDS.out (by have := HN0.out; omega) (by simp) (fun x hx => by have := hfw.2.2.1 x hx; simpa using this)
      (fun m hm => by
        simp at hm
        rcases hm with rfl | rfl
        · exact ⟨by have := HN1.out; omega, fitB_bd HFA.out (by have := HN3.out; omega)⟩
        · exact ⟨by have := HN2.out; omega, fitB_bd HFB.out (by have := HN3.out; omega)⟩) (by omega))
    have HSL := Lib.hid (show (pshL [] (sbs [us, vs] ws)).length ≤ 1000 by
      have := pshL_len (sbs [us, vs] ws) []
      simp at this
      omega)
    have HFS := Lib.hid (fitB_sbs (ws := ws) HFA.out HFB.out)
    clear hfw hsl
    have HPW := Lib.hid (show ∀ e, dF comp gen (pshL [] (sbs [us, vs] ws)) e = csm comp [da, db] gen [us, vs] ws 2 e from fun e => by
      rw [dF_red comp gen (fun x hx => ?_)]
      · have h1 := chain comp gen [us, vs] (fun m hm x hx => by
          simp at hm
          rcases hm with rfl | rfl
          · exact fitB_ne HFA.out x hx
          · exact fitB_ne HFB.out x hx) ws (fun x hx => by
          have h2 := (fitB_mem HFW.out).2.2.1 x hx
          exact ⟨h2.1, gnr_bd h2.1 h2.2.1 h2.2.2⟩) e
        rw [← h1]
        unfold inn
        rw [List.map_cons, List.map_cons, List.map_nil, ← HXDA.out, ← HXDB.out]
        rfl
      · obtain ⟨m, hm, hy⟩ := sbs_mem hx
        simp at hm
        rcases hm with rfl | rfl
        · rcases hy with hy | hy
          · exact fitB_ne HFA.out _ hy
          · have := fitB_ne HFA.out _ hy; omega
        · rcases hy with hy | hy
          · exact fitB_ne HFB.out _ hy
          · have := fitB_ne HFB.out _ hy; omega)
    go_wp2_with fail
    refine HSB.out.mono ?_
    rintro e w6 ⟨v9, rfl, ho9, hb56⟩
    have HI9 := Lib.hid ho9.ints
    obtain ⟨A9, c9, rfl⟩ := ho9.form
    clear HSB ho9
    have HB6 := Lib.hid (HB5.out.trans (hb56.mono HB5.out.size))
    have Q6i := Lib.hid (Q5i.out.below hb56 Q5i.out.lt)
    have Q6w := Lib.hid (Q5w.out.below hb56 Q5w.out.lt)
    have HDP := Lib.hid (DerPV _ (.slice A3 n3 c3) _ comp gen w6 HI9.out (HC.out.below HB6.out) HSL.out (by have := HN3.out; omega) HFS.out)
    generalize (pshL [] (sbs [us, vs] ws)).length = n9 at *
    have HS56 := Lib.hid hb56.size
    clear hb56 y0 y1 Q5i Q5w HWDS HB5
    go_wp2_with fail
    refine HDP.out.mono ?_
    rintro e w7 ⟨bp, Ap, np, cp, rfl, hb67, hp7⟩
    clear HDP
    have hW : ∀ W, W = (w7.alloc (.cells #[.bool bp, .slice Ap np cp] 28)) → Arr W w7.heap.size 28 [.bool bp, .slice Ap np cp] ∧ PV W (.agg #[.bool bp, .slice Ap np cp]) (csm comp [da, db] gen [us, vs] ws 2) ∧ Arr W B2 3 [.int .i64 da, .int .i64 db] ∧ Arr W B1 38 [.slice A1 n1 c1, .slice A2 n2 c2] ∧ Below w.heap.size w W := by
      rintro W rfl
      exact ⟨Arr.new _ _ [_, _], (hp7.congr HPW.out).below ((Below.refl _ _).alloc (Nat.le_refl _) _), (Q6i.out.below hb67 Q6i.out.lt).alloc _, (Q6w.out.below hb67 Q6w.out.lt).alloc _, (HB6.out.trans (hb67.mono HB6.out.size)).alloc (by have := HB6.out.size; have := hb67.size; omega) _⟩
    go_upto_region 13 with fail
    generalize (w7.alloc (.cells #[.bool bp, .slice Ap np cp] 28)) = w8 at hW ⊢
    obtain ⟨qp8, hp8, q8i, q8w, hb8⟩ := hW w8 rfl
    clear hW Q6i Q6w HB6 hb67 hp7 HI9 HPW HS56
    obtain ⟨Bp, hBp⟩ : ∃ B, B = w7.heap.size := ⟨_, rfl⟩
    rw [← hBp] at qp8 ⊢
    clear hBp
    have HSTK := Lib.hid (show ∀ W, Below w8.heap.size w8 W → Ints W (.slice A0 n0 c0) ws ∧ Ints W (.slice A3 n3 c3) comp ∧ Wds W (.slice (some ⟨B1, 0, none⟩) 2 2) [us, vs] ∧ Ints W (.slice (some ⟨B2, 0, none⟩) 2 2) [da, db] ∧ Arr W Bp 28 [.bool bp, .slice Ap np cp] ∧ PV W (.agg #[.bool bp, .slice Ap np cp]) (csm comp [da, db] gen [us, vs] ws 2) ∧ Below w.heap.size w W from fun W hb => by
      have hbw := hb8.trans (hb.mono hb8.size)
      exact ⟨HW.out.below hbw, HC.out.below hbw, Wds.two (q8w.below hb q8w.lt) (HXA.out.below hbw) (HXB.out.below hbw), Ints.of_arr (xs := [da, db]) (q8i.below hb q8i.lt), qp8.below hb qp8.lt, hp8.below hb, hbw⟩)
    clear qp8 hp8 q8i q8w hb8
    have HST := Lib.hid (show ∃ (b : Bool) (A : Option Addr) (n c : Nat), Arr (w8.alloc (.cells #[.bool false, .slice none 0 0] 28)) w8.heap.size 28 [.bool b, .slice A n c] ∧ PV (w8.alloc (.cells #[.bool false, .slice none 0 0] 28)) (.agg #[.bool b, .slice A n c]) (csm comp [da, db] gen [us, vs] ws 0) ∧ Below w8.heap.size w8 (w8.alloc (.cells #[.bool false, .slice none 0 0] 28)) from
      ⟨false, none, 0, 0, Arr.new _ _ [_, _], (PV.zero _).congr (fun e => rfl), (Below.refl _ _).alloc (Nat.le_refl _) _⟩)
    go_wp2_with fail
    generalize (w8.alloc (.cells #[.bool false, .slice none 0 0] 28)) = w9 at HST ⊢
    obtain ⟨B5, hB5⟩ : ∃ B, B = w8.heap.size := ⟨_, rfl⟩
    rw [← hB5] at HST HSTK ⊢
    have HB5 := Lib.hid hB5
    clear hB5
    have HDAB := Lib.hid (show -1000 ≤ da ∧ da ≤ 1000 ∧ -1000 ≤ db ∧ db ≤ 1000 by omega)
    clear g1 g2 g3 g4 hda2 hdb2
    go_loopg [110] 2 (fun gk s110 wr => ∃ k : Nat, k ≤ 2 ∧ gk = 2 - k ∧ s110 = .int .i64 (k : Int) ∧ Hid (∃ (b : Bool) (A : Option Addr) (n c : Nat), Arr wr B5 28 [.bool b, .slice A n c] ∧ PV wr (.agg #[.bool b, .slice A n c]) (csm comp [da, db] gen [us, vs] ws k) ∧ Below B5 w8 wr))
    case atStart => exact ⟨0, by omega, rfl, rfl, HST⟩
    case round =>
      clear HST
      obtain ⟨k, hk, rfl, rfl, HR⟩ := hrel
      obtain ⟨b5, A5, n5, c5, q5, hp5, hb5⟩ := HR.out
      clear HR
      obtain ⟨hiw, hic, hwd, hin, harp, hpp, hbw⟩ := HSTK.out wr hb5
      by_cases hlt : k < 2
      · have z1 : (k : Int) < 2 := by omega
        obtain ⟨b, o, vk, hbo, hcell, hik⟩ := hwd.at_ (k := k) hlt
        injection hbo with hbo
        injection hbo with e1 e2
        subst e1 e2
        rw [Nat.zero_add] at hcell
        have HCS := Lib.hid (show ∀ e, csm comp [da, db] gen [us, vs] ws (k + 1) e = csm comp [da, db] gen [us, vs] ws k e + cvF (dF [da, db] (k : Int) ws) (drv comp gen ([us, vs][k]) 0) e from fun e => by
          rw [csm, List.getElem?_eq_getElem (by simpa using hlt)]; rfl)
        have HFK := Lib.hid (show fitB [us, vs][k] comp gen = true ∧ [us, vs][k].length ≤ 40 from by
          match k, hlt with
          | 0, _ => exact ⟨HFA.out, by have := HN1.out; show us.length ≤ 40; omega⟩
          | 1, _ => exact ⟨HFB.out, by have := HN2.out; show vs.length ≤ 40; omega⟩)
        generalize [us, vs][k] = xs at *
        have HIK := Lib.hid hik
        obtain ⟨Ak, ck, rfl, -, -⟩ := hik
        obtain ⟨nk, hnk⟩ : ∃ n, n = xs.length := ⟨_, rfl⟩
        rw [← hnk] at HIK HFK hcell
        have HNK := Lib.hid hnk
        clear hnk hwd
        have HD1 := Lib.hid (DerPV (.slice A0 n0 c0) (.slice (some ⟨B2, 0, none⟩) 2 2) ws [da, db] (k : Int) wr hiw hin (by have := HN0.out; omega) (by simp) (fitB_mk (by omega) (by simp; omega) (fitB_mem HFW.out).2.2.1 (fun c hc => by simp at hc; have := HDAB.out; rcases hc with rfl | rfl <;> omega)))
        have HBR := Lib.hid hbw
        have HB8 := Lib.hid hb5
        have HQ5 := Lib.hid q5
        have HP5r := Lib.hid hp5
        have HIC := Lib.hid hic
        have hbr : B5 < wr.heap.size := q5.lt
        clear hiw hic hin harp hpp hbw hb5 q5 hp5
        go_wp2_with fail
        refine HD1.out.mono ?_
        rintro e wa ⟨ba, Aa, na, ca, rfl, hba, hpa⟩
        have hWa : ∀ W, W = wa.alloc (.cells #[.bool ba, .slice Aa na ca] 28) → Arr W wa.heap.size 28 [.bool ba, .slice Aa na ca] ∧ Below wr.heap.size wr W ∧ PV W (.agg #[.bool ba, .slice Aa na ca]) (dF [da, db] (k : Int) ws) := by
          rintro W rfl
          exact ⟨Arr.new _ _ [_, _], hba.alloc hba.size _, hpa.below ((Below.refl _ _).alloc (Nat.le_refl _) _)⟩
        go_upto_region 18 with fail
        generalize (wa.alloc (.cells #[.bool ba, .slice Aa na ca] 28)) = wa2 at hWa ⊢
        obtain ⟨qa, hbra, hpa2⟩ := hWa wa2 rfl
        clear hWa hba hpa HD1 hcell
        obtain ⟨Ba, hBa⟩ : ∃ B, B = wa.heap.size := ⟨_, rfl⟩
        rw [← hBa] at qa ⊢
        clear hBa
        have HD2 := Lib.hid (DerPV (.slice Ak nk ck) (.slice A3 n3 c3) xs comp gen wa2 (HIK.out.below hbra) (HIC.out.below hbra) (by have := HNK.out; have := HFK.out.2; omega) (by have := HN3.out; omega) HFK.out.1)
        have HBRA := Lib.hid hbra
        have HQA := Lib.hid qa
        have HPA2 := Lib.hid hpa2
        clear hbra qa hpa2
        go_wp2_with fail
        refine HD2.out.mono ?_
        rintro e wb ⟨bb, Ab, nb, cb, rfl, hbb, hpb⟩
        have hWb : ∀ W, W = wb.alloc (.cells #[.bool bb, .slice Ab nb cb] 28) → Arr W wb.heap.size 28 [.bool bb, .slice Ab nb cb] ∧ Below wa2.heap.size wa2 W ∧ PV W (.agg #[.bool bb, .slice Ab nb cb]) (dF comp gen xs) := by
          rintro W rfl
          exact ⟨Arr.new _ _ [_, _], hbb.alloc hbb.size _, hpb.below ((Below.refl _ _).alloc (Nat.le_refl _) _)⟩
        go_upto_region 21 with fail
        generalize (wb.alloc (.cells #[.bool bb, .slice Ab nb cb] 28)) = w9 at hWb ⊢
        obtain ⟨qb, hbab, hpb2⟩ := hWb w9 rfl
        clear hWb hbb hpb HD2
        obtain ⟨Bb, hBb⟩ : ∃ B, B = wb.heap.size := ⟨_, rfl⟩
        rw [← hBb] at qb ⊢
        clear hBb
        have hb9 := HBRA.out.trans (hbab.mono HBRA.out.size)
        have Q5 := Lib.hid (HQ5.out.below hb9 HQ5.out.lt)
        have HP5 := Lib.hid (HP5r.out.below hb9)
        have QA := Lib.hid (HQA.out.below hbab HQA.out.lt)
        have HPA := Lib.hid (HPA2.out.below hbab)
        have QB := Lib.hid qb
        have HPB := Lib.hid hpb2
        have HB9 := Lib.hid (HB8.out.trans (hb9.mono (Nat.le_of_lt hbr)))
        clear hb9 hbab qb hpb2 HQ5 HP5r HQA HPA2 HBRA
        have HMH := Lib.hid (show ∀ p q : List (Int × Int), (∀ e, cf p e = dF [da, db] (k : Int) ws e) → (∀ e, cf q e = dF comp gen xs e) → ∀ e, cv p q e = cvF (dF [da, db] (k : Int) ws) (drv comp gen xs 0) e from fun p q h1 h2 e => cv_der h1 h2 e)
        have HHB := Lib.hid (show ∀ e, (cvF (dF [da, db] (k : Int) ws) (drv comp gen xs 0) e).natAbs ≤ 480 from fun e => by
          have h1 := cvF_dF_bd comp [da, db] (k : Int) gen ws xs e
          have h2 : ws.length * xs.length ≤ 12 * 40 := Nat.mul_le_mul (by have := HN0.out; omega) (by have := HNK.out; have := HFK.out.2; omega)
          omega)
        have HS1 := Lib.hid (show Sup (dF [da, db] (k : Int) ws) 12000 from fun e he => by
          have := Sup.dF (N := 1000) (by omega) (fun c hc => by simp at hc; have := HDAB.out; rcases hc with rfl | rfl <;> omega) e he
          have := HN0.out
          omega)
        have HS2 := Lib.hid (show Sup (dF comp gen xs) 40000 from fun e he => by
          have := Sup.dF (N := 1000) (by omega) (fitB_mem HFK.out.1).2.2.2 e he
          have := HNK.out
          have := HFK.out.2
          omega)
        have HCB := Lib.hid (fun e => csm_bd comp [da, db] gen [us, vs] ws (by have := HN0.out; omega) (fun m hm => by
          simp at hm
          rcases hm with rfl | rfl
          · have := HN1.out; omega
          · have := HN2.out; omega) k e)
        generalize hFA : dF [da, db] (k : Int) ws = FA at *
        generalize hFB : dF comp gen xs = FB at *
        generalize hHH : cvF FA (drv comp gen xs 0) = HH at *
        have HAE := Lib.hid (show ∀ e, csm comp [da, db] gen [us, vs] ws k e + HH e = csm comp [da, db] gen [us, vs] ws (k + 1) e from fun e => (HCS.out e).symm)
        obtain ⟨FS, hFS⟩ : ∃ f, f = csm comp [da, db] gen [us, vs] ws (k + 1) := ⟨_, rfl⟩
        rw [← hFS] at HAE
        have HFSQ := Lib.hid hFS
        clear hFS HCS hFA hFB hHH
        generalize csm comp [da, db] gen [us, vs] ws k = F0 at *
        have HMB := Lib.hid (show ∀ e, -1125899906842624 ≤ HH e ∧ HH e ≤ 1125899906842624 from fun e => by have := HHB.out e; omega)
        have HAB := Lib.hid (show ∀ e, -1125899906842624 ≤ F0 e + HH e ∧ F0 e + HH e ≤ 1125899906842624 from fun e => by
          have h1 := HHB.out e
          have h2 := HCB.out e
          have h3 : k * 480 ≤ 2 * 480 := Nat.mul_le_mul_right _ (by omega)
          omega)
        clear HHB HCB
        refine wp_region_phis 5 (by kernel_rfl) (by kernel_rfl) (by kernel_rfl) (by kernel_rfl) (by kernel_rfl) rfl (by kernel_rfl) (phiT (fun i => ([some (.agg #[.bool b5, .slice A5 n5 c5]), some (.agg #[.bool ba, .slice Aa na ca]), some (.agg #[.bool bb, .slice Ab nb cb]), none, none, some (undef)] : List (Option Value)).getD i none) (fun i v w => (if i = 3 then (fun v w => PV w v HH) v w else (if i = 4 then (fun v w => PV w v FS) v w else True)))) (fun i v w w' h hb => ?_) (fun i => false) (fun i v w hi h k hk => ?_) (fun _ W => ∃ (b : Bool) (A : Option Addr) (n c : Nat), Arr W B5 28 [.bool b, .slice A n c] ∧ PV W (.agg #[.bool b, .slice A n c]) FS ∧ Below B5 w9 W) ⟨?_, ?_, ?_, ?_, ?_, ?_, trivial⟩ ?_
        · unfold phiT at h ⊢
          split
          · next u hu => rw [hu] at h; exact h
          · next hu =>
            rw [hu] at h
            simp only at h ⊢
            by_cases q3 : i = 3
            · rw [if_pos q3] at h ⊢; exact PV.below h hb
            · rw [if_neg q3] at h ⊢
              by_cases q4 : i = 4
              · rw [if_pos q4] at h ⊢; exact PV.below h hb
              · rw [if_neg q4] at h ⊢
                trivial
        · simp only [Bool.or_eq_true, decide_eq_true_eq, Bool.false_eq_true] at hi
        · intro x w1 bA hbel hdep hdap hold hb
          refine ⟨fun _ => ?_, fun h => absurd h (by decide)⟩
          have e17 : bA.tmps[17]?.getD undef = .pointer (some ⟨B5, 0, none⟩) := hb 17
          have cc0 := (Q5.out.below hbel Q5.out.lt).cell 0
          have cc1 := (Q5.out.below hbel Q5.out.lt).cell 1
          refine phf_run (.agg #[.bool b5, .slice A5 n5 c5]) rfl ?_ rfl
          clear hb hdep hdap hold
          go_simp
        · intro x w1 bA hbel hdep hdap hold hb
          refine ⟨fun _ => ?_, fun h => absurd h (by decide)⟩
          have e20 : bA.tmps[20]?.getD undef = .pointer (some ⟨Ba, 0, none⟩) := hb 20
          have cc0 := (QA.out.below hbel QA.out.lt).cell 0
          have cc1 := (QA.out.below hbel QA.out.lt).cell 1
          refine phf_run (.agg #[.bool ba, .slice Aa na ca]) rfl ?_ rfl
          clear hb hdep hdap hold
          go_simp
        · intro x w1 bA hbel hdep hdap hold hb
          refine ⟨fun _ => ?_, fun h => absurd h (by decide)⟩
          have e22 : bA.tmps[22]?.getD undef = .pointer (some ⟨Bb, 0, none⟩) := hb 22
          have cc0 := (QB.out.below hbel QB.out.lt).cell 0
          have cc1 := (QB.out.below hbel QB.out.lt).cell 1
          refine phf_run (.agg #[.bool bb, .slice Ab nb cb]) rfl ?_ rfl
          clear hb hdep hdap hold
          go_simp
        · intro x w1 bA hbel hdep hdap hold hb
          refine ⟨fun _ => ?_, fun h => absurd h (by decide)⟩
          have e136 : bA.tmps[136]?.getD undef = .agg #[.bool ba, .slice Aa na ca] := (hb 136).trans (hdep 1 (by decide))
          have e137 : bA.tmps[137]?.getD undef = .agg #[.bool bb, .slice Ab nb cb] := (hb 137).trans (hdep 2 (by decide))
          refine phf_call ?_ ((MulPV (.agg #[.bool ba, .slice Aa na ca]) (.agg #[.bool bb, .slice Ab nb cb]) FA FB HH 12000 40000 w1 (HPA.out.below hbel) (HPB.out.below hbel) HMH.out HMB.out HS1.out HS2.out (by omega)).mono fun e w' h => (by obtain ⟨v, he, hb', hv⟩ := h; exact ⟨v, he, hb', hv, fun e => Bool.noConfusion e⟩))
          clear hb hdep hdap hold
          go_simp
        · intro x w1 bA hbel hdep hdap hold hb
          refine ⟨fun _ => ?_, fun h => absurd h (by decide)⟩
          have e135 : bA.tmps[135]?.getD undef = .agg #[.bool b5, .slice A5 n5 c5] := (hb 135).trans (hdep 0 (by decide))
          have p138 := hdep 3 (by decide)
          have e138 : bA.tmps[138]?.getD undef = x 3 := hb 138
          generalize x 3 = x138 at *
          have P138 := Lib.hid (show (fun v w => PV w v HH) x138 w1 from p138)
          clear p138
          refine phf_call ?_ ((AddPV (.agg #[.bool b5, .slice A5 n5 c5]) x138 F0 HH w1 (HP5.out.below hbel) P138.out HAB.out).mono fun e w' h => (by obtain ⟨v, he, hb', hv⟩ := h; exact ⟨v, he, hb', hv.congr HAE.out, fun e => Bool.noConfusion e⟩))
          clear hb hdep hdap hold
          go_simp
        · intro x w1 bA hbel hdep hdap hold hb
          refine ⟨fun h => absurd h (by decide), fun _ hall => ?_⟩
          have e17 : bA.tmps[17]?.getD undef = .pointer (some ⟨B5, 0, none⟩) := hb 17
          have e139 : bA.tmps[139]?.getD undef = x 4 := hb 139
          have p138 := Lib.hid (show (fun v w => PV w v HH) (x 3) w1 from hall 3 (by decide))
          have p139 := Lib.hid (show (fun v w => PV w v FS) (x 4) w1 from hall 4 (by decide))
          clear hb hdep hdap hold
          obtain ⟨bz, Az, nz, cz, e50b⟩ := p139.out.form
          rw [e50b] at e139
          have HPV := Lib.hid (e50b ▸ p139.out)
          have q5 := Q5.out.below hbel Q5.out.lt
          have Q5b := Lib.hid q5
          have f0 := q5.frozen 0
          have f1 := q5.frozen 1
          have c0 := q5.cell 0
          have c1 := q5.cell 1
          have HBL := Lib.hid hbel
          clear q5 e50b p139 p138 hbel
          refine phl_store (R := fun W => ∃ (b : Bool) (A : Option Addr) (n c : Nat), Arr W B5 28 [.bool b, .slice A n c] ∧ PV W (.agg #[.bool b, .slice A n c]) FS ∧ Below B5 w9 W) ((w1.setCell ⟨B5, 0, none⟩ (.bool bz)).setCell ⟨B5, 1, none⟩ (.slice Az nz cz)) ?_ rfl ⟨bz, Az, nz, cz, (Q5b.out.set 0 _).set 1 _, HPV.out.box Q5b.out _ _, ((HBL.out.mono (Nat.le_of_lt Q5.out.lt)).setCell (p := ⟨B5, 0, none⟩) (Nat.le_refl _) _).setCell (p := ⟨B5, 1, none⟩) (Nat.le_refl _) _⟩
          go_simp
        intro y w10 hR
        simp only [putAll, dstOf, Act.put, List.map_cons, List.map_nil, List.setIfInBounds_toArray, List.set_cons_succ, List.set_cons_zero, Nat.reduceAdd]
        have HF := Lib.hid (show ∃ (b : Bool) (A : Option Addr) (n c : Nat), Arr w10 B5 28 [.bool b, .slice A n c] ∧ PV w10 (.agg #[.bool b, .slice A n c]) FS ∧ Below B5 w8 w10 from by
          obtain ⟨b, A, n, c, h1, h2, h3⟩ := hR
          exact ⟨b, A, n, c, h1, h2, HB9.out.trans h3⟩)
        clear hR
        go_wp2_with fail
        go_roundg (2 - (k + 1))
        case measure => omega
        case rel => exact ⟨k + 1, by omega, rfl, by go_num, by rw [← HFSQ.out]; exact HF⟩
      · have z1 : ¬ (k : Int) < 2 := by omega
        obtain rfl : k = 2 := by omega
        have HBW := Lib.hid hbw
        have HEQ := Lib.hid (EqualPV _ _ _ _ wr hp5 hpp (fun e => rfl))
        have cc0 := q5.cell 0
        have cc1 := q5.cell 1
        have cp0 := harp.cell 0
        have cp1 := harp.cell 1
        clear hiw hic hwd hin harp hpp hbw hb5 q5 hp5
        go_wp2_with fail
        refine HEQ.out.mono ?_
        rintro e wz ⟨rfl, hbz⟩
        go_wp2_with fail
        go_ret
        exact ⟨rfl, HBW.out.trans (hbz.mono HBW.out.size)⟩
end Go.Proofs.YtlbihllmpbhhcaaGreatDoor
