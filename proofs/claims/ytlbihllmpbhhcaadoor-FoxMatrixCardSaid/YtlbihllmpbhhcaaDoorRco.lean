/- unravelref12.collect. -/
import Derived.Test.YtlbihllmpbhhcaaDoorRfs
namespace Go.Proofs.YtlbihllmpbhhcaaDoor
open Go.RowKit
set_option linter.unusedVariables false

set_option maxHeartbeats 4000000 in
set_option maxRecDepth 100000 in
theorem collect_ref (v1 v2 : Value) (L : List (Int × Int)) (w : World) (hs : Sums w v1 v2 L) (hl : L.length ≤ 1000000) :
    Calls Tryd.prog 68 #[v1, v2] w fun e w' => ∃ v, e = .returned v ∧ RP w' v (colP L) ∧ Below w.heap.size w w' := by
  have HS := Lib.hid (fun W (hb : Below w.heap.size w W) => hs.below hb)
  obtain ⟨⟨A, c, rfl, hcA, _⟩, A2, c2, rfl, hcB, _⟩ := hs
  rw [List.length_map] at hcA hcB HS ⊢
  rw [List.length_map] at HS ⊢
  obtain ⟨P, hP⟩ : ∃ P, P = colP L := ⟨_, rfl⟩
  rw [← hP]
  have HP := Lib.hid hP
  clear hP
  have hW : ∀ W, W = ((w.alloc (.cells #[.slice none 0 0, .bool false] 36)).alloc (.cells #[.slice none 0 0, .bool false] 36)) → RcS w.heap.size W W (.slice none 0 0) [] ∧ Below w.heap.size w W := by
    intro W hW
    subst hW
    exact ⟨⟨Below.refl _ _, by simp, (Arr.new _ _ [_, _]).alloc _, Arr.newAt (w.alloc _) _ [_, _] _ (by simp), OwnA.nil _ _ _ _ _⟩, ((Below.refl _ _).alloc (Nat.le_refl _) _).alloc (by simp) _⟩
  obtain ⟨n, hn⟩ : ∃ n, n = L.length := ⟨_, rfl⟩
  rw [← hn] at hl hcA hcB HS ⊢
  have HN := Lib.hid hn
  clear hn
  go_enter Tryd.func68, Tryd.ntmps68
  go_upto_region 2 with fail
  generalize ((w.alloc (.cells #[.slice none 0 0, .bool false] 36)).alloc (.cells #[.slice none 0 0, .bool false] 36)) = w3 at hW ⊢
  obtain ⟨hst, hb3⟩ := hW w3 rfl
  have HB3 := Lib.hid hb3
  have HS3 := Lib.hid (fun W (hb : Below w.heap.size w3 W) => HS.out W (hb3.trans hb))
  obtain ⟨rb, hrb⟩ : ∃ r, r = w.heap.size := ⟨_, rfl⟩
  rw [← hrb] at hst HS3 HB3 ⊢
  have HBR := Lib.hid (show rb ≤ rb from Nat.le_refl _)
  have HRB := Lib.hid hrb
  clear hW hb3 HS hrb
  go_wp2_with fail
  go_loopg [6, 7, 8] n (fun gk s6 s7 s8 wr => ∃ (k : Nat) (s : Value), k ≤ n ∧ gk = n - k ∧ s6 = .int .i64 (k : Int) ∧ RcS rb w3 wr s (colL (L.take k)) ∧ Hid (colB (L.take k) = true))
  case atStart => exact ⟨0, _, Nat.zero_le _, rfl, rfl, hst, Lib.hid rfl⟩
  case round =>
    clear hst
    obtain ⟨k, s, hk, rfl, rfl, hst, HK⟩ := hrel
    by_cases hlt : k < n
    · have z1 : (k : Int) < (n : Int) := by omega
      have hkl : k < L.length := by have := HN.out; omega
      obtain ⟨b, o, ⟨c', hv⟩, -, hcell⟩ := ints_atZ (HS3.out wr hst.bel).1.ints (k := k) (by simpa using hkl)
      injection hv with hv1 hv2 hv3
      subst hv1 hv3
      clear hv2 hcell
      obtain ⟨b2, o2, rfl, hn2, -, -⟩ := (HS3.out wr hst.bel).2.wat (k := k) (by simpa using hkl)
      clear hn2
      obtain ⟨y, hy⟩ : ∃ y, y = L[k].1 := ⟨_, rfl⟩
      obtain ⟨X, hX2⟩ : ∃ X, X = L[k].2 := ⟨_, rfl⟩
      have HEX0 := Lib.hid (fun W (hb : Below rb w3 W) => (show W.cell? ⟨b, o + k, none⟩ = some (.int .i64 y) from by
        obtain ⟨b', o', ⟨c', hv⟩, _, hcell⟩ := ints_atZ (HS3.out W hb).1.ints (k := k) (by simpa using hkl)
        injection hv with hv1 hv2 hv3
        injection hv1 with hv1
        injection hv1 with q1 q2
        subst q1 q2
        rw [hcell, List.getElem_map, hy]))
      have HSU := Lib.hid (fun W (hb : Below rb w3 W) => (show W.cell? ⟨b2, o2 + k * 2, none⟩ = some (.int .i64 (nh X)) ∧ W.cell? ⟨b2, o2 + k * 2 + 1, none⟩ = some (.int .i64 (nl X)) from by
        obtain ⟨b', o', hv, _, c0, c1⟩ := (HS3.out W hb).2.wat (k := k) (by simpa using hkl)
        injection hv with hv
        injection hv with q1 q2
        subst q1 q2
        rw [c0, c1, List.getElem_map, hX2]
        exact ⟨rfl, rfl⟩))
      have HL := Lib.hid (show colL (L.take (k + 1)) = colL (L.take k) ++ (if X = 0 then [] else [(y, X)]) from by rw [colL_snoc hkl, hX2, hy])
      have HB := Lib.hid (show colB (L.take (k + 1)) = (colB (L.take k) && (X == 0 || (decide (-1125899906842624 ≤ X ∧ X ≤ 1125899906842624) && decide (-1048576 ≤ y ∧ y ≤ 1048576)))) from by rw [colB_snoc hkl, hX2, hy])
      have HBad := Lib.hid (fun (h : colB (L.take (k + 1)) = false) => (show P = none from by rw [HP.out]; unfold colP; rw [colB_take h]; rfl))
      have HRL := Lib.hid (show (colL (L.take k)).length ≤ 1000000 from by have := colL_len (L.take k); rw [List.length_take] at this; omega)
      generalize colL (L.take k) = R at *
      clear hy hX2
      obtain ⟨As, cs, rfl⟩ := hst.own.form
      have HST := Lib.hid hst
      obtain ⟨ce0, ce1⟩ := HSU.out wr hst.bel
      have cx := HEX0.out wr hst.bel
      by_cases hX : X = 0
      · have HL2 := Lib.hid (show colL (L.take (k + 1)) = R from by rw [HL.out, if_pos hX, List.append_nil])
        have HB2 := Lib.hid (show colB (L.take (k + 1)) = true from by rw [HB.out, HK.out]; simp [hX])
        rw [hX, show nh 0 = 0 from rfl] at ce0
        rw [hX, show nl 0 = 0 from rfl] at ce1
        clear HL HB HBad hX hst
        go_wp2_with fail
        go_roundg (n - (k + 1))
        case measure => omega
        case rel => exact ⟨k + 1, _, by omega, rfl, by go_num, by rw [HL2.out]; exact HST.out, HB2⟩
      · have HL2 := Lib.hid (show colL (L.take (k + 1)) = R ++ [(y, X)] from by rw [HL.out, if_neg hX])
        have HB2 := Lib.hid (show colB (L.take (k + 1)) = (rsB X && decide (-1048576 ≤ y ∧ y ≤ 1048576)) from by rw [HB.out, HK.out, show (X == 0) = false by simp [hX]]; rfl)
        have hnz : (nh X = 0 ∧ nl X = 0) ↔ False := by rw [nw_zero]; exact ⟨hX, False.elim⟩
        have HSM := Lib.hid (fun W => rsmall_any X W)
        have HRN := Lib.hid (fun (h : rsB X = true) => rsN_of h)
        have qr := hst.res
        have x0 := qr.cell 0
        have x1 := qr.cell 1
        have f0 := qr.frozen 0
        have f1 := qr.frozen 1
        clear HL HB hX qr
        generalize nh X = a1 at *
        generalize nl X = a2 at *
        have HNZ := Lib.hid hnz
        clear hnz
        go_upto_region 5 with fail
        go_cut [20] (fun s20 wx => s20 = .bool false ∧ wx = wr)
        case first =>
          go_wp2_with fail
          all_goals (go_meet; first | exact ⟨rfl, rfl⟩ | exact (HNZ.out.1 ⟨by omega, by omega⟩).elim)
        case rest =>
        obtain ⟨rfl, rfl⟩ := hcut
        clear HNZ
        go_upto_region 7 with (go_at_call 88; refine (HSM.out wc).mono ?_; rintro e w5 ⟨rfl, hb5⟩)
        obtain ⟨RN, hRN⟩ : ∃ z, z = rsN X := ⟨_, rfl⟩
        obtain ⟨RB, hRB⟩ : ∃ z, z = rsB X := ⟨_, rfl⟩
        rw [← hRN, ← hRB]
        rw [← hRB] at HB2
        have HRN2 := Lib.hid (show RB = true → RN = X from fun h => hRN.trans (HRN.out (hRB.symm.trans h)))
        clear hRN hRB HRN HSM x0 x1 f0 f1 ce0 ce1 cx
        have HST5 := Lib.hid (HST.out.below hb5)
        clear HST hst hb5
        have cx := HEX0.out w5 HST5.out.bel
        have qr := HST5.out.res
        have x0 := qr.cell 0
        have x1 := qr.cell 1
        have f0 := qr.frozen 0
        have f1 := qr.frozen 1
        have HRS := Lib.hid ((qr.set 0 (.slice none 0 0)).set 1 (.bool true))
        have HBE := Lib.hid ((HST5.out.bel.setCell (p := ⟨rb, 0, none⟩) (Nat.le_refl _) (.slice none 0 0)).setCell (p := ⟨rb, 1, none⟩) (Nat.le_refl _) (.bool true))
        clear qr
        cases RB with
        | false =>
          have HPN := Lib.hid (HBad.out (by rw [HB2.out]; rfl))
          clear HBad HB2 HL2 HRN2
          go_wp2_with fail
          refine bodyPost_ret (v := .agg #[.slice none 0 0, .bool true]) (results_c Tryd.results68 _ _ rb 36 _ _ rfl HRS.out Tryd.underlying36 rfl info_rp) rfl ?_
          exact ⟨_, rfl, by rw [HPN.out]; exact RP.big _, by rw [← HRB.out]; exact HB3.out.trans (HBE.out.mono HBR.out)⟩
        | true =>
          have e0 := HRN2.out rfl
          subst e0
          clear HRN2
          by_cases hy1 : y < -1048576
          · have HPN := Lib.hid (HBad.out (by rw [HB2.out, Bool.true_and]; exact decide_eq_false (by omega)))
            clear HBad HB2 HL2
            go_wp2_with fail
            refine bodyPost_ret (v := .agg #[.slice none 0 0, .bool true]) (results_c Tryd.results68 _ _ rb 36 _ _ rfl HRS.out Tryd.underlying36 rfl info_rp) rfl ?_
            exact ⟨_, rfl, by rw [HPN.out]; exact RP.big _, by rw [← HRB.out]; exact HB3.out.trans (HBE.out.mono HBR.out)⟩
          · by_cases hy2 : y > 1048576
            · have HPN := Lib.hid (HBad.out (by rw [HB2.out, Bool.true_and]; exact decide_eq_false (by omega)))
              clear HBad HB2 HL2
              go_wp2_with fail
              refine bodyPost_ret (v := .agg #[.slice none 0 0, .bool true]) (results_c Tryd.results68 _ _ rb 36 _ _ rfl HRS.out Tryd.underlying36 rfl info_rp) rfl ?_
              exact ⟨_, rfl, by rw [HPN.out]; exact RP.big _, by rw [← HRB.out]; exact HB3.out.trans (HBE.out.mono HBR.out)⟩
            · have HB4 := Lib.hid (show colB (L.take (k + 1)) = true from by rw [HB2.out, Bool.true_and]; exact decide_eq_true (by omega))
              have HEX := Lib.hid (fun W (hb : Below w5.heap.size w5 W) => HEX0.out W (HST5.out.below hb).bel)
              have HST := Lib.hid HST5.out
              clear HBad HB2 HST5 HRS HBE
              go_upto_region 9 with fail
              refine wp_region_factsU (by kernel_rfl) (by kernel_rfl) (by kernel_rfl) (by kernel_rfl) (by kernel_rfl) (ApS 86 2 et (rb + 2) w5 (fun i => ([some (.pointer (some ⟨rb + 1, 0, none⟩)), some (.slice As R.length cs), some (.slice (some ⟨b, o, none⟩) n c), some (.int .i64 (k : Int)), some (.pointer (some ⟨b, o + k, none⟩)), some (.int .i64 y), some (.int .i64 RN), some (.agg #[.int .i64 y, .int .i64 RN]), none, none, some (.pointer (some ⟨rb + 1, 0, none⟩)), none] : List (Option Value)).getD i none) 8 9 11 (.slice As R.length cs) (⟨rb + 1, 0, none⟩) (R) ([(y, RN)])) (fun x => ApS.start) ⟨?_, ?_, ?_, ?_, ?_, ?_, ?_, ?_, ?_, ?_, ?_, ?_, trivial⟩ ?_
              · intro D x w1 bA hI hD hdep hcl hb
                have e5 : bA.tmps[5]?.getD undef = .pointer (some ⟨rb + 1, 0, none⟩) := hb 5
                refine wp_of_run (.pointer (some ⟨rb + 1, 0, none⟩)) (w' := w1) ?_ (hI.val rfl (by decide) (by decide) (by decide))
                clear hb hI hdep hcl
                go_simp
              · intro D x w1 bA hI hD hdep hcl hb
                have hq9 : D 9 = false := by cases h : D 9 with | false => rfl | true => (have := hcl 9 h 1 (by decide); rw [hD] at this; cases this)
                have hqf : D 11 = false := by cases h : D 11 with | false => rfl | true => (have := hcl 11 h 9 (by decide); rw [hq9] at this; cases this)
                have hpre := hI.pre hq9 hqf
                have e46 : bA.tmps[46]?.getD undef = .pointer (some ⟨rb + 1, 0, none⟩) := (hb 46).trans (hI.kn 0 _ rfl (hdep 0 (by decide)))
                have ya := (HST.out.below hpre).acc.cell 0
                refine wp_of_run (.slice As R.length cs) (w' := w1) ?_ (hI.val rfl (by decide) (by decide) (by decide))
                clear hb hI hdep hcl
                go_simp
              · intro D x w1 bA hI hD hdep hcl hb
                have e0 : bA.tmps[0]?.getD undef = .slice (some ⟨b, o, none⟩) n c := hb 0
                refine wp_of_run (.slice (some ⟨b, o, none⟩) n c) (w' := w1) ?_ (hI.val rfl (by decide) (by decide) (by decide))
                clear hb hI hdep hcl
                go_simp
              · intro D x w1 bA hI hD hdep hcl hb
                have e6 : bA.tmps[6]?.getD undef = .int .i64 (k : Int) := hb 6
                refine wp_of_run (.int .i64 (k : Int)) (w' := w1) ?_ (hI.val rfl (by decide) (by decide) (by decide))
                clear hb hI hdep hcl
                go_simp
              · intro D x w1 bA hI hD hdep hcl hb
                have e48 : bA.tmps[48]?.getD undef = .slice (some ⟨b, o, none⟩) n c := (hb 48).trans (hI.kn 2 _ rfl (hdep 2 (by decide)))
                have e49 : bA.tmps[49]?.getD undef = .int .i64 (k : Int) := (hb 49).trans (hI.kn 3 _ rfl (hdep 3 (by decide)))
                refine wp_of_run (.pointer (some ⟨b, o + k, none⟩)) (w' := w1) ?_ (hI.val rfl (by decide) (by decide) (by decide))
                clear hb hI hdep hcl
                go_simp
              · intro D x w1 bA hI hD hdep hcl hb
                have hq7 : D 7 = false := by cases h : D 7 with | false => rfl | true => (have := hcl 7 h 5 (by decide); rw [hD] at this; cases this)
                have hq8 : D 8 = false := by cases h : D 8 with | false => rfl | true => (have := hcl 8 h 7 (by decide); rw [hq7] at this; cases this)
                have hq9 : D 9 = false := by cases h : D 9 with | false => rfl | true => (have := hcl 9 h 8 (by decide); rw [hq8] at this; cases this)
                have hqf : D 11 = false := by cases h : D 11 with | false => rfl | true => (have := hcl 11 h 9 (by decide); rw [hq9] at this; cases this)
                have hpre := hI.pre hq9 hqf
                have e50 : bA.tmps[50]?.getD undef = .pointer (some ⟨b, o + k, none⟩) := (hb 50).trans (hI.kn 4 _ rfl (hdep 4 (by decide)))
                have ye := HEX.out _ hpre
                refine wp_of_run (.int .i64 y) (w' := w1) ?_ (hI.val rfl (by decide) (by decide) (by decide))
                clear hb hI hdep hcl
                go_simp
              · intro D x w1 bA hI hD hdep hcl hb
                have e7 : bA.tmps[7]?.getD undef = .int .i64 RN := hb 7
                refine wp_of_run (.int .i64 RN) (w' := w1) ?_ (hI.val rfl (by decide) (by decide) (by decide))
                clear hb hI hdep hcl
                go_simp
              · intro D x w1 bA hI hD hdep hcl hb
                have e51 : bA.tmps[51]?.getD undef = .int .i64 y := (hb 51).trans (hI.kn 5 _ rfl (hdep 5 (by decide)))
                have e52 : bA.tmps[52]?.getD undef = .int .i64 RN := (hb 52).trans (hI.kn 6 _ rfl (hdep 6 (by decide)))
                refine wp_of_run (.agg #[.int .i64 y, .int .i64 RN]) (w' := w1) ?_ (hI.val rfl (by decide) (by decide) (by decide))
                clear hb hI hdep hcl
                go_simp
              · intro D x w1 bA hI hD hdep hcl hb
                have hq9 : D 9 = false := by cases h : D 9 with | false => rfl | true => (have := hcl 9 h 8 (by decide); rw [hD] at this; cases this)
                have hqf : D 11 = false := by cases h : D 11 with | false => rfl | true => (have := hcl 11 h 9 (by decide); rw [hq9] at this; cases this)
                have e53 : bA.tmps[53]?.getD undef = .agg #[.int .i64 y, .int .i64 RN] := (hb 53).trans (hI.kn 7 _ rfl (hdep 7 (by decide)))
                refine wp_of_run (.slice (some ⟨w1.heap.size, 0, none⟩) 1 1) (w' := w1.alloc (.cells #[.int .i64 y, .int .i64 RN] 86)) ?_ (hI.call rfl (by decide) (by decide) hq9 hqf ((Below.refl _ _).alloc (Nat.le_refl _) _) (OwnA.lit (xs := [(y, RN)]) (fun y _ => elT.len y) (Nat.le_refl _) (by simp) (by simp)))
                clear hb hI hdep hcl
                go_simp
              · intro D x w1 bA hI hD hdep hcl hb
                have hqf : D 11 = false := by cases h : D 11 with | false => rfl | true => (have := hcl 11 h 9 (by decide); rw [hD] at this; cases this)
                have e47 : bA.tmps[47]?.getD undef = .slice As R.length cs := (hb 47).trans (hI.kn 1 _ rfl (hdep 1 (by decide)))
                have e54 : bA.tmps[54]?.getD undef = x 8 := hb 54
                exact hI.app elT (.tmp 47) (.tmp 54) 34 34 rfl Tryd.underlying34 Tryd.underlying34 rfl (by decide) (by decide) (hdep 8 (by decide)) hD hqf (by simpa [Act.eval] using e47) (by simpa [Act.eval] using e54) (HST.out.own) (HST.out.siz) (by have := HRL.out; simp; omega)
              · intro D x w1 bA hI hD hdep hcl hb
                have e5 : bA.tmps[5]?.getD undef = .pointer (some ⟨rb + 1, 0, none⟩) := hb 5
                refine wp_of_run (.pointer (some ⟨rb + 1, 0, none⟩)) (w' := w1) ?_ (hI.val rfl (by decide) (by decide) (by decide))
                clear hb hI hdep hcl
                go_simp
              · intro D x w1 bA hI hD hdep hcl hb
                have hda : D 9 = true := hdep 9 (by decide)
                have e56 : bA.tmps[56]?.getD undef = .pointer (some ⟨rb + 1, 0, none⟩) := (hb 56).trans (hI.kn 10 _ rfl (hdep 10 (by decide)))
                have e55 : bA.tmps[55]?.getD undef = x 9 := hb 55
                have hst := hI.store rfl hda hD undef
                obtain ⟨hm1, hm2⟩ := hI.mid hda hD
                have qarr := hm2.arr (HST.out.acc) (HST.out.ne.1)
                have qy := qarr.cell 0
                have qf := qarr.frozen 0
                obtain ⟨AF, cF, eF⟩ := hm1.form
                generalize x 9 = xA at *
                subst eF
                refine wp_of_skip ?_ hst
                clear hb hI hdep hcl hst hm1 hm2 qarr
                go_simp
              intro D x w1 hI hall
              obtain ⟨wS, vS, hwS, hownS, hkptS⟩ := hI.fin (hall 11 (by simp))
              have x0e : x 0 = .pointer (some ⟨rb + 1, 0, none⟩) := hI.kn 0 _ rfl (hall 0 (by simp))
              have x1e : x 1 = .slice As R.length cs := hI.kn 1 _ rfl (hall 1 (by simp))
              have x2e : x 2 = .slice (some ⟨b, o, none⟩) n c := hI.kn 2 _ rfl (hall 2 (by simp))
              have x3e : x 3 = .int .i64 (k : Int) := hI.kn 3 _ rfl (hall 3 (by simp))
              have x4e : x 4 = .pointer (some ⟨b, o + k, none⟩) := hI.kn 4 _ rfl (hall 4 (by simp))
              have x5e : x 5 = .int .i64 y := hI.kn 5 _ rfl (hall 5 (by simp))
              have x6e : x 6 = .int .i64 RN := hI.kn 6 _ rfl (hall 6 (by simp))
              have x7e : x 7 = .agg #[.int .i64 y, .int .i64 RN] := hI.kn 7 _ rfl (hall 7 (by simp))
              have x10e : x 10 = .pointer (some ⟨rb + 1, 0, none⟩) := hI.kn 10 _ rfl (hall 10 (by simp))
              simp only [putAll, dstOf, Act.put, List.map_cons, List.map_nil, List.setIfInBounds_toArray, List.set_cons_succ, List.set_cons_zero, Nat.reduceAdd, x0e, x1e, x2e, x3e, x4e, x5e, x6e, x7e, x10e]
              clear x0e x1e x2e x3e x4e x5e x6e x7e x10e hI hall
              generalize x 9 = xA, x 8 = xC
              have HN := Lib.hid (show RcS rb w3 w1 vS (R ++ [(y, RN)]) from by rw [hwS]; exact HST.out.app hownS hkptS)
              clear hwS hownS hkptS
              go_wp2_with fail
              go_roundg (n - (k + 1))
              case measure => omega
              case rel => exact ⟨k + 1, _, by omega, rfl, by go_num, by rw [HL2.out]; exact HN.out, HB4⟩
    · have z1 : ¬ (k : Int) < (n : Int) := by omega
      have hkk : L.take k = L := List.take_of_length_le (by have := HN.out; omega)
      have HE := Lib.hid (show P = some (colL L) from by
        rw [HP.out]; unfold colP
        have := HK.out
        rw [hkk] at this
        rw [if_pos this])
      rw [hkk] at hst
      obtain ⟨Ax, cx, rfl⟩ := hst.own.form
      have qr := hst.res
      have q1 := hst.acc
      have y0 := q1.cell 0
      have y1 := q1.cell 1
      have f0 := qr.frozen 0
      have f1 := qr.frozen 1
      have x0 := qr.cell 0
      have x1 := qr.cell 1
      have HRS := Lib.hid ((qr.set 0 (.slice Ax (colL L).length cx)).set 1 (.bool false))
      have HPV := Lib.hid (show RP wr (.agg #[.slice Ax (colL L).length cx, .bool false]) (some (colL L)) from ⟨Ax, cx, rfl, hst.own.sl⟩)
      have HPB := Lib.hid ((HPV.out).box qr (.slice Ax (colL L).length cx) (.bool false))
      have HBE := Lib.hid ((hst.bel.setCell (p := ⟨rb, 0, none⟩) (Nat.le_refl _) (.slice Ax (colL L).length cx)).setCell (p := ⟨rb, 1, none⟩) (Nat.le_refl _) (.bool false))
      clear hst qr q1
      go_wp2_with fail
      refine bodyPost_ret (v := .agg #[.slice Ax (colL L).length cx, .bool false]) (results_c Tryd.results68 _ _ rb 36 _ _ rfl HRS.out Tryd.underlying36 rfl info_rp) rfl ?_
      exact ⟨_, rfl, by rw [HE.out]; exact HPB.out, by rw [← HRB.out]; exact HB3.out.trans (HBE.out.mono HBR.out)⟩
end Go.Proofs.YtlbihllmpbhhcaaDoor
