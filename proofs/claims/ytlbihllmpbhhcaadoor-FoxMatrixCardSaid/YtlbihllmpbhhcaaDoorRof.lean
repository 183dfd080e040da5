/- unravelref12.Of. -/
import Derived.Test.YtlbihllmpbhhcaaDoorRfs
namespace Go.Proofs.YtlbihllmpbhhcaaDoor
open Go.RowKit
set_option linter.unusedVariables false

/-- coefficients from an exponent on -/
def posL (low : Int) (xs : List Int) : List (Int × Int) := xs.mapIdx fun k c => (low + (k : Int), c)
theorem posL_len (low : Int) (xs : List Int) : (posL low xs).length = xs.length := List.length_mapIdx
theorem posL_get (low : Int) (xs : List Int) (k : Nat) (h : k < xs.length) (h2 : k < (posL low xs).length) : (posL low xs)[k] = (low + (k : Int), xs[k]) := List.getElem_mapIdx ..
set_option maxHeartbeats 4000000 in
set_option maxRecDepth 100000 in
theorem rof_any (low : Int) (vc : Value) (xs : List Int) (w : World) (hs : Ints w vc xs) (hl : xs.length ≤ 1000000) (hlo : -1152921504606846976 ≤ low ∧ low ≤ 1152921504606846976) :
    Calls Tryd.prog 40 #[.int .i64 low, vc] w fun e w' => ∃ v, e = .returned v ∧ RP w' v (colP (posL low xs)) ∧ Below w.heap.size w w' := by
  have HS := Lib.hid (fun W (hb : Below w.heap.size w W) => hs.below hb)
  obtain ⟨A, c, rfl, hcA, -⟩ := hs
  obtain ⟨P, hP⟩ : ∃ P, P = colP (posL low xs) := ⟨_, rfl⟩
  rw [← hP]
  have HP := Lib.hid hP
  clear hP
  have hW : ∀ W, W = ((w.alloc (.cells #[.slice none 0 0, .bool false] 36)).alloc (.cells #[.slice none 0 0, .bool false] 36)) → RcS w.heap.size W W (.slice none 0 0) [] ∧ Below w.heap.size w W := by
    intro W hW
    subst hW
    exact ⟨⟨Below.refl _ _, by simp, (Arr.new _ _ [_, _]).alloc _, Arr.newAt (w.alloc _) _ [_, _] _ (by simp), OwnA.nil _ _ _ _ _⟩, ((Below.refl _ _).alloc (Nat.le_refl _) _).alloc (by simp) _⟩
  obtain ⟨n, hn⟩ : ∃ n, n = xs.length := ⟨_, rfl⟩
  rw [← hn] at hl hcA HS ⊢
  have HN := Lib.hid hn
  have HPL := Lib.hid (posL_len low xs)
  clear hn
  go_enter Tryd.func40, Tryd.ntmps40
  go_upto_region 2 with fail
  generalize ((w.alloc (.cells #[.slice none 0 0, .bool false] 36)).alloc (.cells #[.slice none 0 0, .bool false] 36)) = w3 at hW ⊢
  obtain ⟨hst, hb3⟩ := hW w3 rfl
  have HB3 := Lib.hid hb3
  have HS3 := Lib.hid (fun W (hb : Below w.heap.size w3 W) => HS.out W (hb3.trans hb))
  obtain ⟨rb, hrb⟩ : ∃ r, r = w.heap.size := ⟨_, rfl⟩
  rw [← hrb] at hst HS3 HB3 ⊢
  have HBR := Lib.hid (show rb ≤ rb from Nat.le_refl _)
  have HRB := Lib.hid hrb
  clear hW hb3 HS hrb
  go_wp2_with fail
  go_loopg [6] n (fun gk s6 wr => ∃ (k : Nat) (s : Value), k ≤ n ∧ gk = n - k ∧ s6 = .int .i64 (k : Int) ∧ RcS rb w3 wr s (colL ((posL low xs).take k)) ∧ Hid (colB ((posL low xs).take k) = true))
  case atStart => exact ⟨0, _, Nat.zero_le _, rfl, rfl, hst, Lib.hid rfl⟩
  case round =>
    clear hst
    obtain ⟨k, s, hk, rfl, rfl, hst, HK⟩ := hrel
    by_cases hlt : k < n
    · have z1 : (k : Int) < (n : Int) := by omega
      have hkx : k < xs.length := by have := HN.out; omega
      have hkl : k < (posL low xs).length := by have := HPL.out; omega
      obtain ⟨b, o, ⟨c', hv⟩, -, hcell⟩ := ints_atZ (HS3.out wr hst.bel) (k := k) hkx
      injection hv with hv1 hv2 hv3
      subst hv1 hv3
      clear hv2 hcell
      obtain ⟨X, hX2⟩ : ∃ X, X = xs[k] := ⟨_, rfl⟩
      have hy : (posL low xs)[k] = (low + (k : Int), X) := (posL_get low xs k hkx hkl).trans (by rw [hX2])
      have HEX0 := Lib.hid (fun W (hb : Below rb w3 W) => (show W.cell? ⟨b, o + k, none⟩ = some (.int .i64 X) from by
        obtain ⟨b', o', ⟨c', hv⟩, _, hcell⟩ := ints_atZ (HS3.out W hb) (k := k) hkx
        injection hv with hv1 hv2 hv3
        injection hv1 with hv1
        injection hv1 with q1 q2
        subst q1 q2
        rw [hcell, hX2]))
      have HL := Lib.hid (show colL ((posL low xs).take (k + 1)) = colL ((posL low xs).take k) ++ (if X = 0 then [] else [(low + (k : Int), X)]) from by rw [colL_snoc hkl, hy])
      have HB := Lib.hid (show colB ((posL low xs).take (k + 1)) = (colB ((posL low xs).take k) && (X == 0 || (decide (-1125899906842624 ≤ X ∧ X ≤ 1125899906842624) && decide (-1048576 ≤ low + (k : Int) ∧ low + (k : Int) ≤ 1048576)))) from by rw [colB_snoc hkl, hy])
      have HBad := Lib.hid (fun (h : colB ((posL low xs).take (k + 1)) = false) => (show P = none from by rw [HP.out]; unfold colP; rw [colB_take h]; rfl))
      have HRL := Lib.hid (show (colL ((posL low xs).take k)).length ≤ 1000000 from by have := colL_len ((posL low xs).take k); rw [List.length_take] at this; omega)
      have HWR := Lib.hid (show IntKind.i64.wrap (low + (k : Int)) = low + (k : Int) from IntWalk.i64_in _ (by omega))
      generalize colL ((posL low xs).take k) = R at *
      clear hy hX2
      obtain ⟨As, cs, rfl⟩ := hst.own.form
      have HST := Lib.hid hst
      have cx := HEX0.out wr hst.bel
      by_cases hX : X = 0
      · have HL2 := Lib.hid (show colL ((posL low xs).take (k + 1)) = R from by rw [HL.out, if_pos hX, List.append_nil])
        have HB2 := Lib.hid (show colB ((posL low xs).take (k + 1)) = true from by rw [HB.out, HK.out]; simp [hX])
        have z2 : (X == 0) = true := by simp [hX]
        clear HL HB HBad hX hst
        go_wp2_with fail
        go_roundg (n - (k + 1))
        case measure => omega
        case rel => exact ⟨k + 1, _, by omega, rfl, by go_num, by rw [HL2.out]; exact HST.out, HB2⟩
      · have HL2 := Lib.hid (show colL ((posL low xs).take (k + 1)) = R ++ [(low + (k : Int), X)] from by rw [HL.out, if_neg hX])
        have HB2 := Lib.hid (show colB ((posL low xs).take (k + 1)) = (decide (-1125899906842624 ≤ X ∧ X ≤ 1125899906842624) && decide (-1048576 ≤ low + (k : Int) ∧ low + (k : Int) ≤ 1048576)) from by rw [HB.out, HK.out, show (X == 0) = false by simp [hX]]; rfl)
        have z2 : (X == 0) = false := by simp [hX]
        have qr := hst.res
        have x0 := qr.cell 0
        have x1 := qr.cell 1
        have f0 := qr.frozen 0
        have f1 := qr.frozen 1
        have HRS := Lib.hid ((qr.set 0 (.slice none 0 0)).set 1 (.bool true))
        have HBE := Lib.hid ((hst.bel.setCell (p := ⟨rb, 0, none⟩) (Nat.le_refl _) (.slice none 0 0)).setCell (p := ⟨rb, 1, none⟩) (Nat.le_refl _) (.bool true))
        clear HL HB qr hst hX
        by_cases hx1 : X < -1125899906842624
        · have HPN := Lib.hid (HBad.out (by rw [HB2.out, decide_eq_false (by omega)]; rfl))
          clear HBad HB2 HL2
          go_wp2_with fail
          refine bodyPost_ret (v := .agg #[.slice none 0 0, .bool true]) (results_c Tryd.results40 _ _ rb 36 _ _ rfl HRS.out Tryd.underlying36 rfl info_rp) rfl ?_
          exact ⟨_, rfl, by rw [HPN.out]; exact RP.big _, by rw [← HRB.out]; exact HB3.out.trans (HBE.out.mono HBR.out)⟩
        · by_cases hx2 : X > 1125899906842624
          · have HPN := Lib.hid (HBad.out (by rw [HB2.out, decide_eq_false (by omega)]; rfl))
            clear HBad HB2 HL2
            go_wp2_with fail
            refine bodyPost_ret (v := .agg #[.slice none 0 0, .bool true]) (results_c Tryd.results40 _ _ rb 36 _ _ rfl HRS.out Tryd.underlying36 rfl info_rp) rfl ?_
            exact ⟨_, rfl, by rw [HPN.out]; exact RP.big _, by rw [← HRB.out]; exact HB3.out.trans (HBE.out.mono HBR.out)⟩
          · have HB5 := Lib.hid (show colB ((posL low xs).take (k + 1)) = decide (-1048576 ≤ low + (k : Int) ∧ low + (k : Int) ≤ 1048576) from by rw [HB2.out, decide_eq_true (by omega), Bool.true_and])
            clear HB2
            by_cases hy1 : low + (k : Int) < -1048576
            · have HPN := Lib.hid (HBad.out (by rw [HB5.out]; exact decide_eq_false (by omega)))
              clear HBad HB5 HL2
              go_wp2_with fail
              refine bodyPost_ret (v := .agg #[.slice none 0 0, .bool true]) (results_c Tryd.results40 _ _ rb 36 _ _ rfl HRS.out Tryd.underlying36 rfl info_rp) rfl ?_
              exact ⟨_, rfl, by rw [HPN.out]; exact RP.big _, by rw [← HRB.out]; exact HB3.out.trans (HBE.out.mono HBR.out)⟩
            · by_cases hy2 : low + (k : Int) > 1048576
              · have HPN := Lib.hid (HBad.out (by rw [HB5.out]; exact decide_eq_false (by omega)))
                clear HBad HB5 HL2
                go_wp2_with fail
                refine bodyPost_ret (v := .agg #[.slice none 0 0, .bool true]) (results_c Tryd.results40 _ _ rb 36 _ _ rfl HRS.out Tryd.underlying36 rfl info_rp) rfl ?_
                exact ⟨_, rfl, by rw [HPN.out]; exact RP.big _, by rw [← HRB.out]; exact HB3.out.trans (HBE.out.mono HBR.out)⟩
              have HB4 := Lib.hid (show colB ((posL low xs).take (k + 1)) = true from by rw [HB5.out]; exact decide_eq_true (by omega))
              have HEX := Lib.hid (fun W (hb : Below wr.heap.size wr W) => HEX0.out W (HST.out.below hb).bel)
              clear HBad HB5 HRS HBE x0 x1 f0 f1
              go_upto_region 8 with fail
              clear z2 cx hx1 hx2 hy1 hy2
              refine wp_region_factsU (by kernel_rfl) (by kernel_rfl) (by kernel_rfl) (by kernel_rfl) (by kernel_rfl) (ApS 86 2 et (rb + 2) wr (fun i => ([some (.pointer (some ⟨rb + 1, 0, none⟩)), some (.slice As R.length cs), some (.int .i64 low), some (.int .i64 (k : Int)), some (.int .i64 (low + (k : Int))), some (.slice (some ⟨b, o, none⟩) n c), some (.int .i64 (k : Int)), some (.pointer (some ⟨b, o + k, none⟩)), some (.int .i64 X), some (.agg #[.int .i64 (low + (k : Int)), .int .i64 X]), none, none, some (.pointer (some ⟨rb + 1, 0, none⟩)), none] : List (Option Value)).getD i none) 10 11 13 (.slice As R.length cs) (⟨rb + 1, 0, none⟩) (R) ([(low + (k : Int), X)])) (fun x => ApS.start) ⟨?_, ?_, ?_, ?_, ?_, ?_, ?_, ?_, ?_, ?_, ?_, ?_, ?_, ?_, trivial⟩ ?_
              · intro D x w1 bA hI hD hdep hcl hb
                have e5 : bA.tmps[5]?.getD undef = .pointer (some ⟨rb + 1, 0, none⟩) := hb 5
                refine wp_of_run (.pointer (some ⟨rb + 1, 0, none⟩)) (w' := w1) ?_ (hI.val rfl (by decide) (by decide) (by decide))
                clear hb hI hdep hcl
                go_simp
              · intro D x w1 bA hI hD hdep hcl hb
                have hq11 : D 11 = false := by cases h : D 11 with | false => rfl | true => (have := hcl 11 h 1 (by decide); rw [hD] at this; cases this)
                have hqf : D 13 = false := by cases h : D 13 with | false => rfl | true => (have := hcl 13 h 11 (by decide); rw [hq11] at this; cases this)
                have hpre := hI.pre hq11 hqf
                have e43 : bA.tmps[43]?.getD undef = .pointer (some ⟨rb + 1, 0, none⟩) := (hb 43).trans (hI.kn 0 _ rfl (hdep 0 (by decide)))
                have ya := (HST.out.below hpre).acc.cell 0
                refine wp_of_run (.slice As R.length cs) (w' := w1) ?_ (hI.val rfl (by decide) (by decide) (by decide))
                clear hb hI hdep hcl
                go_simp
              · intro D x w1 bA hI hD hdep hcl hb
                have e0 : bA.tmps[0]?.getD undef = .int .i64 low := hb 0
                refine wp_of_run (.int .i64 low) (w' := w1) ?_ (hI.val rfl (by decide) (by decide) (by decide))
                clear hb hI hdep hcl
                go_simp
              · intro D x w1 bA hI hD hdep hcl hb
                have e6 : bA.tmps[6]?.getD undef = .int .i64 (k : Int) := hb 6
                refine wp_of_run (.int .i64 (k : Int)) (w' := w1) ?_ (hI.val rfl (by decide) (by decide) (by decide))
                clear hb hI hdep hcl
                go_simp
              · intro D x w1 bA hI hD hdep hcl hb
                have e45 : bA.tmps[45]?.getD undef = .int .i64 low := (hb 45).trans (hI.kn 2 _ rfl (hdep 2 (by decide)))
                have e46 : bA.tmps[46]?.getD undef = .int .i64 (k : Int) := (hb 46).trans (hI.kn 3 _ rfl (hdep 3 (by decide)))
                have yw := HWR.out
                refine wp_of_run (.int .i64 (low + (k : Int))) (w' := w1) ?_ (hI.val rfl (by decide) (by decide) (by decide))
                clear hb hI hdep hcl
                go_simp
              · intro D x w1 bA hI hD hdep hcl hb
                have e1 : bA.tmps[1]?.getD undef = .slice (some ⟨b, o, none⟩) n c := hb 1
                refine wp_of_run (.slice (some ⟨b, o, none⟩) n c) (w' := w1) ?_ (hI.val rfl (by decide) (by decide) (by decide))
                clear hb hI hdep hcl
                go_simp
              · intro D x w1 bA hI hD hdep hcl hb
                have e6 : bA.tmps[6]?.getD undef = .int .i64 (k : Int) := hb 6
                refine wp_of_run (.int .i64 (k : Int)) (w' := w1) ?_ (hI.val rfl (by decide) (by decide) (by decide))
                clear hb hI hdep hcl
                go_simp
              · intro D x w1 bA hI hD hdep hcl hb
                have e48 : bA.tmps[48]?.getD undef = .slice (some ⟨b, o, none⟩) n c := (hb 48).trans (hI.kn 5 _ rfl (hdep 5 (by decide)))
                have e49 : bA.tmps[49]?.getD undef = .int .i64 (k : Int) := (hb 49).trans (hI.kn 6 _ rfl (hdep 6 (by decide)))
                refine wp_of_run (.pointer (some ⟨b, o + k, none⟩)) (w' := w1) ?_ (hI.val rfl (by decide) (by decide) (by decide))
                clear hb hI hdep hcl
                go_simp
              · intro D x w1 bA hI hD hdep hcl hb
                have hq9 : D 9 = false := by cases h : D 9 with | false => rfl | true => (have := hcl 9 h 8 (by decide); rw [hD] at this; cases this)
                have hq10 : D 10 = false := by cases h : D 10 with | false => rfl | true => (have := hcl 10 h 9 (by decide); rw [hq9] at this; cases this)
                have hq11 : D 11 = false := by cases h : D 11 with | false => rfl | true => (have := hcl 11 h 10 (by decide); rw [hq10] at this; cases this)
                have hqf : D 13 = false := by cases h : D 13 with | false => rfl | true => (have := hcl 13 h 11 (by decide); rw [hq11] at this; cases this)
                have hpre := hI.pre hq11 hqf
                have e50 : bA.tmps[50]?.getD undef = .pointer (some ⟨b, o + k, none⟩) := (hb 50).trans (hI.kn 7 _ rfl (hdep 7 (by decide)))
                have ye := HEX.out _ hpre
                refine wp_of_run (.int .i64 X) (w' := w1) ?_ (hI.val rfl (by decide) (by decide) (by decide))
                clear hb hI hdep hcl
                go_simp
              · intro D x w1 bA hI hD hdep hcl hb
                have e47 : bA.tmps[47]?.getD undef = .int .i64 (low + (k : Int)) := (hb 47).trans (hI.kn 4 _ rfl (hdep 4 (by decide)))
                have e51 : bA.tmps[51]?.getD undef = .int .i64 X := (hb 51).trans (hI.kn 8 _ rfl (hdep 8 (by decide)))
                refine wp_of_run (.agg #[.int .i64 (low + (k : Int)), .int .i64 X]) (w' := w1) ?_ (hI.val rfl (by decide) (by decide) (by decide))
                clear hb hI hdep hcl
                go_simp
              · intro D x w1 bA hI hD hdep hcl hb
                have hq11 : D 11 = false := by cases h : D 11 with | false => rfl | true => (have := hcl 11 h 10 (by decide); rw [hD] at this; cases this)
                have hqf : D 13 = false := by cases h : D 13 with | false => rfl | true => (have := hcl 13 h 11 (by decide); rw [hq11] at this; cases this)
                have e52 : bA.tmps[52]?.getD undef = .agg #[.int .i64 (low + (k : Int)), .int .i64 X] := (hb 52).trans (hI.kn 9 _ rfl (hdep 9 (by decide)))
                refine wp_of_run (.slice (some ⟨w1.heap.size, 0, none⟩) 1 1) (w' := w1.alloc (.cells #[.int .i64 (low + (k : Int)), .int .i64 X] 86)) ?_ (hI.call rfl (by decide) (by decide) hq11 hqf ((Below.refl _ _).alloc (Nat.le_refl _) _) (OwnA.lit (xs := [(low + (k : Int), X)]) (fun y _ => elT.len y) (Nat.le_refl _) (by simp) (by simp)))
                clear hb hI hdep hcl
                go_simp
              · intro D x w1 bA hI hD hdep hcl hb
                have hqf : D 13 = false := by cases h : D 13 with | false => rfl | true => (have := hcl 13 h 11 (by decide); rw [hD] at this; cases this)
                have e44 : bA.tmps[44]?.getD undef = .slice As R.length cs := (hb 44).trans (hI.kn 1 _ rfl (hdep 1 (by decide)))
                have e53 : bA.tmps[53]?.getD undef = x 10 := hb 53
                exact hI.app elT (.tmp 44) (.tmp 53) 34 34 rfl Tryd.underlying34 Tryd.underlying34 rfl (by decide) (by decide) (hdep 10 (by decide)) hD hqf (by simpa [Act.eval] using e44) (by simpa [Act.eval] using e53) (HST.out.own) (HST.out.siz) (by have := HRL.out; simp; omega)
              · intro D x w1 bA hI hD hdep hcl hb
                have e5 : bA.tmps[5]?.getD undef = .pointer (some ⟨rb + 1, 0, none⟩) := hb 5
                refine wp_of_run (.pointer (some ⟨rb + 1, 0, none⟩)) (w' := w1) ?_ (hI.val rfl (by decide) (by decide) (by decide))
                clear hb hI hdep hcl
                go_simp
              · intro D x w1 bA hI hD hdep hcl hb
                have hda : D 11 = true := hdep 11 (by decide)
                have e55 : bA.tmps[55]?.getD undef = .pointer (some ⟨rb + 1, 0, none⟩) := (hb 55).trans (hI.kn 12 _ rfl (hdep 12 (by decide)))
                have e54 : bA.tmps[54]?.getD undef = x 11 := hb 54
                have hst := hI.store rfl hda hD undef
                obtain ⟨hm1, hm2⟩ := hI.mid hda hD
                have qarr := hm2.arr (HST.out.acc) (HST.out.ne.1)
                have qy := qarr.cell 0
                have qf := qarr.frozen 0
                obtain ⟨AF, cF, eF⟩ := hm1.form
                generalize x 11 = xA at *
                subst eF
                refine wp_of_skip ?_ hst
                clear hb hI hdep hcl hst hm1 hm2 qarr
                go_simp
              intro D x w1 hI hall
              obtain ⟨wS, vS, hwS, hownS, hkptS⟩ := hI.fin (hall 13 (by simp))
              have x0e : x 0 = .pointer (some ⟨rb + 1, 0, none⟩) := hI.kn 0 _ rfl (hall 0 (by simp))
              have x1e : x 1 = .slice As R.length cs := hI.kn 1 _ rfl (hall 1 (by simp))
              have x2e : x 2 = .int .i64 low := hI.kn 2 _ rfl (hall 2 (by simp))
              have x3e : x 3 = .int .i64 (k : Int) := hI.kn 3 _ rfl (hall 3 (by simp))
              have x4e : x 4 = .int .i64 (low + (k : Int)) := hI.kn 4 _ rfl (hall 4 (by simp))
              have x5e : x 5 = .slice (some ⟨b, o, none⟩) n c := hI.kn 5 _ rfl (hall 5 (by simp))
              have x6e : x 6 = .int .i64 (k : Int) := hI.kn 6 _ rfl (hall 6 (by simp))
              have x7e : x 7 = .pointer (some ⟨b, o + k, none⟩) := hI.kn 7 _ rfl (hall 7 (by simp))
              have x8e : x 8 = .int .i64 X := hI.kn 8 _ rfl (hall 8 (by simp))
              have x9e : x 9 = .agg #[.int .i64 (low + (k : Int)), .int .i64 X] := hI.kn 9 _ rfl (hall 9 (by simp))
              have x12e : x 12 = .pointer (some ⟨rb + 1, 0, none⟩) := hI.kn 12 _ rfl (hall 12 (by simp))
              simp only [putAll, dstOf, Act.put, List.map_cons, List.map_nil, List.setIfInBounds_toArray, List.set_cons_succ, List.set_cons_zero, Nat.reduceAdd, x0e, x1e, x2e, x3e, x4e, x5e, x6e, x7e, x8e, x9e, x12e]
              clear x0e x1e x2e x3e x4e x5e x6e x7e x8e x9e x12e hI hall
              generalize x 11 = xA, x 10 = xC
              have HN4 := Lib.hid (show RcS rb w3 w1 vS (R ++ [(low + (k : Int), X)]) from by rw [hwS]; exact HST.out.app hownS hkptS)
              clear hwS hownS hkptS
              go_wp2_with fail
              go_roundg (n - (k + 1))
              case measure => omega
              case rel => exact ⟨k + 1, _, by omega, rfl, by go_num, by rw [HL2.out]; exact HN4.out, HB4⟩
    · have z1 : ¬ (k : Int) < (n : Int) := by omega
      have hkk : (posL low xs).take k = posL low xs := List.take_of_length_le (by have := HN.out; have := HPL.out; omega)
      have HE := Lib.hid (show P = some (colL (posL low xs)) from by
        rw [HP.out]; unfold colP
        have := HK.out
        rw [hkk] at this
        rw [if_pos this])
      rw [hkk] at hst
      obtain ⟨Ax, cx, rfl⟩ := hst.own.form
      have qr := hst.res
      have q1 := hst.acc
      have y0 := q1.cell 0
      have y1 := q1.cell 1
      have f0 := qr.frozen 0
      have f1 := qr.frozen 1
      have x0 := qr.cell 0
      have x1 := qr.cell 1
      have HRS := Lib.hid ((qr.set 0 (.slice Ax (colL (posL low xs)).length cx)).set 1 (.bool false))
      have HPV := Lib.hid (show RP wr (.agg #[.slice Ax (colL (posL low xs)).length cx, .bool false]) (some (colL (posL low xs))) from ⟨Ax, cx, rfl, hst.own.sl⟩)
      have HPB := Lib.hid ((HPV.out).box qr (.slice Ax (colL (posL low xs)).length cx) (.bool false))
      have HBE := Lib.hid ((hst.bel.setCell (p := ⟨rb, 0, none⟩) (Nat.le_refl _) (.slice Ax (colL (posL low xs)).length cx)).setCell (p := ⟨rb, 1, none⟩) (Nat.le_refl _) (.bool false))
      clear hst qr q1
      go_wp2_with fail
      refine bodyPost_ret (v := .agg #[.slice Ax (colL (posL low xs)).length cx, .bool false]) (results_c Tryd.results40 _ _ rb 36 _ _ rfl HRS.out Tryd.underlying36 rfl info_rp) rfl ?_
      exact ⟨_, rfl, by rw [HE.out]; exact HPB.out, by rw [← HRB.out]; exact HB3.out.trans (HBE.out.mono HBR.out)⟩
end Go.Proofs.YtlbihllmpbhhcaaDoor
