/- unravelref12.Text, for a polynomial that is not big. -/
import Derived.Test.YtlbihllmpbhhcaaDoorRfs
import Derived.Test.YtlbihllmpbhhcaaDoorRad
import Derived.Test.YtlbihllmpbhhcaaDoorRdc2
import Derived.Test.YtlbihllmpbhhcaaDoorTxt
namespace Go.Proofs.YtlbihllmpbhhcaaDoor
open Go.RowKit
set_option linter.unusedVariables false

theorem cat_s (x y : List UInt8) : (⟨x.toArray⟩ ++ ⟨y.toArray⟩ : ByteArray) = ⟨(x ++ y).toArray⟩ := ByteArray.mk_append_mk x y
set_option maxHeartbeats 4000000 in
set_option maxRecDepth 100000 in
theorem rtext_any (v : Value) (l : List (Int × Int)) (nm : List UInt8) (w : World) (hv : RP w v (some l)) (hlim : Lim l) (hlen : l.length ≤ 1000) (hn : nm.length ≤ 1000) :
    Calls Tryd.prog 15 #[v, .string ⟨nm.toArray⟩] w fun e w' => e = .returned (.string ⟨(txt nm (some l)).toArray⟩) ∧ Below w.heap.size w w' := by
  obtain ⟨A, c, rfl, hx⟩ := hv
  change Calls Tryd.prog 15 #[.agg #[.slice A l.length c, .bool false], .string ⟨nm.toArray⟩] w _
  change SlA et w (.slice A l.length c) l at hx
  have hcc0 : l.length ≤ c := by obtain ⟨A, c', hv, hc, _⟩ := hx; injection hv with e1 e2 e3; rw [e3]; exact hc
  obtain ⟨T, hT⟩ : ∃ T, T = txt nm (some l) := ⟨_, rfl⟩
  rw [← hT]
  have HT := Lib.hid hT
  have HX := Lib.hid (fun W (hb : Below w.heap.size w W) => hx.below hb)
  have HLI := Lib.hid hlim
  clear hT hlim hx
  have hW : ∀ W, W = (w.alloc (.cells #[.slice A l.length c, .bool false] 36)) → Arr W w.heap.size 36 [.slice A l.length c, .bool false] ∧ Below w.heap.size w W := by
    intro W hW
    subst hW
    exact ⟨Arr.new _ _ [_, _], ((Below.refl _ _).alloc (Nat.le_refl _) _)⟩
  obtain ⟨n, hn0⟩ : ∃ n, n = l.length := ⟨_, rfl⟩
  rw [← hn0] at hlen HX hW hcc0 ⊢
  have HN := Lib.hid hn0
  clear hn0
  go_enter Tryd.func15, Tryd.ntmps15
  go_upto_region 1 with fail
  generalize (w.alloc (.cells #[.slice A n c, .bool false] 36)) = w3 at hW ⊢
  obtain ⟨qb, hb3⟩ := hW w3 rfl
  have y0 := qb.cell 0
  have y1 := qb.cell 1
  clear hW
  by_cases h0 : n = 0
  · have z1 : ((n : Int) == 0) = true := by rw [beq_iff_eq]; omega
    have HT2 := Lib.hid (show T = [48] from by rw [HT.out]; exact if_pos (by rw [← HN.out]; exact h0))
    have HB := Lib.hid hb3
    clear hb3 qb
    go_wp2_with fail
    go_ret
    exact ⟨by rw [HT2.out]; rfl, HB.out⟩
  · have z1 : ((n : Int) == 0) = false := by rw [beq_eq_false_iff_ne]; omega
    have HT2 := Lib.hid (show T = txtU nm l n from by rw [HT.out, HN.out]; exact if_neg (by rw [← HN.out]; exact h0))
    clear HT
    have HB3 := Lib.hid hb3
    have HQB := Lib.hid qb
    obtain ⟨rb, hrb⟩ : ∃ r, r = w.heap.size := ⟨_, rfl⟩
    rw [← hrb] at y0 y1 HQB HB3 HX ⊢
    have HRB := Lib.hid hrb
    clear hb3 qb hrb h0
    go_wp2_with fail
    clear z1 y0 y1
    go_loopg [5, 6, 7, 8] n (fun gk s5 s6 s7 s8 wr => ∃ k : Nat, k ≤ n ∧ gk = n - k ∧ s6 = .int .i64 (k : Int) ∧ s5 = .string ⟨(txtU nm l k).toArray⟩ ∧ Below w3.heap.size w3 wr)
    case atStart => exact ⟨0, Nat.zero_le _, rfl, rfl, rfl, Below.refl _ _⟩
    case round =>
      obtain ⟨k, hk, rfl, rfl, rfl, hbr⟩ := hrel
      have qb := HQB.out.below hbr HQB.out.lt
      have y0 := qb.cell 0
      have HBR := Lib.hid hbr
      by_cases hlt : k < n
      · have z2 : (k : Int) < (n : Int) := by omega
        have hkl : k < l.length := by have := HN.out; omega
        obtain ⟨b, o, rfl, y2, y3⟩ := (HX.out wr (HB3.out.trans (hbr.mono (by have := HQB.out.lt; omega)))).tat hkl
        obtain ⟨te, hte⟩ : ∃ t, t = l[k].1 := ⟨_, rfl⟩
        obtain ⟨tc, htc⟩ : ∃ t, t = l[k].2 := ⟨_, rfl⟩
        rw [← hte] at y2
        rw [← htc] at y3
        have hco := HLI.out.co _ (List.getElem_mem hkl)
        have hex := HLI.out.ex _ (List.getElem_mem hkl)
        have HTX := Lib.hid (show txtU nm l (k + 1) = txtU nm l k ++ txtT nm k (te, tc) from by rw [txtU, List.getElem?_eq_getElem hkl, hte, htc]; rfl)
        rw [← hte] at hex
        rw [← htc] at hco
        have htl := txtU_len hn HLI.out k (by omega)
        generalize txtU nm l k = bs at *
        clear qb hbr hte htc
        go_upto_region 10 with fail
        have hst : Arr (wr.alloc (.cells #[.int .i64 te, .int .i64 tc] 86)) wr.heap.size 86 [.int .i64 te, .int .i64 tc] ∧ Below w3.heap.size w3 (wr.alloc (.cells #[.int .i64 te, .int .i64 tc] 86)) := ⟨Arr.new _ _ [_, _], HBR.out.alloc HBR.out.size _⟩
        generalize (wr.alloc (.cells #[.int .i64 te, .int .i64 tc] 86)) = w5 at *
        clear y0 y2 y3
        generalize wr.heap.size = g at *
        have x1 := hst.1.cell 1
        have HST := Lib.hid hst
        clear hst
        go_upto_if 31 with fail
        go_cut [5, 8] from 15 to 71 (fun s5 s8 wx => s5 = .string ⟨(bs ++ sgT k tc).toArray⟩ ∧ s8 = .int .i64 (cabs tc) ∧ wx = w5)
        case first =>
          have x1 := HST.out.1.cell 1
          by_cases c1 : tc < 0
          · have E1 := Lib.hid (show sgT k tc = [45] from if_pos c1)
            have E2 := Lib.hid (show cabs tc = -tc from if_pos c1)
            go_wp2_with fail
            go_meet
            exact ⟨by rw [E1.out, ← cat_s], by rw [E2.out], rfl⟩
          · have E2 := Lib.hid (show cabs tc = tc from if_neg c1)
            by_cases c2 : (k : Int) > 0
            · have E1 := Lib.hid (show sgT k tc = [43] from by unfold sgT; rw [if_neg c1, if_pos (by omega)])
              go_wp2_with fail
              go_meet
              exact ⟨by rw [E1.out, ← cat_s], by rw [E2.out], rfl⟩
            · have E1 := Lib.hid (show sgT k tc = [] from by unfold sgT; rw [if_neg c1, if_neg (by omega)])
              go_wp2_with fail
              go_meet
              exact ⟨by rw [E1.out, List.append_nil], by rw [E2.out], rfl⟩
        case rest =>
          obtain ⟨rfl, rfl, rfl⟩ := hcut
          have hl1 := sgT_len k tc
          have hl2 : (bs ++ sgT k tc).length = bs.length + (sgT k tc).length := List.length_append
          have HTX1 := Lib.hid (show txtU nm l (k + 1) = (bs ++ sgT k tc) ++ (coT tc te ++ (vaT nm te ++ poT te)) from by rw [HTX.out]; unfold txtT; simp only [List.append_assoc])
          clear HTX
          generalize bs ++ sgT k tc = b1 at *
          have x0 := HST.out.1.cell 0
          have hcc : cabs tc ≤ 1125899906842624 ∧ 0 ≤ cabs tc := by unfold cabs; split <;> omega
          have HC2 := Lib.hid (show coT tc te = if cabs tc ≠ 1 ∨ te = 0 then Lib.itoa (cabs tc) else [] from by
            unfold coT
            by_cases c1 : cabs tc = 1 ∧ te ≠ 0
            · rw [if_pos c1, if_neg (by omega)]
            · rw [if_neg c1, if_pos (by omega)])
          have hl3 := coT_len (c := tc) (e := te) hco
          generalize coT tc te = co at *
          generalize cabs tc = ca at *
          clear x1
          obtain ⟨D, hD⟩ : ∃ D, D = decide (ca ≠ 1 ∨ te = 0) := ⟨_, rfl⟩
          have HD := Lib.hid hD
          clear hD
          go_upto_region 16 with fail
          go_cut [5, 8, 47] from 15 to 71 (fun s5 s8 s47 wx => s5 = .string ⟨b1.toArray⟩ ∧ s8 = .int .i64 ca ∧ s47 = .bool D ∧ wx = wc)
          case first =>
            by_cases c1 : ca = 1
            · have z3 : (ca != 1) = false := by simp [c1]
              by_cases c2 : te = 0
              · have z4 : (te == 0) = true := by simp [c2]
                have HE := Lib.hid (HD.out.trans (decide_eq_true (.inr c2)))
                clear c1 c2
                go_wp2_with fail
                go_meet
                exact ⟨rfl, rfl, by rw [HE.out], rfl⟩
              · have z4 : (te == 0) = false := by simp [c2]
                have HE := Lib.hid (HD.out.trans (decide_eq_false (fun h => h.elim (fun h => h c1) c2)))
                clear c1 c2
                go_wp2_with fail
                go_meet
                exact ⟨rfl, rfl, by rw [HE.out], rfl⟩
            · have z3 : (ca != 1) = true := by simp [c1]
              have HE := Lib.hid (HD.out.trans (decide_eq_true (.inl c1)))
              clear c1
              go_wp2_with fail
              go_meet
              exact ⟨rfl, rfl, by rw [HE.out], rfl⟩
          case rest =>
            obtain ⟨rfl, rfl, rfl, rfl⟩ := hcut
            clear x0
            go_upto_if 47 with fail
            go_cut [5, 8] from 15 to 71 (fun s5 s8 wx => s5 = .string ⟨(b1 ++ co).toArray⟩ ∧ Below wc.heap.size wc wx)
            case first =>
              cases D with
              | false =>
                have E := Lib.hid (show co = [] from by rw [HC2.out, if_neg]; exact of_decide_eq_false HD.out.symm)
                go_wp2_with fail
                go_meet
                exact ⟨by rw [E.out, List.append_nil], Below.refl _ _⟩
              | true =>
                have E := Lib.hid (show co = Lib.itoa ca from by rw [HC2.out, if_pos]; exact of_decide_eq_true HD.out.symm)
                have HI := Lib.hid (dec_ref ca wc (by omega))
                have hil := Lib.itoa_length_le ca (by omega) (by omega)
                clear hl3 HC2
                go_wp2_with fail
                refine HI.out.mono ?_
                rintro e w6 ⟨rfl, h6⟩
                go_wp2_with fail
                go_meet
                exact ⟨by rw [E.out, ← cat_s], h6⟩
            case rest =>
              obtain ⟨rfl, hb6⟩ := hcut
              rename_i wa
              have HB6 := Lib.hid hb6
              clear hb6
              have hl4 : (b1 ++ co).length = b1.length + co.length := List.length_append
              have HTX2 := Lib.hid (show txtU nm l (k + 1) = (b1 ++ co) ++ (vaT nm te ++ poT te) from by rw [HTX1.out]; simp only [List.append_assoc])
              clear HTX1 HC2 HD
              generalize b1 ++ co = b2 at *
              have hs6 := HST.out.1.below HB6.out HST.out.1.lt
              have HBB := Lib.hid (HST.out.2.trans (HB6.out.mono HST.out.2.size))
              have x0 := hs6.cell 0
              have HS6 := Lib.hid hs6
              clear hs6 HST HB6
              obtain ⟨D1, hD1⟩ : ∃ D, D = (te != 0) := ⟨_, rfl⟩
              have d1 := hD1.symm
              have HV := Lib.hid (show vaT nm te = if D1 = true then nm else [] from by
                rw [hD1]; unfold vaT
                by_cases c : te = 0
                · rw [if_pos c, if_neg]; simp [c]
                · rw [if_neg c, if_pos]; simp [c])
              have hl5 := vaT_len (nm := nm) (e := te)
              clear hD1
              go_upto_if 54 with fail
              go_cut [5, 8] from 15 to 71 (fun s5 s8 wx => s5 = .string ⟨(b2 ++ vaT nm te).toArray⟩ ∧ wx = wc)
              case first =>
                cases D1 with
                | false =>
                  go_wp2_with fail
                  go_meet
                  exact ⟨by rw [HV.out, if_neg (by simp), List.append_nil], rfl⟩
                | true =>
                  go_wp2_with fail
                  go_meet
                  exact ⟨by rw [HV.out, if_pos (by trivial), ← cat_s], rfl⟩
              case rest =>
                obtain ⟨rfl, rfl⟩ := hcut
                have hl6 : (b2 ++ vaT nm te).length = b2.length + (vaT nm te).length := List.length_append
                have HTX3 := Lib.hid (show txtU nm l (k + 1) = (b2 ++ vaT nm te) ++ poT te from by rw [HTX2.out]; simp only [List.append_assoc])
                clear HTX2 HV d1
                generalize b2 ++ vaT nm te = b3 at *
                have HKB := Lib.hid (show Below rb w wc from HB3.out.trans (HBB.out.mono (by have := HQB.out.lt; omega)))
                by_cases e0 : te = 0
                · have z3 : (te != 0) = false := by simp [e0]
                  have E := Lib.hid (show txtU nm l (k + 1) = b3 from by rw [HTX3.out, poT, if_pos (.inl e0), List.append_nil])
                  clear e0
                  go_wp2_with fail
                  go_roundg (n - (k + 1))
                  case measure => omega
                  case rel => exact ⟨k + 1, by omega, rfl, by go_num, by rw [E.out], HBB.out⟩
                · have z3 : (te != 0) = true := by simp [e0]
                  by_cases e1 : te = 1
                  · have z4 : (te != 1) = false := by simp [e1]
                    have E := Lib.hid (show txtU nm l (k + 1) = b3 from by rw [HTX3.out, poT, if_pos (.inr e1), List.append_nil])
                    clear e0 e1
                    go_wp2_with fail
                    go_roundg (n - (k + 1))
                    case measure => omega
                    case rel => exact ⟨k + 1, by omega, rfl, by go_num, by rw [E.out], HBB.out⟩
                  · have z4 : (te != 1) = true := by simp [e1]
                    have E := Lib.hid (show txtU nm l (k + 1) = (b3 ++ [94]) ++ Lib.itoa te from by rw [HTX3.out, poT, if_neg (by omega)]; simp)
                    have HI := Lib.hid (dec_ref te wc (by omega))
                    have hil := Lib.itoa_length_le te (by omega) (by omega)
                    clear e0 e1
                    go_wp2_with fail
                    refine HI.out.mono ?_
                    rintro e w7 ⟨rfl, h7⟩
                    go_wp2_with fail
                    go_roundg (n - (k + 1))
                    case measure => omega
                    case rel => exact ⟨k + 1, by omega, rfl, by go_num, by rw [E.out, ← cat_s, ← cat_s], HBB.out.trans (h7.mono HBB.out.size)⟩
      · have z2 : ¬ (k : Int) < (n : Int) := by omega
        obtain rfl : k = n := by omega
        go_wp2_with fail
        go_ret
        exact ⟨by rw [HT2.out]; rfl, by rw [← HRB.out]; exact HB3.out.trans (HBR.out.mono (by have := HQB.out.lt; omega))⟩
end Go.Proofs.YtlbihllmpbhhcaaDoor
