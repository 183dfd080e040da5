/- unravelref13: decimal, power, Text. -/
import Derived.Test.YtbfggncmjdhapaaGreatDoorZRt4
import Derived.Test.YtbfggncmjdhapaaGreatDoorZPhm
import Derived.Lib.ItoaLen
import Derived.Laws.Concat
import Derived.Outline
import Derived.Deep.CutBlock
namespace Go.Proofs.YtbfggncmjdhapaaGreatDoor
open Go.RowKit
set_option linter.unusedVariables false

theorem cat_b (x y : List UInt8) : (⟨x.toArray⟩ ++ ⟨y.toArray⟩ : ByteArray) = ⟨(x ++ y).toArray⟩ := ByteArray.mk_append_mk x y
set_option maxRecDepth 100000 in
theorem run_digit (r : Nat) (h : r < 10) (w : World) : Sem.run Tryz.prog (Instr.slice 9 (.string ⟨#[48, 49, 50, 51, 52, 53, 54, 55, 56, 57]⟩) (some (.int .i64 (r : Int))) (some (.int .i64 ((r : Int) + 1))) none) w = .ok (.string ⟨(Lib.decDigits r).toArray⟩) w := by
  rw [Lib.decDigits, dif_pos h]
  rcases (by omega : r = 0 ∨ r = 1 ∨ r = 2 ∨ r = 3 ∨ r = 4 ∨ r = 5 ∨ r = 6 ∨ r = 7 ∨ r = 8 ∨ r = 9) with rfl | rfl | rfl | rfl | rfl | rfl | rfl | rfl | rfl | rfl <;> kernel_rfl
set_option maxHeartbeats 1000000 in
set_option maxRecDepth 100000 in
theorem decN_ref (u : Nat) : ∀ (w : World), u < 4611686018427387904 →
    Calls Tryz.prog 58 #[.int .i64 (u : Int)] w fun e w' => e = .returned (.string ⟨(Lib.decDigits u).toArray⟩) ∧ Below w.heap.size w w' := by
  induction u using Nat.strongRecOn with
  | _ u ih =>
    intro w hu
    have IH := Lib.hid ih
    clear ih
    have hz : ¬ (u : Int) < 0 := by omega
    have hm : (u : Int).tmod 10 = ((u % 10 : Nat) : Int) := by rw [Int.tmod_eq_emod_of_nonneg (by omega)]; omega
    have hq : (u : Int).tdiv 10 = ((u / 10 : Nat) : Int) := by rw [Int.tdiv_eq_ediv_of_nonneg (by omega)]; omega
    obtain ⟨r, hr⟩ : ∃ r, r = u % 10 := ⟨_, rfl⟩
    obtain ⟨q, hq2⟩ : ∃ q, q = u / 10 := ⟨_, rfl⟩
    have hr9 : r < 10 := by omega
    rw [← hr] at hm
    rw [← hq2] at hq
    have HR := Lib.hid hr
    have HQ := Lib.hid hq2
    clear hr hq2
    have z9 : (r : Int) < 10 := by omega
    have z8 : (r : Int) + 1 ≤ 10 := by omega
    have hsl := fun W => run_digit r hr9 W
    by_cases h10 : u < 10
    · have z1 : (u : Int) < 10 := by omega
      go_enter Tryz.func58, Tryz.ntmps58
      go_wp2_with fail
      go_ret
      exact ⟨by rw [HR.out, Nat.mod_eq_of_lt h10]; rfl, Below.refl _ _⟩
    · have z1 : ¬ (u : Int) < 10 := by omega
      have hq3 : q < u := by have := HQ.out; omega
      have HI := Lib.hid (IH.out q hq3 w (by omega))
      have HD := Lib.hid (show Lib.decDigits u = Lib.decDigits q ++ Lib.decDigits r from by
        rw [Lib.decDigits, dif_neg h10, HQ.out, HR.out]
        congr 1
        rw [Lib.decDigits, dif_pos (by omega)])
      have hwq : wrap64 (q : Int) = (q : Int) := IntWalk.wrap64_in _ (by omega)
      have hl1 : (Lib.decDigits q).length ≤ 20 := by rw [Lib.decDigits_length]; exact Lib.nDigits_le20 _ (by clear hwq hq; omega)
      clear hq3
      have hl2 : (Lib.decDigits r).length ≤ 20 := by rw [Lib.decDigits_length]; exact Lib.nDigits_le20 _ (by omega)
      go_enter Tryz.func58, Tryz.ntmps58
      go_wp2_with (go_at_call 58; refine HI.out.mono ?_; rintro e w1 ⟨rfl, hb1⟩)
      go_ret
      exact ⟨by rw [HD.out, ← ByteArray.mk_append_mk]; rfl, hb1⟩
set_option maxHeartbeats 1000000 in
set_option maxRecDepth 100000 in
theorem dec_ref (n : Int) (w : World) (h : -2305843009213693952 ≤ n ∧ n ≤ 2305843009213693952) :
    Calls Tryz.prog 58 #[.int .i64 n] w fun e w' => e = .returned (.string ⟨(Lib.itoa n).toArray⟩) ∧ Below w.heap.size w w' := by
  by_cases h0 : n < 0
  · obtain ⟨u, rfl⟩ : ∃ u : Nat, n = -(u : Int) := ⟨n.natAbs, by omega⟩
    have HI := Lib.hid (decN_ref u w (by omega))
    have HD := Lib.hid (show Lib.itoa (-(u : Int)) = 45 :: Lib.decDigits u from by unfold Lib.itoa; rw [if_pos h0]; simp)
    have z1 : - -(u : Int) = (u : Int) := by omega
    have hl1 : (Lib.decDigits u).length ≤ 20 := by rw [Lib.decDigits_length]; exact Lib.nDigits_le20 _ (by omega)
    have z2 : 0 < u := by omega
    go_enter Tryz.func58, Tryz.ntmps58
    go_wp2_with (go_at_call 58; refine HI.out.mono ?_; rintro e w1 ⟨rfl, hb1⟩)
    go_ret
    exact ⟨by rw [HD.out, show (45 :: Lib.decDigits u) = [45] ++ Lib.decDigits u from rfl, ← ByteArray.mk_append_mk]; rfl, hb1⟩
  · obtain ⟨u, rfl⟩ : ∃ u : Nat, n = (u : Int) := ⟨n.toNat, by omega⟩
    have := decN_ref u w (by omega)
    unfold Lib.itoa
    rw [if_neg h0]
    simpa using this
set_option maxHeartbeats 1000000 in
set_option maxRecDepth 100000 in
theorem power_ref (nm : List UInt8) (n : Int) (w : World) (hn : nm.length ≤ 1000) (h : -1048576 ≤ n ∧ n ≤ 1048576) :
    Calls Tryz.prog 59 #[.string ⟨nm.toArray⟩, .int .i64 n] w fun e w' => e = .returned (.string ⟨(powB nm n).toArray⟩) ∧ Below w.heap.size w w' := by
  by_cases h0 : n = 0
  · subst h0
    go_enter Tryz.func59, Tryz.ntmps59
    go_wp2_with fail
    go_ret
    exact ⟨rfl, Below.refl _ _⟩
  · have z0 : (n == 0) = false := beq_eq_false_iff_ne.2 h0
    by_cases h1 : n = 1
    · subst h1
      have E := Lib.hid (show powB nm 1 = nm from by unfold powB vaT poT; simp)
      go_enter Tryz.func59, Tryz.ntmps59
      go_wp2_with fail
      go_ret
      exact ⟨by rw [E.out]; rfl, Below.refl _ _⟩
    · have z1 : (n == 1) = false := beq_eq_false_iff_ne.2 h1
      have E := Lib.hid (show powB nm n = (nm ++ [94]) ++ Lib.itoa n from by unfold powB vaT poT; rw [if_neg h0, if_neg (by omega)]; simp)
      have HI := Lib.hid (dec_ref n w (by omega))
      have hil := Lib.itoa_length_le n (by omega) (by omega)
      clear h0 h1
      go_enter Tryz.func59, Tryz.ntmps59
      go_wp2_with fail
      refine HI.out.mono ?_
      rintro e w7 ⟨rfl, h7⟩
      have H7 := Lib.hid h7
      clear h7
      go_wp2_with fail
      go_ret
      exact ⟨by rw [E.out, ← cat_b, ← cat_b]; rfl, H7.out⟩
set_option maxHeartbeats 8000000 in
set_option maxRecDepth 100000 in
theorem text13 (v : Value) (p : PolB) (na nz : List UInt8) (w : World) (hv : R13 w v p) (hok : okB2 p) (hlen : lenB p ≤ 1000) (hn : na.length ≤ 1000) (hz : nz.length ≤ 1000) :
    Calls Tryz.prog 26 #[v, .string ⟨na.toArray⟩, .string ⟨nz.toArray⟩] w fun e w' => e = .returned (.string ⟨(txtB na nz p).toArray⟩) ∧ Below w.heap.size w w' := by
  obtain ⟨A, c, rfl, hx⟩ := hv
  have hW : ∀ W, W = (w.alloc (.cells #[.slice A (p.getD []).length c, .bool p.isNone] 49)) → Arr W w.heap.size 49 [.slice A (p.getD []).length c, .bool p.isNone] ∧ Below w.heap.size w W := by
    intro W hW
    subst hW
    exact ⟨Arr.new _ _ [_, _], ((Below.refl _ _).alloc (Nat.le_refl _) _)⟩
  cases p with
  | none =>
    change Calls Tryz.prog 26 #[.agg #[.slice A 0 c, .bool true], .string ⟨na.toArray⟩, .string ⟨nz.toArray⟩] w _
    change ∀ W, W = (w.alloc (.cells #[.slice A 0 c, .bool true] 49)) → Arr W w.heap.size 49 [.slice A 0 c, .bool true] ∧ Below w.heap.size w W at hW
    clear hx
    go_enter Tryz.func26, Tryz.ntmps26
    go_upto_region 1 with fail
    generalize (w.alloc (.cells #[.slice A 0 c, .bool true] 49)) = w3 at hW ⊢
    obtain ⟨qb, hb3⟩ := hW w3 rfl
    have y1 := qb.cell 1
    have HB := Lib.hid hb3
    clear hW qb hb3
    go_wp2_with fail
    go_ret
    exact ⟨rfl, HB.out⟩
  | some l =>
  change Calls Tryz.prog 26 #[.agg #[.slice A l.length c, .bool false], .string ⟨na.toArray⟩, .string ⟨nz.toArray⟩] w _
  change SlA tB w (.slice A l.length c) l at hx
  change ∀ W, W = (w.alloc (.cells #[.slice A l.length c, .bool false] 49)) → Arr W w.heap.size 49 [.slice A l.length c, .bool false] ∧ Below w.heap.size w W at hW
  change l.length ≤ 1000 at hlen
  have hcc0 : l.length ≤ c := by obtain ⟨A, c', hv, hc, _⟩ := hx; injection hv with e1 e2 e3; rw [e3]; exact hc
  obtain ⟨T, hT⟩ : ∃ T, T = txtB na nz (some l) := ⟨_, rfl⟩
  rw [← hT]
  have HT := Lib.hid hT
  have HX := Lib.hid (fun W (hb : Below w.heap.size w W) => hx.below hb)
  have HLI := Lib.hid hok.2
  clear hT hok hx
  obtain ⟨n, hn0⟩ : ∃ n, n = l.length := ⟨_, rfl⟩
  rw [← hn0] at hlen HX hW hcc0 ⊢
  have HN := Lib.hid hn0
  clear hn0
  go_enter Tryz.func26, Tryz.ntmps26
  go_upto_region 1 with fail
  generalize (w.alloc (.cells #[.slice A n c, .bool false] 49)) = w3 at hW ⊢
  obtain ⟨qb, hb3⟩ := hW w3 rfl
  have y0 := qb.cell 0
  have y1 := qb.cell 1
  clear hW
  by_cases h0 : n = 0
  · have z1 : ((n : Int) == 0) = true := by rw [beq_iff_eq]; omega
    have HT2 := Lib.hid (show T = [48] from by rw [HT.out]; exact if_pos (by rw [← HN.out]; exact h0))
    have HB := Lib.hid hb3
    clear hb3 qb
    go_wp2_with fail
    go_ret
    exact ⟨by rw [HT2.out]; rfl, HB.out⟩
  · have z1 : ((n : Int) == 0) = false := by rw [beq_eq_false_iff_ne]; omega
    have HT2 := Lib.hid (show T = txtBU na nz l n from by rw [HT.out, HN.out]; exact if_neg (by rw [← HN.out]; exact h0))
    clear HT
    have HB3 := Lib.hid hb3
    have HQB := Lib.hid qb
    obtain ⟨rb, hrb⟩ : ∃ r, r = w.heap.size := ⟨_, rfl⟩
    rw [← hrb] at y0 y1 HQB HB3 HX ⊢
    have HRB := Lib.hid hrb
    clear hb3 qb hrb h0
    go_wp2_with fail
    clear z1 y0 y1
    go_loopg [7, 8, 9, 10] n (fun gk s7 s8 s9 s10 wr => ∃ k : Nat, k ≤ n ∧ gk = n - k ∧ s8 = .int .i64 (k : Int) ∧ s7 = .string ⟨(txtBU na nz l k).toArray⟩ ∧ Below w3.heap.size w3 wr)
    case atStart => exact ⟨0, Nat.zero_le _, rfl, rfl, rfl, Below.refl _ _⟩
    case round =>
      obtain ⟨k, hk, rfl, rfl, rfl, hbr⟩ := hrel
      have qb := HQB.out.below hbr HQB.out.lt
      have y0 := qb.cell 0
      have HBR := Lib.hid hbr
      by_cases hlt : k < n
      · have z2 : (k : Int) < (n : Int) := by omega
        have hkl : k < l.length := by have := HN.out; omega
        obtain ⟨b, o, rfl, -, y2, y3, y4⟩ := (HX.out wr (HB3.out.trans (hbr.mono (by have := HQB.out.lt; omega)))).at3 hkl
        obtain ⟨ta, hta⟩ : ∃ t, t = l[k].1.1 := ⟨_, rfl⟩
        obtain ⟨tz, htz⟩ : ∃ t, t = l[k].1.2 := ⟨_, rfl⟩
        obtain ⟨tc, htc⟩ : ∃ t, t = l[k].2 := ⟨_, rfl⟩
        rw [← hta] at y2
        rw [← htz] at y3
        rw [← htc] at y4
        have hco := HLI.out.co _ (List.getElem_mem hkl)
        have hea := HLI.out.ea _ (List.getElem_mem hkl)
        have hez := HLI.out.ez _ (List.getElem_mem hkl)
        have HTX := Lib.hid (show txtBU na nz l (k + 1) = txtBU na nz l k ++ txtB1 na nz k ((ta, tz), tc) from by rw [txtBU, List.getElem?_eq_getElem hkl, hta, htz, htc]; rfl)
        rw [← hta] at hea
        rw [← htz] at hez
        rw [← htc] at hco
        have htl := txtBU_len hn hz HLI.out k (by omega)
        generalize txtBU na nz l k = bs at *
        clear qb hbr hta htz htc
        go_upto_region 10 with fail
        have hst : Arr (wr.alloc (.cells #[.int .i64 ta, .int .i64 tz, .int .i64 tc] 34)) wr.heap.size 34 [.int .i64 ta, .int .i64 tz, .int .i64 tc] ∧ Below w3.heap.size w3 (wr.alloc (.cells #[.int .i64 ta, .int .i64 tz, .int .i64 tc] 34)) := ⟨Arr.new _ _ [_, _, _], HBR.out.alloc HBR.out.size _⟩
        generalize (wr.alloc (.cells #[.int .i64 ta, .int .i64 tz, .int .i64 tc] 34)) = w5 at *
        clear y0 y2 y3 y4
        generalize wr.heap.size = g at *
        have x2 := hst.1.cell 2
        have HST := Lib.hid hst
        clear hst
        go_upto_if 32 with fail
        go_cut [7, 10] from 17 to 67 (fun s7 s10 wx => s7 = .string ⟨(bs ++ sgT k tc).toArray⟩ ∧ s10 = .int .i64 (cabs tc) ∧ wx = w5)
        case first =>
          have x2 := HST.out.1.cell 2
          by_cases c1 : tc < 0
          · have E1 := Lib.hid (show sgT k tc = [45] from if_pos c1)
            have E2 := Lib.hid (show cabs tc = -tc from if_pos c1)
            go_wp2_with fail
            go_meet
            exact ⟨by rw [E1.out, ← cat_b], by rw [E2.out], rfl⟩
          · have E2 := Lib.hid (show cabs tc = tc from if_neg c1)
            by_cases c2 : (k : Int) > 0
            · have E1 := Lib.hid (show sgT k tc = [43] from by unfold sgT; rw [if_neg c1, if_pos (by omega)])
              go_wp2_with fail
              go_meet
              exact ⟨by rw [E1.out, ← cat_b], by rw [E2.out], rfl⟩
            · have E1 := Lib.hid (show sgT k tc = [] from by unfold sgT; rw [if_neg c1, if_neg (by omega)])
              go_wp2_with fail
              go_meet
              exact ⟨by rw [E1.out, List.append_nil], by rw [E2.out], rfl⟩
        case rest =>
          obtain ⟨rfl, rfl, rfl⟩ := hcut
          have hl1 := sgT_len k tc
          have hl2 : (bs ++ sgT k tc).length = bs.length + (sgT k tc).length := List.length_append
          have HTX1 := Lib.hid (show txtBU na nz l (k + 1) = (bs ++ sgT k tc) ++ (coB tc (ta, tz) ++ (powB na ta ++ powB nz tz)) from by rw [HTX.out]; unfold txtB1; simp only [List.append_assoc])
          clear HTX
          generalize bs ++ sgT k tc = b1 at *
          have x0 := HST.out.1.cell 0
          have x1 := HST.out.1.cell 1
          have hcc : cabs tc ≤ 1125899906842624 ∧ 0 ≤ cabs tc := by unfold cabs; split <;> omega
          have HC2 := Lib.hid (show coB tc (ta, tz) = if cabs tc ≠ 1 ∨ (ta = 0 ∧ tz = 0) then Lib.itoa (cabs tc) else [] from by
            unfold coB
            by_cases c1 : cabs tc = 1 ∧ ¬ (ta = 0 ∧ tz = 0)
            · rw [if_pos c1, if_neg (by omega)]
            · rw [if_neg c1, if_pos (by omega)])
          have hl3 := coB_len (c := tc) (e := (ta, tz)) hco
          generalize coB tc (ta, tz) = co at *
          generalize cabs tc = ca at *
          clear x2
          obtain ⟨D, hD⟩ : ∃ D, D = decide (ca ≠ 1 ∨ (ta = 0 ∧ tz = 0)) := ⟨_, rfl⟩
          have HD := Lib.hid hD
          clear hD
          go_upto_region 16 with fail
          go_cut [7, 10, 52] from 17 to 67 (fun s7 s10 s52 wx => s7 = .string ⟨b1.toArray⟩ ∧ s10 = .int .i64 ca ∧ s52 = .bool D ∧ wx = wc)
          case first =>
            by_cases c1 : ca = 1
            · have z3 : (ca != 1) = false := by simp [c1]
              by_cases c2 : ta = 0
              · have z4 : (ta == 0) = true := by simp [c2]
                by_cases c3 : tz = 0
                · have z5 : (tz == 0) = true := by simp [c3]
                  have HE := Lib.hid (HD.out.trans (decide_eq_true (.inr ⟨c2, c3⟩)))
                  clear c1 c2 c3
                  go_wp2_with fail
                  go_meet
                  exact ⟨rfl, rfl, by rw [HE.out], rfl⟩
                · have z5 : (tz == 0) = false := by simp [c3]
                  have HE := Lib.hid (HD.out.trans (decide_eq_false (fun h => h.elim (fun h => h c1) (fun h => c3 h.2))))
                  clear c1 c2 c3
                  go_wp2_with fail
                  go_meet
                  exact ⟨rfl, rfl, by rw [HE.out], rfl⟩
              · have z4 : (ta == 0) = false := by simp [c2]
                have HE := Lib.hid (HD.out.trans (decide_eq_false (fun h => h.elim (fun h => h c1) (fun h => c2 h.1))))
                clear c1 c2
                go_wp2_with fail
                go_meet
                exact ⟨rfl, rfl, by rw [HE.out], rfl⟩
            · have z3 : (ca != 1) = true := by simp [c1]
              have HE := Lib.hid (HD.out.trans (decide_eq_true (.inl c1)))
              clear c1
              go_wp2_with fail
              go_meet
              exact ⟨rfl, rfl, by rw [HE.out], rfl⟩
          case rest =>
            obtain ⟨rfl, rfl, rfl, rfl⟩ := hcut
            clear x0 x1
            go_upto_if 52 with fail
            go_cut [7, 10] from 17 to 67 (fun s7 s10 wx => s7 = .string ⟨(b1 ++ co).toArray⟩ ∧ Below wc.heap.size wc wx)
            case first =>
              cases D with
              | false =>
                have E := Lib.hid (show co = [] from by rw [HC2.out, if_neg]; exact of_decide_eq_false HD.out.symm)
                go_wp2_with fail
                go_meet
                exact ⟨by rw [E.out, List.append_nil], Below.refl _ _⟩
              | true =>
                have E := Lib.hid (show co = Lib.itoa ca from by rw [HC2.out, if_pos]; exact of_decide_eq_true HD.out.symm)
                have HI := Lib.hid (dec_ref ca wc (by omega))
                have hil := Lib.itoa_length_le ca (by omega) (by omega)
                clear hl3 HC2
                go_wp2_with fail
                refine HI.out.mono ?_
                rintro e w6 ⟨rfl, h6⟩
                go_wp2_with fail
                go_meet
                exact ⟨by rw [E.out, ← cat_b], h6⟩
            case rest =>
              obtain ⟨rfl, hb6⟩ := hcut
              obtain ⟨w6, hw6⟩ : ∃ W, W = wc := ⟨_, rfl⟩
              rw [← hw6]
              rename_i wa
              have HB6 := Lib.hid hb6
              rw [← hw6] at HB6
              clear hb6 hw6
              have hl4 : (b1 ++ co).length = b1.length + co.length := List.length_append
              have HTX2 := Lib.hid (show txtBU na nz l (k + 1) = (b1 ++ co) ++ powB na ta ++ powB nz tz from by rw [HTX1.out]; simp only [List.append_assoc])
              clear HTX1 HC2 HD
              generalize b1 ++ co = b2 at *
              have hs6 := HST.out.1.below HB6.out HST.out.1.lt
              have HBB := Lib.hid (HST.out.2.trans (HB6.out.mono HST.out.2.size))
              have HS6 := Lib.hid hs6
              clear hs6 HST HB6
              have HPA := Lib.hid (fun W => power_ref na ta W hn hea)
              have HPZ := Lib.hid (fun W => power_ref nz tz W hz hez)
              have hp1 := powB_len (nm := na) (e := ta) hn hea
              have hp2 := powB_len (nm := nz) (e := tz) hz hez
              generalize powB na ta = pa at *
              generalize powB nz tz = pz at *
              have hl5 : (b2 ++ pa).length = b2.length + pa.length := List.length_append
              have hb2 : b2.length ≤ 5000000 := by omega
              clear hl1 hl2 hl3 hl4 htl
              have hx1 : b2.length + pa.length ≤ 9223372036854775807 := by omega
              have hx2 : b2.length + pa.length + pz.length ≤ 9223372036854775807 := by omega
              go_upto_region 18 with fail
              refine wp_region_phy (fun a b => Below a.heap.size a b) (fun h k => h.trans (k.mono h.size)) ((Below.refl _ _).drew) (by kernel_rfl) (by kernel_rfl) (by kernel_rfl) (by kernel_rfl) (phiT (fun i => ([some (.string ⟨b2.toArray⟩), some (.string ⟨na.toArray⟩), some (.pointer (some ⟨g, 0, none⟩)), some (.int .i64 ta), some (.string ⟨pa.toArray⟩), some (.string ⟨(b2 ++ pa).toArray⟩), some (.string ⟨nz.toArray⟩), some (.pointer (some ⟨g, 1, none⟩)), some (.int .i64 tz), some (.string ⟨pz.toArray⟩), some (.string ⟨(b2 ++ pa ++ pz).toArray⟩), some (.string ⟨(b2 ++ pa ++ pz).toArray⟩)] : List (Option Value)).getD i none) (fun i v w => True)) (fun i v w w' h hb => ?_) ⟨?_, ?_, ?_, ?_, ?_, ?_, ?_, ?_, ?_, ?_, ?_, ?_, trivial⟩ ?_
              · unfold phiT at h ⊢
                split
                · next u hu => rw [hu] at h; exact h
                · next hu =>
                  rw [hu] at h
                  exact True.intro
              · intro x w1 bA hT hdep hold hb
                refine .inl ⟨trivial, ?_⟩
                have e7 : bA.tmps[7]?.getD undef = .string ⟨b2.toArray⟩ := (hb 7).trans (hold 11 (by decide))
                refine phx_run (.string ⟨b2.toArray⟩) ?_ (Below.refl _ _) rfl
                clear hb hdep hold
                go_simp
              · intro x w1 bA hT hdep hold hb
                refine .inl ⟨trivial, ?_⟩
                have e1 : bA.tmps[1]?.getD undef = .string ⟨na.toArray⟩ := hb 1
                refine phx_run (.string ⟨na.toArray⟩) ?_ (Below.refl _ _) rfl
                clear hb hdep hold
                go_simp
              · intro x w1 bA hT hdep hold hb
                refine .inl ⟨trivial, ?_⟩
                have e9 : bA.tmps[9]?.getD undef = .pointer (some ⟨g, 0, none⟩) := hb 9
                refine phx_run (.pointer (some ⟨g, 0, none⟩)) ?_ (Below.refl _ _) rfl
                clear hb hdep hold
                go_simp
              · intro x w1 bA hT hdep hold hb
                refine .inl ⟨trivial, ?_⟩
                have e59 : bA.tmps[59]?.getD undef = .pointer (some ⟨g, 0, none⟩) := (hb 59).trans (hdep 2 (by decide))
                have cc0 := (HS6.out.below hT HS6.out.lt).cell 0
                refine phx_run (.int .i64 ta) ?_ (Below.refl _ _) rfl
                clear hb hdep hold
                go_simp
              · intro x w1 bA hT hdep hold hb
                refine .inl ⟨trivial, ?_⟩
                have e58 : bA.tmps[58]?.getD undef = .string ⟨na.toArray⟩ := (hb 58).trans (hdep 1 (by decide))
                have e60 : bA.tmps[60]?.getD undef = .int .i64 ta := (hb 60).trans (hdep 3 (by decide))
                refine phx_call ?_ ((HPA.out w1).mono fun e w' h => ⟨_, h.1, h.2, rfl⟩)
                clear hb hdep hold
                go_simp
              · intro x w1 bA hT hdep hold hb
                refine .inl ⟨trivial, ?_⟩
                have e57 : bA.tmps[57]?.getD undef = .string ⟨b2.toArray⟩ := (hb 57).trans (hdep 0 (by decide))
                have e61 : bA.tmps[61]?.getD undef = .string ⟨pa.toArray⟩ := (hb 61).trans (hdep 4 (by decide))
                have cs := cat_b b2 pa
                refine phx_run (.string ⟨(b2 ++ pa).toArray⟩) ?_ (Below.refl _ _) rfl
                clear hb hdep hold
                go_simp
              · intro x w1 bA hT hdep hold hb
                refine .inl ⟨trivial, ?_⟩
                have e2 : bA.tmps[2]?.getD undef = .string ⟨nz.toArray⟩ := hb 2
                refine phx_run (.string ⟨nz.toArray⟩) ?_ (Below.refl _ _) rfl
                clear hb hdep hold
                go_simp
              · intro x w1 bA hT hdep hold hb
                refine .inl ⟨trivial, ?_⟩
                have e9 : bA.tmps[9]?.getD undef = .pointer (some ⟨g, 0, none⟩) := hb 9
                refine phx_run (.pointer (some ⟨g, 1, none⟩)) ?_ (Below.refl _ _) rfl
                clear hb hdep hold
                go_simp
              · intro x w1 bA hT hdep hold hb
                refine .inl ⟨trivial, ?_⟩
                have e64 : bA.tmps[64]?.getD undef = .pointer (some ⟨g, 1, none⟩) := (hb 64).trans (hdep 7 (by decide))
                have cc1 := (HS6.out.below hT HS6.out.lt).cell 1
                refine phx_run (.int .i64 tz) ?_ (Below.refl _ _) rfl
                clear hb hdep hold
                go_simp
              · intro x w1 bA hT hdep hold hb
                refine .inl ⟨trivial, ?_⟩
                have e63 : bA.tmps[63]?.getD undef = .string ⟨nz.toArray⟩ := (hb 63).trans (hdep 6 (by decide))
                have e65 : bA.tmps[65]?.getD undef = .int .i64 tz := (hb 65).trans (hdep 8 (by decide))
                refine phx_call ?_ ((HPZ.out w1).mono fun e w' h => ⟨_, h.1, h.2, rfl⟩)
                clear hb hdep hold
                go_simp
              · intro x w1 bA hT hdep hold hb
                refine .inl ⟨trivial, ?_⟩
                have e62 : bA.tmps[62]?.getD undef = .string ⟨(b2 ++ pa).toArray⟩ := (hb 62).trans (hdep 5 (by decide))
                have e66 : bA.tmps[66]?.getD undef = .string ⟨pz.toArray⟩ := (hb 66).trans (hdep 9 (by decide))
                have cs := cat_b (b2 ++ pa) pz
                refine phx_run (.string ⟨(b2 ++ pa ++ pz).toArray⟩) ?_ (Below.refl _ _) rfl
                clear hb hdep hold
                go_simp
              · intro x w1 bA hT hdep hold hb
                refine .inl ⟨trivial, ?_⟩
                have e67 : bA.tmps[67]?.getD undef = .string ⟨(b2 ++ pa ++ pz).toArray⟩ := (hb 67).trans (hdep 10 (by decide))
                refine phx_run (.string ⟨(b2 ++ pa ++ pz).toArray⟩) ?_ (Below.refl _ _) rfl
                clear hb hdep hold
                go_simp
              intro x w1 hT hall
              have x0e : x 0 = .string ⟨b2.toArray⟩ := hall 0 (by decide)
              have x1e : x 1 = .string ⟨na.toArray⟩ := hall 1 (by decide)
              have x2e : x 2 = .pointer (some ⟨g, 0, none⟩) := hall 2 (by decide)
              have x3e : x 3 = .int .i64 ta := hall 3 (by decide)
              have x4e : x 4 = .string ⟨pa.toArray⟩ := hall 4 (by decide)
              have x5e : x 5 = .string ⟨(b2 ++ pa).toArray⟩ := hall 5 (by decide)
              have x6e : x 6 = .string ⟨nz.toArray⟩ := hall 6 (by decide)
              have x7e : x 7 = .pointer (some ⟨g, 1, none⟩) := hall 7 (by decide)
              have x8e : x 8 = .int .i64 tz := hall 8 (by decide)
              have x9e : x 9 = .string ⟨pz.toArray⟩ := hall 9 (by decide)
              have x10e : x 10 = .string ⟨(b2 ++ pa ++ pz).toArray⟩ := hall 10 (by decide)
              have x11e : x 11 = .string ⟨(b2 ++ pa ++ pz).toArray⟩ := hall 11 (by decide)
              simp only [putAll, dstOf, Act.put, List.map_cons, List.map_nil, List.setIfInBounds_toArray, List.set_cons_succ, List.set_cons_zero, Nat.reduceAdd, x0e, x1e, x2e, x3e, x4e, x5e, x6e, x7e, x8e, x9e, x10e, x11e]
              clear x0e x1e x2e x3e x4e x5e x6e x7e x8e x9e x10e x11e hall
              have HTT := Lib.hid (HBB.out.trans (hT.mono HBB.out.size))
              clear hT HBB HS6
              go_wp2_with fail
              go_roundg (n - (k + 1))
              case measure => omega
              case rel => exact ⟨k + 1, by omega, rfl, by go_num, by rw [HTX2.out], HTT.out⟩
      · have z2 : ¬ (k : Int) < (n : Int) := by omega
        obtain rfl : k = n := by omega
        go_wp2_with fail
        go_ret
        exact ⟨by rw [HT2.out]; rfl, by rw [← HRB.out]; exact HB3.out.trans (HBR.out.mono (by have := HQB.out.lt; omega))⟩
end Go.Proofs.YtbfggncmjdhapaaGreatDoor
