/- FoxMatrix: the law's walk. -/
import Derived.Test.YtlbihllmpbhhcaaDoorMtx
import Derived.Test.YtlbihllmpbhhcaaDoorMtb
import Derived.Test.YtlbihllmpbhhcaaDoorAwf
import Derived.Test.YtlbihllmpbhhcaaDoorRdv
import Derived.Test.YtlbihllmpbhhcaaDoorRtx
import Derived.Test.YtlbihllmpbhhcaaDoorPhi
namespace Go.Proofs.YtlbihllmpbhhcaaDoor
open Go.RowKit
set_option linter.unusedVariables false

set_option maxHeartbeats 4000000 in
set_option maxRecDepth 100000 in
theorem fmatrix_law (gens : Int) (vc vs : Value) (comp : List Int) (wss : List (List Int)) (w : World) (hc : Ints w vc comp) (hs : Wds w vs wss) (lc : comp.length ≤ 9223372036854775807) (ls : wss.length ≤ 9223372036854775807) (lw : ∀ ws ∈ wss, ws.length ≤ 9223372036854775807) (ht : Tb w) :
    Calls Tryd.prog 4 #[.agg #[.int .i64 gens, vc, vs]] w fun e w' => e = .returned (.bool true) ∧ Below w.heap.size w w' := by
  have HT := Lib.hid (fun W (hb : Below w.heap.size w W) => ht.below hb)
  have HC := Lib.hid (fun W (hb : Below w.heap.size w W) => hc.below hb)
  have HS := Lib.hid (fun W (hb : Below w.heap.size w W) => hs.below hb)
  have HLW := Lib.hid lw
  obtain ⟨A1, c1, rfl, -, -⟩ := hc
  obtain ⟨A2, c2, rfl, -⟩ := hs
  obtain ⟨m, hm⟩ : ∃ m, m = wss.length := ⟨_, rfl⟩
  obtain ⟨cl, hcl⟩ : ∃ m, m = comp.length := ⟨_, rfl⟩
  rw [← hm] at ls HS ⊢
  rw [← hcl] at lc HC ⊢
  have HM := Lib.hid hm
  have HCL := Lib.hid hcl
  clear lw ht hm hcl
  have hW : ∀ W, W = (w.alloc (.cells #[.int .i64 gens, .slice A1 cl c1, .slice A2 m c2] 41)) → Arr W w.heap.size 41 [.int .i64 gens, .slice A1 cl c1, .slice A2 m c2] ∧ Below w.heap.size w W := by
    intro W hW
    subst hW
    exact ⟨Arr.new _ _ [_, _, _], (Below.refl _ _).alloc (Nat.le_refl _) _⟩
  go_enter Tryd.func4, Tryd.ntmps4
  go_upto_region 1 with fail
  generalize (w.alloc (.cells #[.int .i64 gens, .slice A1 cl c1, .slice A2 m c2] 41)) = w3 at hW ⊢
  obtain ⟨qg, hb3⟩ := hW w3 rfl
  have HQ3 := Lib.hid qg
  have HB3 := Lib.hid hb3
  have HA := Lib.hid (awakeF_any w3 (HT.out w3 hb3))
  clear hW qg hb3
  go_upto_region 3 with (go_at_call 9; refine HA.out.mono ?_; rintro e w4 ⟨rfl, hb4⟩; have qg4 := HQ3.out.below hb4 HQ3.out.lt; have HG4 := Lib.hid qg4; have HB4 := Lib.hid (HB3.out.trans (hb4.mono HB3.out.size)); have y0 := qg4.cell 0; have y1 := qg4.cell 1; have y2 := qg4.cell 2; clear qg4 hb4)
  clear HA HQ3 HB3
  by_cases g1 : (m : Int) > 12
  · go_wp2_with fail
    go_ret
    exact ⟨rfl, HB4.out⟩
  by_cases g2 : gens > 12
  · go_wp2_with fail
    go_ret
    exact ⟨rfl, HB4.out⟩
  by_cases g3 : (cl : Int) > 40
  · go_wp2_with fail
    go_ret
    exact ⟨rfl, HB4.out⟩
  go_wp2_with fail
  go_loopg [4, 33] m (fun gk s4 s33 wr => ∃ k : Nat, k ≤ m ∧ gk = m - k ∧ s33 = .int .i64 (k : Int) ∧ Hid (∀ ws ∈ wss.take k, ws.length ≤ 40) ∧ w4 = wr)
  case atStart => exact ⟨0, Nat.zero_le _, rfl, rfl, Lib.hid (fun ws h => by simp at h), rfl⟩
  case round =>
    obtain ⟨k, hk, rfl, rfl, HK, rfl⟩ := hrel
    by_cases hlt : k < m
    · have z1 : (k : Int) < (m : Int) := by omega
      have hkl : k < wss.length := by have := HM.out; omega
      obtain ⟨b, o, vk, rfl, hcell, hik⟩ := (HS.out w4 HB4.out).at_ hkl
      have hl := HLW.out _ (List.getElem_mem hkl)
      have HK2 := Lib.hid (fun (h : wss[k].length ≤ 40) => (show ∀ ws ∈ wss.take (k + 1), ws.length ≤ 40 from fun ws hw => by
        rw [← List.take_append_getElem hkl] at hw
        rcases List.mem_append.1 hw with hw | hw
        · exact HK.out ws hw
        · rw [List.mem_singleton.1 hw]; exact h))
      obtain ⟨A5, c5, rfl, -, -⟩ := hik
      generalize wss[k].length = q at *
      by_cases c40 : (q : Int) > 40
      · clear HK2
        go_wp2_with fail
        go_ret
        exact ⟨rfl, HB4.out⟩
      · have HK3 := Lib.hid (HK2.out (by omega))
        clear HK2 HK
        go_wp2_with fail
        go_roundg (m - (k + 1))
        case measure => omega
        case rel => exact ⟨k + 1, by omega, rfl, by go_num, HK3, rfl⟩
    · have z1 : ¬ (k : Int) < (m : Int) := by omega
      have HW40 := Lib.hid (show ∀ ws ∈ wss, ws.length ≤ 40 from fun ws hw => HK.out ws (by rw [List.take_of_length_le (by have := HM.out; omega)]; exact hw))
      clear HK
      cases hv : vldG gens comp wss with
      | false =>
        have HMB := Lib.hid (fmatrix_bad gens _ _ comp wss w4 (HC.out w4 HB4.out) (HS.out w4 HB4.out) hv (by have := HCL.out; omega) (by have := HM.out; omega) (fun ws hw => by have := HW40.out ws hw; omega))
        have HGV := Lib.hid (fun W (hb : Below w.heap.size w W) => gvalid_any gens _ _ comp wss W (HC.out W hb) (HS.out W hb) (by have := HCL.out; omega) (by have := HM.out; omega) (fun ws hw => by have := HW40.out ws hw; omega))
        rw [hv] at HGV
        clear hv
        go_wp2_with (first
          | (go_at_call 17; refine HMB.out.mono ?_; rintro e w5 ⟨rfl, hb5⟩; have qg5 := HG4.out.below hb5 HG4.out.lt; have HB5 := Lib.hid (HB4.out.trans (hb5.mono HB4.out.size)); clear y0 y1 y2; have y0 := qg5.cell 0; have y1 := qg5.cell 1; have y2 := qg5.cell 2; clear qg5 hb5)
          | (go_at_call 18; refine (HGV.out _ HB5.out).mono ?_; rintro e w6 ⟨rfl, hb6⟩; have HB6 := Lib.hid (HB5.out.trans (hb6.mono HB5.out.size))))
        go_ret
        exact ⟨rfl, HB6.out⟩
      | true =>
        obtain ⟨hn0, hn1, hn2, hwx⟩ := vldG_parts hv
        obtain ⟨n, rfl⟩ : ∃ n : Nat, gens = (n : Int) := ⟨gens.toNat, by omega⟩
        have hn12 : n ≤ 12 := by omega
        have HMB := Lib.hid (fmatrix_any n _ _ comp wss w4 (HC.out w4 HB4.out) (HS.out w4 HB4.out) hv (by have := HM.out; omega) (fun ws hw => by have := HW40.out ws hw; omega))
        have HGV := Lib.hid (fun W (hb : Below w.heap.size w W) => gvalid_any (n : Int) _ _ comp wss W (HC.out W hb) (HS.out W hb) (by have := HCL.out; omega) (by have := HM.out; omega) (fun ws hw => by have := HW40.out ws hw; omega))
        rw [hv] at HGV
        have HWX := Lib.hid hwx
        clear hv hwx hn2
        go_upto_region 12 with (go_at_call 17; refine HMB.out.mono ?_; rintro e w5 ⟨v5, N, rfl, hmat, hb5⟩; have qg5 := HG4.out.below hb5 HG4.out.lt; have HB5 := Lib.hid (HB4.out.trans (hb5.mono HB4.out.size)); clear y0 y1 y2; have y0 := qg5.cell 0; have y1 := qg5.cell 1; have y2 := qg5.cell 2; have HG5 := Lib.hid qg5; clear qg5 hb5)
        have HMT := Lib.hid hmat
        obtain ⟨ss, hsl, hoz, -⟩ := hmat
        obtain ⟨A5, c5, rfl⟩ := hoz.form
        have hsm : ss.length = m := by rw [hsl]; exact HM.out.symm
        rw [hsm] at HMT ⊢
        clear hsl hoz hsm HMB
        have HGV5 := Lib.hid (HGV.out w5 HB5.out)
        clear HGV
        go_upto_region 14 with (go_at_call 18; refine HGV5.out.mono ?_; rintro e w6 ⟨rfl, hb6⟩; have HB6 := Lib.hid (HB5.out.trans (hb6.mono HB5.out.size)); have HM6 := Lib.hid (HMT.out.below hb6); have qg6 := HG5.out.below hb6 HG5.out.lt; have HG6 := Lib.hid qg6; clear y0 y1 y2; have y0 := qg6.cell 0; have y2 := qg6.cell 2; clear qg6 hb6)
        clear HGV5 HMT HG5 HB5 HG4 HB4
        have hmk := mk_ones n (by omega) w6
        go_upto_region 17 with fail
        clear hmk
        have hA : Arr (w6.alloc (.cells (rowOf (List.replicate n (.int .i64 0))) 3)) w6.heap.size 3 (onesV n 0) := by
          have := Arr.new w6 3 (List.replicate n (.int .i64 0))
          unfold onesV
          simpa using this
        have hB : Below w.heap.size w (w6.alloc (.cells (rowOf (List.replicate n (.int .i64 0))) 3)) := HB6.out.alloc HB6.out.size _
        have hG : Arr (w6.alloc (.cells (rowOf (List.replicate n (.int .i64 0))) 3)) w.heap.size 41 [.int .i64 (n : Int), .slice A1 cl c1, .slice A2 m c2] := HG6.out.alloc _
        have hM := HM6.out.below ((Below.refl _ _).alloc (Nat.le_refl _) (.cells (rowOf (List.replicate n (.int .i64 0))) 3))
        obtain ⟨cb, hcb⟩ : ∃ c, c = w6.heap.size := ⟨_, rfl⟩
        have hcw : w.heap.size ≤ cb := by rw [hcb]; exact HB6.out.size
        rw [← hcb] at hA ⊢
        generalize (w6.alloc (.cells (rowOf (List.replicate n (.int .i64 0))) 3)) = w7 at *
        clear hcb y0 y2 HG6 HB6 HM6
        go_wp2_with fail
        go_loopg [8, 72] n (fun gk s8 s72 wr => ∃ k : Nat, k ≤ n ∧ gk = n - k ∧ s72 = .int .i64 (k : Int) ∧ Arr wr cb 3 (onesV n k) ∧ Below w.heap.size w wr ∧ Arr wr w.heap.size 41 [.int .i64 (n : Int), .slice A1 cl c1, .slice A2 m c2] ∧ MatIs N wr (.slice A5 m c5) n (List.replicate n 1) wss)
        case atStart => exact ⟨0, Nat.zero_le _, rfl, rfl, hA, hB, hG, hM⟩
        case round =>
          clear hA hB hG hM
          obtain ⟨q, hq, rfl, rfl, hA, hB, hG, hM⟩ := hrel
          by_cases hlt2 : q < n
          · have z2 : (q : Int) < (n : Int) := by omega
            have ya := hA.cell q
            rw [onesV_get hlt2] at ya
            have yf := hA.frozen q
            have HNA := Lib.hid (show Arr (wr.setCell ⟨cb, q, none⟩ (.int .i64 1)) cb 3 (onesV n (q + 1)) from by rw [← onesV_set hlt2]; exact hA.set q _)
            have HNB := Lib.hid (hB.setCell (p := ⟨cb, q, none⟩) hcw (.int .i64 1))
            have HNG := Lib.hid (hG.far (p := ⟨cb, q, none⟩) (hG.ne hA (by decide)) (.int .i64 1))
            have HNM := Lib.hid (hM.keepE (KeepE.set (i := q) hA (.int .i64 1)) (by decide) (by decide) (by decide))
            clear hA hB hG hM
            go_wp2_with fail
            go_roundg (n - (q + 1))
            case measure => omega
            case rel => exact ⟨q + 1, by omega, rfl, by go_num, HNA.out, HNB.out, HNG.out, HNM.out⟩
          · have z2 : ¬ (q : Int) < (n : Int) := by omega
            obtain rfl : q = n := by omega
            rw [onesV_all] at hA
            rename World => wB
            have HCI := Lib.hid hA
            have HG := Lib.hid hG
            have HB := Lib.hid hB
            have HM := Lib.hid (And.intro HM.out hM)
            clear hA hB hG hM
            go_wp2_with fail
            go_loopg [9, 10, 11, 12, 81] m (fun gk s9 s10 s11 s12 s81 wr => ∃ k : Nat, k ≤ m ∧ gk = m - k ∧ s81 = .int .i64 (k : Int) ∧ Below wB.heap.size wB wr)
            case atStart => exact ⟨0, Nat.zero_le _, rfl, rfl, Below.refl _ _⟩
            case round =>
              obtain ⟨k, hk, rfl, rfl, hbr⟩ := hrel
              have HBR := Lib.hid hbr
              clear hbr
              by_cases hlt3 : k < m
              · have z3 : (k : Int) < (m : Int) := by omega
                have hkl : k < wss.length := by have := HM.out.1; omega
                obtain ⟨b, o, sv, rfl, hcell, hrow⟩ := (HM.out.2.below HBR.out).at_ hkl
                have hg := HG.out.below HBR.out HG.out.lt
                have y0 := hg.cell 0
                have hsl := hrow.len
                obtain ⟨s1, s2, s3⟩ := sv
                simp only at hsl
                subst hsl
                change wr.cell? ⟨b, o + k, none⟩ = some (.slice s1 s2 s3) at hcell
                have HRW := Lib.hid hrow
                clear hrow hg
                rename World => wC
                obtain ⟨wb, wo, vk, hA2, hcw, hik⟩ := (HS.out wB HB.out).at_ hkl
                subst hA2
                obtain ⟨ws, hws⟩ : ∃ ws, ws = wss[k] := ⟨_, rfl⟩
                rw [← hws] at hik HRW
                have HIK := Lib.hid hik
                have HCW := Lib.hid hcw
                have HL40 := Lib.hid (show ws.length ≤ 40 from by rw [hws]; exact HW40.out _ (List.getElem_mem hkl))
                have HWX2 := Lib.hid (show ∀ x ∈ ws, x ≠ 0 ∧ -((s2 : Nat) : Int) ≤ x ∧ x ≤ (s2 : Int) from by rw [hws]; exact HWX.out _ (List.getElem_mem hkl))
                have HONE := Lib.hid (show ∀ c ∈ List.replicate s2 (1 : Int), -1000 ≤ c ∧ c ≤ 1000 from fun c hc => by rw [(List.mem_replicate.1 hc).2]; omega)
                clear hws hcw
                obtain ⟨A6, c6, rfl, -, -⟩ := hik
                go_wp2_with fail
                clear hcell y0
                go_loopg [11, 12, 93] s2 (fun gk s11 s12 s93 wr => ∃ j : Nat, j ≤ s2 ∧ gk = s2 - j ∧ s93 = .int .i64 (j : Int) ∧ Below wC.heap.size wC wr)
                case atStart => exact ⟨0, Nat.zero_le _, rfl, rfl, Below.refl _ _⟩
                case round =>
                  obtain ⟨j, hj, rfl, rfl, hbj⟩ := hrel
                  have HBJ := Lib.hid (HBR.out.trans (hbj.mono HBR.out.size))
                  have HBC := Lib.hid hbj
                  by_cases hlt4 : j < s2
                  · have z4 : (j : Int) < (s2 : Int) := by omega
                    obtain ⟨b2, o2, ⟨p1, p2, p3, p4⟩, hs1, yc0, yc1, r, hpv, hcan, hlim, hcf⟩ := (HRW.out.below hbj).at_ hlt4
                    simp only at hs1 yc0 yc1
                    subst hs1
                    change PolyV wr (.agg #[.bool p1, .slice p2 p3 p4]) (some r) at hpv
                    have HPV := Lib.hid hpv
                    have HR := Lib.hid (And.intro hcan (And.intro hlim hcf))
                    clear hpv hcan hlim hcf hbj
                    go_upto_region 30 with fail
                    have h9 : Arr (wr.alloc (.cells #[.bool p1, .slice p2 p3 p4] 27)) wr.heap.size 27 [.bool p1, .slice p2 p3 p4] ∧ Below wr.heap.size wr (wr.alloc (.cells #[.bool p1, .slice p2 p3 p4] 27)) := ⟨Arr.new _ _ [_, _], (Below.refl _ _).alloc (Nat.le_refl _) _⟩
                    generalize (wr.alloc (.cells #[.bool p1, .slice p2 p3 p4] 27)) = w9 at *
                    obtain ⟨hp9, hb9⟩ := h9
                    obtain ⟨pb, hpb⟩ : ∃ b, b = wr.heap.size := ⟨_, rfl⟩
                    rw [← hpb] at hp9 ⊢
                    have HB9 := Lib.hid (HBJ.out.trans (hb9.mono HBJ.out.size))
                    have HP9 := Lib.hid hp9
                    have HQV := Lib.hid (HPV.out.below hb9)
                    have HN9 := Lib.hid (HBC.out.trans (hb9.mono HBC.out.size))
                    clear hpb hp9 hb9 yc0 yc1 HPV
                    obtain ⟨T, hT⟩ : ∃ T, T = txt [116] (some r) := ⟨_, rfl⟩
                    have HPB := Lib.hid (fun W (hb : Below w9.heap.size w9 W) => HP9.out.below hb HP9.out.lt)
                    have HBB := Lib.hid (fun W (hb : Below w9.heap.size w9 W) => (show Below wB.heap.size wB W from HB9.out.trans (hb.mono HB9.out.size)))
                    have HGB := Lib.hid (fun W (hb : Below w9.heap.size w9 W) => HG.out.below (HBB.out W hb) HG.out.lt)
                    have HWB := Lib.hid (fun W (hb : Below w9.heap.size w9 W) => (((HBB.out W hb).cell (block_lt_of_cell HCW.out)).trans HCW.out))
                    have HTX := Lib.hid (fun W (hb : Below w9.heap.size w9 W) => (show Calls Tryd.prog 14 #[.agg #[.bool p1, .slice p2 p3 p4], .string ⟨#[116]⟩] W (fun e w' => e = .returned (.string ⟨T.toArray⟩) ∧ Below W.heap.size W w') from by
                      rw [hT]
                      exact Text_any _ (some r) [116] W (HQV.out.below hb) ⟨HR.out.1, HR.out.2.1⟩ (by simp) (HT.out W (HB.out.trans ((HBB.out W hb).mono HB.out.size)))))
                    have HRD := Lib.hid (fun W (hb : Below w9.heap.size w9 W) => rder_any (.slice A6 ws.length c6) (.slice (some ⟨cb, 0, none⟩) s2 s2) ws (List.replicate s2 1) (j : Int) W (HIK.out.below (HBB.out W hb)) ((HCI.out.below (HBB.out W hb) HCI.out.lt).ints (ones_len s2))
                      (fitB_mk (by omega) (by rw [ones_len]; omega) (fun x hx => by have := HWX2.out x hx; rw [ones_len]; omega) HONE.out) (by have := HL40.out; omega) (by rw [ones_len]; omega))
                    have HRT := Lib.hid (fun W v (hv : ∃ r, RP W v (some r) ∧ Der (List.replicate s2 1) (j : Int) ws ws.length r) => (show Calls Tryd.prog 15 #[v, .string ⟨#[116]⟩] W (fun e w' => e = .returned (.string ⟨T.toArray⟩) ∧ Below W.heap.size W w') from by
                      obtain ⟨r', h1, h2⟩ := hv
                      have hr : r' = r := h2.can.ext HR.out.1 fun e => by rw [h2.val, List.take_length, HR.out.2.2]
                      subst hr
                      rw [hT]
                      exact rtext_any v r' [116] W h1 (h2.lim (by have := HL40.out; omega)) (by have := h2.len; have := HL40.out; omega) (by simp)))
                    clear hT HQV HP9
                    obtain ⟨dn, hdn⟩ : ∃ d, d = ws.length := ⟨_, rfl⟩
                    rw [← hdn] at HWB HRD
                    have HDN := Lib.hid hdn
                    clear hdn
                    refine wp_region_phi (by kernel_rfl) (by kernel_rfl) (by kernel_rfl) (by kernel_rfl) (by kernel_rfl) (phiT (fun i => ([some (.agg #[.bool p1, .slice p2 p3 p4]), some (.string ⟨T.toArray⟩), some (.pointer (some ⟨w.heap.size, 2, none⟩)), some (.slice (some ⟨wb, wo, none⟩) m c2), some (.int .i64 (k : Int)), some (.pointer (some ⟨wb, wo + k, none⟩)), some (.slice A6 dn c6), some (.int .i64 (j : Int)), some (.slice (some ⟨cb, 0, none⟩) s2 s2), none, some (.string ⟨T.toArray⟩), some (.bool false)] : List (Option Value)).getD i none) (fun i v w => (if i = 9 then (fun (v : Value) (w : World) => ∃ r, RP w v (some r) ∧ Der (List.replicate s2 1) (j : Int) ws ws.length r) v w else True))) (fun i v w w' h hb => ?_) ⟨?_, ?_, ?_, ?_, ?_, ?_, ?_, ?_, ?_, ?_, ?_, ?_, trivial⟩ ?_
                    · unfold phiT at h ⊢
                      split
                      · next u hu => rw [hu] at h; exact h
                      · next hu =>
                        rw [hu] at h
                        simp only at h ⊢
                        by_cases q9 : i = 9
                        · rw [if_pos q9] at h ⊢; exact (by obtain ⟨r, h1, h2⟩ := (show ∃ r, RP _ _ (some r) ∧ Der (List.replicate s2 1) (j : Int) ws ws.length r from h); exact ⟨r, h1.below hb, h2⟩)
                        · rw [if_neg q9] at h ⊢
                          trivial
                    · intro x w1 bA hbel hdep hold hb
                      have e12 : bA.tmps[12]?.getD undef = .pointer (some ⟨pb, 0, none⟩) := hb 12
                      have cc0 := (HPB.out w1 hbel).cell 0
                      have cc1 := (HPB.out w1 hbel).cell 1
                      refine phi_run (.agg #[.bool p1, .slice p2 p3 p4]) ?_ rfl
                      clear hb hdep hold
                      go_simp
                    · intro x w1 bA hbel hdep hold hb
                      have e98 : bA.tmps[98]?.getD undef = .agg #[.bool p1, .slice p2 p3 p4] := (hb 98).trans (hdep 0 (by decide))
                      refine phi_call ?_ ((HTX.out w1 hbel).mono fun e w' h => ⟨_, h.1, h.2, rfl⟩)
                      clear hb hdep hold
                      go_simp
                    · intro x w1 bA hbel hdep hold hb
                      have e1 : bA.tmps[1]?.getD undef = .pointer (some ⟨w.heap.size, 0, none⟩) := hb 1
                      refine phi_run (.pointer (some ⟨w.heap.size, 2, none⟩)) ?_ rfl
                      clear hb hdep hold
                      go_simp
                    · intro x w1 bA hbel hdep hold hb
                      have e100 : bA.tmps[100]?.getD undef = .pointer (some ⟨w.heap.size, 2, none⟩) := (hb 100).trans (hdep 2 (by decide))
                      have cg := (HGB.out w1 hbel).cell 2
                      refine phi_run (.slice (some ⟨wb, wo, none⟩) m c2) ?_ rfl
                      clear hb hdep hold
                      go_simp
                    · intro x w1 bA hbel hdep hold hb
                      have e9 : bA.tmps[9]?.getD undef = .int .i64 (k : Int) := hb 9
                      refine phi_run (.int .i64 (k : Int)) ?_ rfl
                      clear hb hdep hold
                      go_simp
                    · intro x w1 bA hbel hdep hold hb
                      have e101 : bA.tmps[101]?.getD undef = .slice (some ⟨wb, wo, none⟩) m c2 := (hb 101).trans (hdep 3 (by decide))
                      have e102 : bA.tmps[102]?.getD undef = .int .i64 (k : Int) := (hb 102).trans (hdep 4 (by decide))
                      refine phi_run (.pointer (some ⟨wb, wo + k, none⟩)) ?_ rfl
                      clear hb hdep hold
                      go_simp
                    · intro x w1 bA hbel hdep hold hb
                      have e103 : bA.tmps[103]?.getD undef = .pointer (some ⟨wb, wo + k, none⟩) := (hb 103).trans (hdep 5 (by decide))
                      have cw := HWB.out w1 hbel
                      refine phi_run (.slice A6 dn c6) ?_ rfl
                      clear hb hdep hold
                      go_simp
                    · intro x w1 bA hbel hdep hold hb
                      have e11 : bA.tmps[11]?.getD undef = .int .i64 (j : Int) := hb 11
                      refine phi_run (.int .i64 (j : Int)) ?_ rfl
                      clear hb hdep hold
                      go_simp
                    · intro x w1 bA hbel hdep hold hb
                      have e7 : bA.tmps[7]?.getD undef = .slice (some ⟨cb, 0, none⟩) s2 s2 := hb 7
                      refine phi_run (.slice (some ⟨cb, 0, none⟩) s2 s2) ?_ rfl
                      clear hb hdep hold
                      go_simp
                    · intro x w1 bA hbel hdep hold hb
                      have e104 : bA.tmps[104]?.getD undef = .slice A6 dn c6 := (hb 104).trans (hdep 6 (by decide))
                      have e105 : bA.tmps[105]?.getD undef = .int .i64 (j : Int) := (hb 105).trans (hdep 7 (by decide))
                      have e106 : bA.tmps[106]?.getD undef = .slice (some ⟨cb, 0, none⟩) s2 s2 := (hb 106).trans (hdep 8 (by decide))
                      refine phi_call ?_ ((HRD.out w1 hbel).mono fun e w' ⟨v, r, he, h1, h2, hb'⟩ => ⟨v, he, hb', r, h1, HDN.out ▸ h2⟩)
                      clear hb hdep hold
                      go_simp
                    · intro x w1 bA hbel hdep hold hb
                      have p107 := hdep 9 (by decide)
                      have e107 : bA.tmps[107]?.getD undef = x 9 := hb 107
                      generalize x 9 = x107 at p107 e107
                      have P107 := Lib.hid (show (fun (v : Value) (w : World) => ∃ r, RP w v (some r) ∧ Der (List.replicate s2 1) (j : Int) ws ws.length r) x107 w1 from p107)
                      clear p107
                      refine phi_call ?_ ((HRT.out w1 _ P107.out).mono fun e w' h => ⟨_, h.1, h.2, rfl⟩)
                      clear hb hdep hold
                      go_simp
                    · intro x w1 bA hbel hdep hold hb
                      have e99 : bA.tmps[99]?.getD undef = .string ⟨T.toArray⟩ := (hb 99).trans (hdep 1 (by decide))
                      have e108 : bA.tmps[108]?.getD undef = .string ⟨T.toArray⟩ := (hb 108).trans (hdep 10 (by decide))
                      refine phi_run (.bool false) ?_ rfl
                      clear hb hdep hold
                      go_simp
                    intro x w1 hbel hall
                    have x0e : x 0 = .agg #[.bool p1, .slice p2 p3 p4] := hall 0 (by decide)
                    have x1e : x 1 = .string ⟨T.toArray⟩ := hall 1 (by decide)
                    have x2e : x 2 = .pointer (some ⟨w.heap.size, 2, none⟩) := hall 2 (by decide)
                    have x3e : x 3 = .slice (some ⟨wb, wo, none⟩) m c2 := hall 3 (by decide)
                    have x4e : x 4 = .int .i64 (k : Int) := hall 4 (by decide)
                    have x5e : x 5 = .pointer (some ⟨wb, wo + k, none⟩) := hall 5 (by decide)
                    have x6e : x 6 = .slice A6 dn c6 := hall 6 (by decide)
                    have x7e : x 7 = .int .i64 (j : Int) := hall 7 (by decide)
                    have x8e : x 8 = .slice (some ⟨cb, 0, none⟩) s2 s2 := hall 8 (by decide)
                    have p107 := hall 9 (by decide)
                    have x10e : x 10 = .string ⟨T.toArray⟩ := hall 10 (by decide)
                    have x11e : x 11 = .bool false := hall 11 (by decide)
                    simp only [putAll, dstOf, Act.put, List.map_cons, List.map_nil, List.setIfInBounds_toArray, List.set_cons_succ, List.set_cons_zero, Nat.reduceAdd, x0e, x1e, x2e, x3e, x4e, x5e, x6e, x7e, x8e, x10e, x11e]
                    clear x0e x1e x2e x3e x4e x5e x6e x7e x8e x10e x11e hall
                    clear p107
                    go_wp2_with fail
                    go_roundg (s2 - (j + 1))
                    case measure => omega
                    case rel => exact ⟨j + 1, by omega, rfl, by go_num, HN9.out.trans (hbel.mono HN9.out.size)⟩
                  · have z4 : ¬ (j : Int) < (s2 : Int) := by omega
                    go_wp2_with fail
                    go_roundg (m - (k + 1))
                    case measure => omega
                    case rel => exact ⟨k + 1, by omega, rfl, by go_num, HBJ.out⟩
              · have z3 : ¬ (k : Int) < (m : Int) := by omega
                go_wp2_with fail
                go_ret
                exact ⟨rfl, HB.out.trans (HBR.out.mono HB.out.size)⟩
end Go.Proofs.YtlbihllmpbhhcaaDoor
