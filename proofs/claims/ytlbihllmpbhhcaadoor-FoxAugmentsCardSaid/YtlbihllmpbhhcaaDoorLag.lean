/- FoxAugments: the law's walk. -/
import Derived.Test.YtlbihllmpbhhcaaDoorLrd
import Derived.Test.YtlbihllmpbhhcaaDoorAug
import Derived.Test.YtlbihllmpbhhcaaDoorOfp
import Derived.Test.YtlbihllmpbhhcaaDoorExn
import Derived.Test.YtlbihllmpbhhcaaDoorPhg
namespace Go.Proofs.YtlbihllmpbhhcaaDoor
open Go.RowKit
set_option linter.unusedVariables false

theorem great_at1 (A A3 : Option Addr) (n c n3 c3 : Nat) (W : World) (h1 : n ≤ 9223372036854775807) (h3 : n3 ≤ 9223372036854775807) :
    Calls Tryd.prog 10 #[.slice A3 n3 c3, .slice (some ⟨W.heap.size, 0, none⟩) 1 1] (W.alloc (.cells #[.slice A n c] 42)) fun e w' => e = .returned (.bool (grB [(A, n, c)] n3)) ∧ (W.alloc (.cells #[.slice A n c] 42)) = w' :=
  great_any A3 n3 c3 W.heap.size [(A, n, c)] _ (Arr.new W 42 [.slice A n c]) h3 (by simp) (fun p hp => by
    simp at hp
    subst hp
    exact h1)
theorem grB1 {A : Option Addr} {n c n3 : Nat} (h : grB [(A, n, c)] n3 = false) : n ≤ 40 ∧ n3 ≤ 8 := by
  unfold grB at h
  simp at h
  omega
theorem cf_asum (l : List (Int × Int)) (e : Int) : (cf l e).natAbs ≤ asum l := by
  induction l with
  | nil => simp [cf, asum]
  | cons t l ih =>
    rw [cf_cons, asum]
    split <;> omega
theorem asum_drv (comp : List Int) (g : Int) (w : List Int) (d : Int) : asum (drv comp g w d) ≤ w.length := by
  induction w generalizing d with
  | nil => simp [drv, asum]
  | cons x w ih =>
    have h2 := ih (stepD comp d x)
    rw [drv, List.length_cons]
    split
    · have e : asum ([trm comp d x] ++ drv comp g w (stepD comp d x)) = (trm comp d x).2.natAbs + asum (drv comp g w (stepD comp d x)) := rfl
      have e2 : (trm comp d x).2.natAbs = 1 := by unfold trm; split <;> rfl
      rw [e, e2]; omega
    · rw [List.nil_append]; omega
theorem DerOk.asum {ws comp : List Int} {gen : Int} {w w' : World} {v : Value} {r : List (Int × Int)} (h : DerOk ws comp gen w v r w') (hl : ws.length ≤ 40) : Go.Proofs.YtlbihllmpbhhcaaDoor.asum r ≤ 4611686018427387904 := by
  have h1 : Go.Proofs.YtlbihllmpbhhcaaDoor.asum r ≤ 40 * r.length := asum_le fun t ht => by
    rw [← cf_mem h.can.srt ht, h.eq]
    have h2 := cf_asum (drv comp gen ws 0) t.1
    have h3 := asum_drv comp gen ws 0
    unfold dF
    omega
  have := h.lim.len h.can
  omega
theorem DerOk.sum {ws comp : List Int} {gen : Int} {w w' : World} {v : Value} {r : List (Int × Int)} (h : DerOk ws comp gen w v r w') : sumC r = expo gen ws := by
  rw [← sumC_drv comp gen ws 0]
  exact sumC_cf h.eq
theorem asum_of {low : Int} {cs : List Int} (hl : cs.length ≤ 40) (hc : ∀ c ∈ cs, -1125899906842624 ≤ c ∧ c ≤ 1125899906842624) : asum ((ofP low cs).getD []) ≤ 4611686018427387904 := by
  unfold ofP
  split
  · show asum (ofL low cs) ≤ _
    have h1 : asum (ofL low cs) ≤ 1125899906842624 * (ofL low cs).length := asum_le fun t ht => by
      have := hc _ (ofL_ge low cs t ht).2.2; omega
    have := ofL_len low cs
    have h3 : 1125899906842624 * (ofL low cs).length ≤ 1125899906842624 * 40 := Nat.mul_le_mul_left _ (by omega)
    omega
  · show asum [] ≤ _
    simp [asum]
theorem okP_of {low : Int} {cs : List Int} : okP (ofP low cs) := by
  unfold ofP
  split
  · next h => exact ⟨ofL_can low cs, ofL_lim h⟩
  · trivial
theorem foldl_bd (cs : List Int) (hc : ∀ c ∈ cs, -1125899906842624 ≤ c ∧ c ≤ 1125899906842624) : -(1125899906842624 * (cs.length : Int)) ≤ cs.foldl (· + ·) 0 ∧ cs.foldl (· + ·) 0 ≤ 1125899906842624 * (cs.length : Int) := by
  have key : ∀ (cs : List Int) (a : Int), (∀ c ∈ cs, -1125899906842624 ≤ c ∧ c ≤ 1125899906842624) → a - 1125899906842624 * (cs.length : Int) ≤ cs.foldl (· + ·) a ∧ cs.foldl (· + ·) a ≤ a + 1125899906842624 * (cs.length : Int) := by
    intro cs
    induction cs with
    | nil => intro a _; simp
    | cons c cs ih =>
      intro a h
      have h1 := ih (a + c) (fun x hx => h x (List.mem_cons_of_mem _ hx))
      have h2 := h c (List.mem_cons_self ..)
      rw [List.foldl_cons, List.length_cons]
      omega
  have := key cs 0 hc
  omega
set_option maxHeartbeats 1000000 in
set_option maxRecDepth 100000 in
theorem augments_law (vu vc vk : Value) (us : List Int) (gen : Int) (comp : List Int) (low : Int) (cs : List Int) (w : World) (hu : Ints w vu us) (hc : Ints w vc comp) (wfl : (Lit.int .i64 low).wf = true) (hk : Ints w vk cs) (lu : us.length ≤ 9223372036854775807) (lc : comp.length ≤ 9223372036854775807) (lk : cs.length ≤ 9223372036854775807) (ht : Tb w) :
    Calls Tryd.prog 7 #[vu, .int .i64 gen, vc, .int .i64 low, vk] w fun e w' => e = .returned (.bool true) ∧ Below w.heap.size w w' := by
  have hlo : -9223372036854775808 ≤ low ∧ low ≤ 9223372036854775807 := by
    simp [Lit.wf, IntKind.min, IntKind.max, IntKind.signed, IntKind.bits] at wfl
    omega
  have HA := Lib.hid (awakeF_any w ht)
  have HU := Lib.hid hu
  have HC := Lib.hid hc
  have HK := Lib.hid hk
  have HLO := Lib.hid hlo
  obtain ⟨A, c, rfl, _, _⟩ := hu
  obtain ⟨A3, c3, rfl, _, _⟩ := hc
  obtain ⟨A4, c4, rfl, _, _⟩ := hk
  clear ht wfl hlo
  go_enter Tryd.func7, Tryd.ntmps7
  go_wp2_with fail
  refine HA.out.mono ?_
  rintro e w1 ⟨rfl, hb1⟩
  have HB1 := Lib.hid hb1
  have HG := Lib.hid (great_at1 A A3 us.length c comp.length c3 w1 lu lc)
  have hb2 : Below w.heap.size w (w1.alloc (.cells #[.slice A us.length c] 42)) := hb1.alloc hb1.size _
  clear HA hb1
  obtain ⟨G, hG⟩ : ∃ G, G = grB [(A, us.length, c)] comp.length := ⟨_, rfl⟩
  rw [← hG] at HG
  cases G with
  | true =>
    clear hG
    go_wp2_with fail
    refine HG.out.mono ?_
    rintro e w2 ⟨rfl, rfl⟩
    go_wp2_with fail
    go_ret
    exact ⟨rfl, hb2⟩
  | false =>
    obtain ⟨l1, l3⟩ := grB1 hG.symm
    clear hG
    by_cases hk40 : (cs.length : Int) > 40
    · go_wp2_with fail
      refine HG.out.mono ?_
      rintro e w2 ⟨rfl, rfl⟩
      go_wp2_with fail
      go_ret
      exact ⟨rfl, hb2⟩
    have l4 : cs.length ≤ 40 := by omega
    go_wp2_with fail
    refine HG.out.mono ?_
    rintro e w2 ⟨rfl, rfl⟩
    clear HG
    go_upto_region 5 with fail
    generalize (w1.alloc (.cells #[.slice A us.length c] 42)) = w3 at hb2 ⊢
    have HB3 := Lib.hid hb2
    have HK3 := Lib.hid (HK.out.below hb2)
    clear hb2
    go_wp2_with fail
    go_loopg [11, 13, 32] cs.length (fun gk s11 s13 s32 wr => ∃ (k : Nat) (T : Int), k ≤ cs.length ∧ gk = cs.length - k ∧ s32 = .int .i64 (k : Int) ∧ s11 = .int .i64 T ∧ Hid (T = (cs.take k).foldl (· + ·) 0 ∧ ∀ x ∈ cs.take k, -1125899906842624 ≤ x ∧ x ≤ 1125899906842624) ∧ (-(1125899906842624 * (k : Int)) ≤ T ∧ T ≤ 1125899906842624 * (k : Int)) ∧ w3 = wr)
    case atStart => exact ⟨0, 0, Nat.zero_le _, rfl, rfl, rfl, Lib.hid ⟨rfl, fun x h => by simp at h⟩, by omega, rfl⟩
    case round =>
      obtain ⟨k, T, hkk, rfl, rfl, rfl, HT, hT, rfl⟩ := hrel
      by_cases hlt : k < cs.length
      · have z1 : (k : Int) < (cs.length : Int) := by omega
        obtain ⟨b, o', ⟨c', hv⟩, _, hcell⟩ := ints_at HK3.out hlt
        injection hv with hv1 hv2 hv3
        subst hv1 hv3
        clear hv2
        have HN := Lib.hid (fun (h : -1125899906842624 ≤ cs[k] ∧ cs[k] ≤ 1125899906842624) => (show T + cs[k] = (cs.take (k + 1)).foldl (· + ·) 0 ∧ ∀ x ∈ cs.take (k + 1), -1125899906842624 ≤ x ∧ x ≤ 1125899906842624 from by
          rw [take_snocI hlt]
          refine ⟨by rw [List.foldl_append, ← HT.out.1]; rfl, fun x hx => ?_⟩
          rcases List.mem_append.1 hx with hx | hx
          · exact HT.out.2 x hx
          · rw [List.mem_singleton.1 hx]; exact h))
        clear HT
        generalize cs[k] = x at *
        by_cases x1 : x < -1125899906842624
        · clear HN
          go_wp2_with fail
          go_ret
          exact ⟨rfl, HB3.out⟩
        · by_cases x2 : x > 1125899906842624
          · clear HN
            go_wp2_with fail
            go_ret
            exact ⟨rfl, HB3.out⟩
          · have HN2 := Lib.hid (HN.out (by omega))
            clear HN
            go_wp2_with fail
            go_roundg (cs.length - (k + 1))
            case measure => omega
            case rel => exact ⟨k + 1, T + x, by omega, rfl, by go_num, rfl, HN2, by omega, rfl⟩
      · have z1 : ¬ (k : Int) < (cs.length : Int) := by omega
        have HS := Lib.hid (show T = cs.foldl (· + ·) 0 ∧ ∀ x ∈ cs, -1125899906842624 ≤ x ∧ x ≤ 1125899906842624 from by
          have := HT.out
          rw [List.take_of_length_le (by omega)] at this
          exact this)
        clear HT
        have HOF := Lib.hid (Of_any low (.slice A4 cs.length c4) cs w3 HK3.out (by omega) HLO.out)
        go_wp2_with fail
        refine HOF.out.mono ?_
        rintro e w4 ⟨v, rfl, hv, hb4⟩
        have HOP := Lib.hid (okP_of (low := low) (cs := cs))
        have HAS := Lib.hid (asum_of (low := low) l4 HS.out.2)
        have HSU := Lib.hid (show sumC ((ofP low cs).getD []) = if (ofP low cs).isNone = true then 0 else T from by
          rw [HS.out.1]; unfold ofP
          split
          · show sumC (ofL low cs) = _
            rw [ofL_sum]; rfl
          · rfl)
        have HB4 := Lib.hid (HB3.out.trans (hb4.mono HB3.out.size))
        have HVV := Lib.hid hv
        obtain ⟨bo, Bo, no, do_, rfl, j1, j2⟩ := hv.parts
        generalize ofP low cs = pp at *
        clear HOF hb4 hv j1 j2
        go_upto_region 14 with fail
        have hq : Arr (w4.alloc (.cells #[.bool bo, .slice Bo no do_] 27)) w4.heap.size 27 [.bool bo, .slice Bo no do_] ∧ PolyV (w4.alloc (.cells #[.bool bo, .slice Bo no do_] 27)) (.agg #[.bool bo, .slice Bo no do_]) pp ∧ Below w.heap.size w (w4.alloc (.cells #[.bool bo, .slice Bo no do_] 27)) := ⟨Arr.new _ _ [_, _], HVV.out.boxed _, HB4.out.alloc HB4.out.size _⟩
        generalize (w4.alloc (.cells #[.bool bo, .slice Bo no do_] 27)) = w5 at hq ⊢
        obtain ⟨q5, hv5, hb5⟩ := hq
        have HBG := Lib.hid (Big_any (.agg #[.bool bo, .slice Bo no do_]) pp w5 hv5)
        obtain ⟨NB, hNB⟩ : ∃ NB, NB = pp.isNone := ⟨_, rfl⟩
        rw [← hNB] at HBG HSU
        clear hNB
        have HQ5 := Lib.hid q5
        have HV5 := Lib.hid hv5
        have HB5 := Lib.hid hb5
        have y0 := q5.cell 0
        have y1 := q5.cell 1
        clear q5 hv5 hb5 HVV
        go_wp2_with fail
        refine HBG.out.mono ?_
        rintro e w6 ⟨rfl, hb6⟩
        have HQ6 := Lib.hid (HQ5.out.below hb6 HQ5.out.lt)
        have HAU := Lib.hid (Augment_any (.agg #[.bool bo, .slice Bo no do_]) pp w6 (HV5.out.below hb6) HOP.out HAS.out)
        have HB6 := Lib.hid (HB5.out.trans (hb6.mono HB5.out.size))
        rw [HSU.out] at HAU
        clear hb6 HBG y0 y1
        have y0 := HQ6.out.cell 0
        have y1 := HQ6.out.cell 1
        obtain ⟨X, hX⟩ : ∃ X, X = if NB = true then 0 else T := ⟨_, rfl⟩
        rw [← hX] at HAU
        have HXX := Lib.hid hX
        clear hX
        go_upto_if 50 with fail
        go_cut [11] (fun s11 wx => s11 = .int .i64 X ∧ wx = w6)
        case first =>
          cases NB with
          | true =>
            go_wp2_with fail
            go_meet
            case rel => exact ⟨by rw [HXX.out]; rfl, rfl⟩
          | false =>
            go_wp2_with fail
            go_meet
            case rel => exact ⟨by rw [HXX.out]; rfl, rfl⟩
        case rest =>
          obtain ⟨rfl, rfl⟩ := hcut
          go_wp2_with fail
          refine HAU.out.mono ?_
          rintro e w7 ⟨rfl, hb7⟩
          have HB7 := Lib.hid (HB6.out.trans (hb7.mono HB6.out.size))
          have zxx : (X != X) = false := by simp
          have HF := Lib.hid (fits_any (.slice A us.length c) (.slice A3 comp.length c3) us comp gen w7 (HU.out.below HB7.out) (HC.out.below HB7.out) (by omega) (by omega))
          obtain ⟨FB, hFB⟩ : ∃ F, F = fitB us comp gen := ⟨_, rfl⟩
          rw [← hFB] at HF
          clear hb7 HAU y0 y1 HXX
          cases FB with
          | false =>
            clear hFB
            go_wp2_with fail
            refine HF.out.mono ?_
            rintro e w8 ⟨rfl, rfl⟩
            go_wp2_with fail
            go_ret
            exact ⟨rfl, HB7.out⟩
          | true =>
            have HFU := Lib.hid hFB.symm
            obtain ⟨hg0, hg1, hxu, _⟩ := fitB_mem hFB.symm
            have HXU := Lib.hid hxu
            obtain ⟨g, rfl⟩ : ∃ g : Nat, gen = (g : Int) := ⟨gen.toNat, by omega⟩
            clear hFB hxu hg0
            have HD := Lib.hid (Derivative_ok (.slice A us.length c) (.slice A3 comp.length c3) us comp (g : Int) w7 (HU.out.below HB7.out) (HC.out.below HB7.out) (by omega) (by omega) HFU.out)
            go_wp2_with fail
            refine HF.out.mono ?_
            rintro e w8 ⟨rfl, rfl⟩
            clear HF
            go_wp2_with fail
            refine HD.out.mono ?_
            rintro e w8 ⟨b1, B1, n1, d1, r1, rfl, hd1⟩
            have HE1 := Lib.hid hd1
            go_upto_region 21 with fail
            have hbx := hd1.box
            have hbb : Below w7.heap.size w7 (w8.alloc (.cells #[.bool b1, .slice B1 n1 d1] 27)) := hd1.bel.alloc hd1.bel.size _
            generalize (w8.alloc (.cells #[.bool b1, .slice B1 n1 d1] 27)) = w9 at hbx hbb ⊢
            have HX1 := Lib.hid hbx
            have HB9 := Lib.hid (HB7.out.trans (hbb.mono HB7.out.size))
            have HEX := Lib.hid (Exponents_any (.slice A us.length c) us comp.length w9 (HU.out.below HB9.out) (by omega) (by omega) HXU.out)
            have HAM := Lib.hid (HE1.out.asum l1)
            have HSM := Lib.hid HE1.out.sum
            clear hbx hbb hd1 HD
            go_wp2_with fail
            refine HEX.out.mono ?_
            rintro e wA ⟨vl, rfl, hil, hbA⟩
            have HBA := Lib.hid (HB9.out.trans (hbA.mono HB9.out.size))
            have HX2 := Lib.hid (HX1.out.below hbA)
            have hgl : g < comp.length := by omega
            have hgn : (expL comp.length us)[g]? = some (expo (g : Int) us) := expL_get comp.length us g hgl
            have hlen := expL_len comp.length us
            obtain ⟨b9, o9, ⟨c9, hv9⟩, hb9, hcell9⟩ := ints_at hil (show g < (expL comp.length us).length by rw [hlen]; exact hgl)
            have hval9 : (expL comp.length us)[g]'(by rw [hlen]; exact hgl) = expo (g : Int) us := by
              rw [List.getElem?_eq_getElem (by rw [hlen]; exact hgl)] at hgn
              exact Option.some.inj hgn
            rw [hval9] at hcell9
            rw [hlen] at hv9
            subst hv9
            have HC9 := Lib.hid hcell9
            have HB9L := Lib.hid hb9
            generalize expo (g : Int) us = EX at *
            have zg : (g : Int) < (comp.length : Int) := by omega
            clear hil hbA hgn hlen hval9 hcell9 hb9 HEX
            go_upto_region 22 with fail
            go_cut [10] (fun s10 wx => s10 = .bool true ∧ Below w.heap.size w wx)
            case first =>
              refine wp_region_phiG (by kernel_rfl) (by kernel_rfl) (by kernel_rfl) (by kernel_rfl) (phiT (fun i => ([some (.int .i64 0), some (.bool true), some (.bool true), some (.int .i64 0), some (.bool true), some (.bool true), some (.bool true), some (.int .i64 (g : Int)), some (.slice (some ⟨b9, o9, none⟩) comp.length c9), some (.int .i64 (comp.length : Int)), some (.bool true), some (.bool true), some (.bool true), some (.agg #[.bool b1, .slice B1 n1 d1]), some (.int .i64 EX), some (.slice (some ⟨b9, o9, none⟩) comp.length c9), some (.int .i64 (g : Int)), some (.pointer (some ⟨b9, o9 + g, none⟩)), some (.int .i64 EX), some (.bool true), some (.bool true), some (.bool true)] : List (Option Value)).getD i none) (fun i v w => True)) (fun i v w w' h hb => ?_) ⟨?_, ?_, ?_, ?_, ?_, ?_, ?_, ?_, ?_, ?_, ?_, ?_, ?_, ?_, ?_, ?_, ?_, ?_, ?_, ?_, ?_, ?_, trivial⟩ ?_
              · unfold phiT at h ⊢
                split
                · next u hu => rw [hu] at h; exact h
                · next hu =>
                  rw [hu] at h
                  exact True.intro
              · intro x w1 bA hbel hdep hold hb
                refine ⟨trivial, ?_⟩
                have e16 : bA.tmps[16]?.getD undef = .int .i64 0 := hb 16
                refine phi_run (.int .i64 0) ?_ rfl
                clear hb hdep hold
                go_simp
              · intro x w1 bA hbel hdep hold hb
                refine ⟨trivial, ?_⟩
                have e74 : bA.tmps[74]?.getD undef = .int .i64 0 := (hb 74).trans (hdep 0 (by decide))
                refine phi_run (.bool true) ?_ rfl
                clear hb hdep hold
                go_simp
              · intro x w1 bA hbel hdep hold hb
                refine ⟨trivial, ?_⟩
                have e75 : bA.tmps[75]?.getD undef = .bool true := (hb 75).trans (hdep 1 (by decide))
                refine phi_run (.bool true) ?_ rfl
                clear hb hdep hold
                go_simp
              · intro x w1 bA hbel hdep hold hb
                refine ⟨⟨76, rfl, (hb 76).trans (hdep 2 (by decide))⟩, ?_⟩
                have e18 : bA.tmps[18]?.getD undef = .int .i64 0 := hb 18
                refine phi_run (.int .i64 0) ?_ rfl
                clear hb hdep hold
                go_simp
              · intro x w1 bA hbel hdep hold hb
                refine ⟨⟨76, rfl, (hb 76).trans (hdep 2 (by decide))⟩, ?_⟩
                have e77 : bA.tmps[77]?.getD undef = .int .i64 0 := (hb 77).trans (hdep 3 (by decide))
                refine phi_run (.bool true) ?_ rfl
                clear hb hdep hold
                go_simp
              · intro x w1 bA hbel hdep hold hb
                refine ⟨trivial, ?_⟩
                have e76 : bA.tmps[76]?.getD undef = .bool true := (hb 76).trans (hdep 2 (by decide))
                have e78 : bA.tmps[78]?.getD undef = .bool true := (hb 78).trans (hdep 4 (by decide))
                refine phi_run (.bool true) ?_ rfl
                clear hb hdep hold
                go_simp
              · intro x w1 bA hbel hdep hold hb
                refine ⟨trivial, ?_⟩
                have e79 : bA.tmps[79]?.getD undef = .bool true := (hb 79).trans (hdep 5 (by decide))
                refine phi_run (.bool true) ?_ rfl
                clear hb hdep hold
                go_simp
              · intro x w1 bA hbel hdep hold hb
                refine ⟨⟨80, rfl, (hb 80).trans (hdep 6 (by decide))⟩, ?_⟩
                have e1 : bA.tmps[1]?.getD undef = .int .i64 (g : Int) := hb 1
                refine phi_run (.int .i64 (g : Int)) ?_ rfl
                clear hb hdep hold
                go_simp
              · intro x w1 bA hbel hdep hold hb
                refine ⟨⟨80, rfl, (hb 80).trans (hdep 6 (by decide))⟩, ?_⟩
                have e17 : bA.tmps[17]?.getD undef = .slice (some ⟨b9, o9, none⟩) comp.length c9 := hb 17
                refine phi_run (.slice (some ⟨b9, o9, none⟩) comp.length c9) ?_ rfl
                clear hb hdep hold
                go_simp
              · intro x w1 bA hbel hdep hold hb
                refine ⟨⟨80, rfl, (hb 80).trans (hdep 6 (by decide))⟩, ?_⟩
                have e82 : bA.tmps[82]?.getD undef = .slice (some ⟨b9, o9, none⟩) comp.length c9 := (hb 82).trans (hdep 8 (by decide))
                refine phi_run (.int .i64 (comp.length : Int)) ?_ rfl
                clear hb hdep hold
                go_simp
              · intro x w1 bA hbel hdep hold hb
                refine ⟨⟨80, rfl, (hb 80).trans (hdep 6 (by decide))⟩, ?_⟩
                have e81 : bA.tmps[81]?.getD undef = .int .i64 (g : Int) := (hb 81).trans (hdep 7 (by decide))
                have e83 : bA.tmps[83]?.getD undef = .int .i64 (comp.length : Int) := (hb 83).trans (hdep 9 (by decide))
                refine phi_run (.bool true) ?_ rfl
                clear hb hdep hold
                go_simp
              · intro x w1 bA hbel hdep hold hb
                refine ⟨trivial, ?_⟩
                have e80 : bA.tmps[80]?.getD undef = .bool true := (hb 80).trans (hdep 6 (by decide))
                have e84 : bA.tmps[84]?.getD undef = .bool true := (hb 84).trans (hdep 10 (by decide))
                refine phi_run (.bool true) ?_ rfl
                clear hb hdep hold
                go_simp
              · intro x w1 bA hbel hdep hold hb
                refine ⟨trivial, ?_⟩
                have e85 : bA.tmps[85]?.getD undef = .bool true := (hb 85).trans (hdep 11 (by decide))
                refine phi_run (.bool true) ?_ rfl
                clear hb hdep hold
                go_simp
              · intro x w1 bA hbel hdep hold hb
                refine ⟨⟨86, rfl, (hb 86).trans (hdep 12 (by decide))⟩, ?_⟩
                have e15 : bA.tmps[15]?.getD undef = .pointer (some ⟨w8.heap.size, 0, none⟩) := hb 15
                have qk := (HX2.out.below hbel).arr
                have cc0 := qk.cell 0
                have cc1 := qk.cell 1
                clear qk
                refine phi_run (.agg #[.bool b1, .slice B1 n1 d1]) ?_ rfl
                clear hb hdep hold
                go_simp
              · intro x w1 bA hbel hdep hold hb
                refine ⟨⟨86, rfl, (hb 86).trans (hdep 12 (by decide))⟩, ?_⟩
                have e87 : bA.tmps[87]?.getD undef = .agg #[.bool b1, .slice B1 n1 d1] := (hb 87).trans (hdep 13 (by decide))
                refine phi_call ?_ ((Augment_any (.agg #[.bool b1, .slice B1 n1 d1]) (some r1) w1 (HX2.out.val.below hbel) HX2.out.okp HAM.out).mono fun e w' h => (by obtain ⟨he, hb'⟩ := h; rw [show sumC ((some r1).getD []) = EX from HSM.out] at he; exact ⟨_, he, hb', rfl⟩))
                clear hb hdep hold
                go_simp
              · intro x w1 bA hbel hdep hold hb
                refine ⟨⟨86, rfl, (hb 86).trans (hdep 12 (by decide))⟩, ?_⟩
                have e17 : bA.tmps[17]?.getD undef = .slice (some ⟨b9, o9, none⟩) comp.length c9 := hb 17
                refine phi_run (.slice (some ⟨b9, o9, none⟩) comp.length c9) ?_ rfl
                clear hb hdep hold
                go_simp
              · intro x w1 bA hbel hdep hold hb
                refine ⟨⟨86, rfl, (hb 86).trans (hdep 12 (by decide))⟩, ?_⟩
                have e1 : bA.tmps[1]?.getD undef = .int .i64 (g : Int) := hb 1
                refine phi_run (.int .i64 (g : Int)) ?_ rfl
                clear hb hdep hold
                go_simp
              · intro x w1 bA hbel hdep hold hb
                refine ⟨⟨86, rfl, (hb 86).trans (hdep 12 (by decide))⟩, ?_⟩
                have e89 : bA.tmps[89]?.getD undef = .slice (some ⟨b9, o9, none⟩) comp.length c9 := (hb 89).trans (hdep 15 (by decide))
                have e90 : bA.tmps[90]?.getD undef = .int .i64 (g : Int) := (hb 90).trans (hdep 16 (by decide))
                refine phi_run (.pointer (some ⟨b9, o9 + g, none⟩)) ?_ rfl
                clear hb hdep hold
                go_simp
              · intro x w1 bA hbel hdep hold hb
                refine ⟨⟨86, rfl, (hb 86).trans (hdep 12 (by decide))⟩, ?_⟩
                have e91 : bA.tmps[91]?.getD undef = .pointer (some ⟨b9, o9 + g, none⟩) := (hb 91).trans (hdep 17 (by decide))
                have cc9 := (hbel.cell (p := ⟨b9, o9 + g, none⟩) HB9L.out).trans HC9.out
                refine phi_run (.int .i64 EX) ?_ rfl
                clear hb hdep hold
                go_simp
              · intro x w1 bA hbel hdep hold hb
                refine ⟨⟨86, rfl, (hb 86).trans (hdep 12 (by decide))⟩, ?_⟩
                have e88 : bA.tmps[88]?.getD undef = .int .i64 EX := (hb 88).trans (hdep 14 (by decide))
                have e92 : bA.tmps[92]?.getD undef = .int .i64 EX := (hb 92).trans (hdep 18 (by decide))
                refine phi_run (.bool true) ?_ rfl
                clear hb hdep hold
                go_simp
              · intro x w1 bA hbel hdep hold hb
                refine ⟨trivial, ?_⟩
                have e86 : bA.tmps[86]?.getD undef = .bool true := (hb 86).trans (hdep 12 (by decide))
                have e93 : bA.tmps[93]?.getD undef = .bool true := (hb 93).trans (hdep 19 (by decide))
                refine phi_run (.bool true) ?_ rfl
                clear hb hdep hold
                go_simp
              · intro x w1 bA hbel hdep hold hb
                refine ⟨trivial, ?_⟩
                have e94 : bA.tmps[94]?.getD undef = .bool true := (hb 94).trans (hdep 20 (by decide))
                refine phi_run (.bool true) ?_ rfl
                clear hb hdep hold
                go_simp
              intro x w1 hbel hall
              have x0e : x 0 = .int .i64 0 := hall 0 (by decide)
              have x1e : x 1 = .bool true := hall 1 (by decide)
              have x2e : x 2 = .bool true := hall 2 (by decide)
              have x3e : x 3 = .int .i64 0 := hall 3 (by decide)
              have x4e : x 4 = .bool true := hall 4 (by decide)
              have x5e : x 5 = .bool true := hall 5 (by decide)
              have x6e : x 6 = .bool true := hall 6 (by decide)
              have x7e : x 7 = .int .i64 (g : Int) := hall 7 (by decide)
              have x8e : x 8 = .slice (some ⟨b9, o9, none⟩) comp.length c9 := hall 8 (by decide)
              have x9e : x 9 = .int .i64 (comp.length : Int) := hall 9 (by decide)
              have x10e : x 10 = .bool true := hall 10 (by decide)
              have x11e : x 11 = .bool true := hall 11 (by decide)
              have x12e : x 12 = .bool true := hall 12 (by decide)
              have x13e : x 13 = .agg #[.bool b1, .slice B1 n1 d1] := hall 13 (by decide)
              have x14e : x 14 = .int .i64 EX := hall 14 (by decide)
              have x15e : x 15 = .slice (some ⟨b9, o9, none⟩) comp.length c9 := hall 15 (by decide)
              have x16e : x 16 = .int .i64 (g : Int) := hall 16 (by decide)
              have x17e : x 17 = .pointer (some ⟨b9, o9 + g, none⟩) := hall 17 (by decide)
              have x18e : x 18 = .int .i64 EX := hall 18 (by decide)
              have x19e : x 19 = .bool true := hall 19 (by decide)
              have x20e : x 20 = .bool true := hall 20 (by decide)
              have x21e : x 21 = .bool true := hall 21 (by decide)
              simp only [putAll, dstOf, Act.put, List.map_cons, List.map_nil, List.setIfInBounds_toArray, List.set_cons_succ, List.set_cons_zero, Nat.reduceAdd, x0e, x1e, x2e, x3e, x4e, x5e, x6e, x7e, x8e, x9e, x10e, x11e, x12e, x13e, x14e, x15e, x16e, x17e, x18e, x19e, x20e, x21e]
              clear x0e x1e x2e x3e x4e x5e x6e x7e x8e x9e x10e x11e x12e x13e x14e x15e x16e x17e x18e x19e x20e x21e hall
              have HFIN := Lib.hid (HBA.out.trans (hbel.mono HBA.out.size))
              go_wp2_with fail
              go_meet
              exact ⟨rfl, HFIN.out⟩
            case rest =>
              obtain ⟨rfl, hb⟩ := hcut
              go_wp2_with fail
              go_ret
              exact ⟨rfl, hb⟩
end Go.Proofs.YtlbihllmpbhhcaaDoor
