/- FoxDerives: the law's walk. -/
import Derived.Test.YtlbihllmpbhhcaaDoorAwf
import Derived.Test.YtlbihllmpbhhcaaDoorGrt
import Derived.Test.YtlbihllmpbhhcaaDoorRdv
import Derived.Test.YtlbihllmpbhhcaaDoorRtx
namespace Go.Proofs.YtlbihllmpbhhcaaDoor
open Go.RowKit
set_option linter.unusedVariables false

theorem great_one (A A3 : Option Addr) (n c n3 c3 : Nat) (W : World) (h1 : n ≤ 9223372036854775807) (h3 : n3 ≤ 9223372036854775807) :
    Calls Tryd.prog 10 #[.slice A3 n3 c3, .slice (some ⟨W.heap.size, 0, none⟩) 1 1] (W.alloc (.cells #[.slice A n c] 42)) fun e w' => e = .returned (.bool (grB [(A, n, c)] n3)) ∧ (W.alloc (.cells #[.slice A n c] 42)) = w' :=
  great_any A3 n3 c3 W.heap.size [(A, n, c)] _ (Arr.new W 42 [.slice A n c]) h3 (by simp) (fun p hp => by
    simp at hp
    subst hp
    exact h1)
theorem grB_one {A : Option Addr} {n c n3 : Nat} (h : grB [(A, n, c)] n3 = false) : n ≤ 40 ∧ n3 ≤ 8 := by
  unfold grB at h
  simp at h
  omega
theorem nil_of_zero {r : List (Int × Int)} (h : Can r) (hx : ∀ x, cf r x = 0) : r = [] := h.ext Can.nil fun e => by rw [hx]; rfl
theorem ints_len {w : World} {A : Option Addr} {n c : Nat} {xs : List Int} (h : Ints w (.slice A n c) xs) : n = xs.length := by
  obtain ⟨A', c', hv, _⟩ := h
  injection hv
set_option maxHeartbeats 2000000 in
set_option maxRecDepth 100000 in
theorem derives_law (vu vc : Value) (us : List Int) (gen : Int) (comp : List Int) (lg : Bool) (w : World) (hu : Ints w vu us) (hc : Ints w vc comp) (lu : us.length ≤ 9223372036854775807) (lc : comp.length ≤ 9223372036854775807) (ht : Tb w) :
    Calls Tryd.prog 3 #[vu, .int .i64 gen, vc, .bool lg] w fun e w' => e = .returned (.bool true) ∧ Below w.heap.size w w' := by
  have HA := Lib.hid (awakeF_any w ht)
  have HU := Lib.hid hu
  have HC := Lib.hid hc
  have HTB := Lib.hid ht
  obtain ⟨A, c, rfl, -, -⟩ := hu
  obtain ⟨A3, c3, rfl, -, -⟩ := hc
  clear ht
  go_enter Tryd.func3, Tryd.ntmps3
  go_wp2_with fail
  refine HA.out.mono ?_
  rintro e w1 ⟨rfl, hb1⟩
  have HB1 := Lib.hid hb1
  have HG := Lib.hid (great_one A A3 us.length c comp.length c3 w1 lu lc)
  have hb2 : Below w.heap.size w (w1.alloc (.cells #[.slice A us.length c] 42)) := hb1.alloc hb1.size _
  clear HA hb1
  obtain ⟨G, hG⟩ : ∃ G, G = grB [(A, us.length, c)] comp.length := ⟨_, rfl⟩
  rw [← hG] at HG
  cases G with
  | true =>
    clear hG
    go_wp2_with fail
    refine HG.out.mono ?_
    rintro e w2 ⟨rfl, rfl⟩
    go_wp2_with fail
    go_ret
    exact ⟨rfl, hb2⟩
  | false =>
    obtain ⟨l1, l3⟩ := grB_one hG.symm
    clear hG
    go_wp2_with fail
    refine HG.out.mono ?_
    rintro e w2 ⟨rfl, rfl⟩
    clear HG
    go_upto_region 5 with fail
    generalize (w1.alloc (.cells #[.slice A us.length c] 42)) = w3 at hb2 ⊢
    have HB3 := Lib.hid hb2
    have HU3 := Lib.hid (HU.out.below hb2)
    clear hb2
    go_upto_if 17 with fail
    go_cut [0] (fun s0 wx => ∃ xs : List Int, Ints wx s0 xs ∧ (xs.length ≤ 40 ∨ 1000 < xs.length) ∧ xs.length ≤ 2000 ∧ Below w3.heap.size w3 wx)
    case first =>
      cases lg with
      | false =>
        go_wp2_with fail
        go_meet
        exact ⟨us, HU3.out, .inl l1, by omega, Below.refl _ _⟩
      | true =>
        go_wp2_with fail
        go_loopg [0] (2000 - us.length) (fun gk s0 wr => ∃ xs : List Int, gk = 2000 - xs.length ∧ Ints wr s0 xs ∧ xs.length ≤ 2000 ∧ Below w3.heap.size w3 wr)
        case atStart => exact ⟨us, rfl, HU3.out, by omega, Below.refl _ _⟩
        case round =>
          obtain ⟨xs, rfl, hI, hxl, hbw⟩ := hrel
          have HI := Lib.hid hI
          obtain ⟨A5, c5, rfl, -, -⟩ := hI
          have HBW := Lib.hid hbw
          clear hbw
          obtain ⟨n, hn⟩ : ∃ n, n = xs.length := ⟨_, rfl⟩
          rw [← hn] at hxl HI ⊢
          have HN := Lib.hid hn
          clear hn
          by_cases h0 : n = 0
          · have z1 : ¬ (0 : Int) < (n : Int) := by omega
            have HE := Lib.hid (show xs.length ≤ 40 from by rw [← HN.out]; omega)
            clear h0
            go_wp2_with fail
            go_meet
            exact ⟨xs, HI.out, .inl HE.out, by rw [← HN.out]; exact hxl, HBW.out⟩
          · have z1 : (0 : Int) < (n : Int) := by omega
            by_cases h1 : n ≤ 1000
            · have z2 : (n : Int) ≤ 1000 := by omega
              clear h0
              have HL := Lib.hid (show xs.length ≤ 1000 from by rw [← HN.out]; exact h1)
              go_wp2_with (first
                | (at_builtin; refine wpList_appA rfl elI (.tmp 26) (.tmp 27) 22 22 rfl Tryd.underlying22 Tryd.underlying22 rfl (OwnA.emptyAt (Nat.le_refl _) (heap_alloc_new wr _)) rfl (HI.out.below ((Below.refl _ _).alloc (Nat.le_refl _) _)).sla (by have := HL.out; simp; omega) (by simp) ?_; intro v' w5 h1 h2 h3 h4; have H1 := Lib.hid h1; have H2 := Lib.hid (((Below.refl _ _).alloc (Nat.le_refl _) _).trans h2); clear h1 h2 h3 h4; rw [List.nil_append] at H1; obtain ⟨A6, c6, rfl⟩ := H1.out.form)
                | (at_builtin; refine wpList_appA rfl elI (.tmp 28) (.tmp 29) 22 22 rfl Tryd.underlying22 Tryd.underlying22 rfl H1.out rfl (HI.out.below H2.out).sla (by have := HL.out; omega) H2.out.size ?_; intro v' w6 h1 h2 h3 h4; have H3 := Lib.hid h1; have H4 := Lib.hid (H2.out.trans h2); clear h1 h2 h3 h4; obtain ⟨A7, c7, rfl⟩ := H3.out.form))
              go_roundg (2000 - (xs ++ xs).length)
              case measure => have := HN.out; rw [List.length_append]; omega
              case rel => exact ⟨xs ++ xs, rfl, by have h := H3.out.sl.ints; rw [List.length_append] at h; exact h, by have := HL.out; rw [List.length_append]; omega, HBW.out.trans (H4.out.mono HBW.out.size)⟩
            · have z2 : ¬ (n : Int) ≤ 1000 := by omega
              have HE := Lib.hid (show 1000 < xs.length from by rw [← HN.out]; omega)
              clear h0 h1
              go_wp2_with fail
              go_meet
              exact ⟨xs, HI.out, .inr HE.out, by rw [← HN.out]; exact hxl, HBW.out⟩
    case rest =>
      obtain ⟨xs, hI, hl40, hl2, hbw⟩ := hcut
      have HI := Lib.hid hI
      obtain ⟨A5, c5, rfl, -, -⟩ := hI
      have HBW := Lib.hid (HB3.out.trans (hbw.mono HB3.out.size))
      clear hbw
      have HC5 := Lib.hid (HC.out.below HBW.out)
      have HTB5 := Lib.hid (HTB.out.below HBW.out)
      have HDE := Lib.hid (Derivative_any _ _ xs comp gen wc HI.out HC5.out (by omega) (by omega))
      clear HU3 HU HC HTB HB3 HB1
      go_upto_region 9 with (go_at_call 11; refine HDE.out.mono ?_; rintro e w6 ⟨hb6, v6, r6, rfl, hv6, hcan, hlim, hx6⟩; have HV6 := Lib.hid hv6; have HB6 := Lib.hid hb6; have HR6 := Lib.hid (And.intro hcan (And.intro hlim hx6)); obtain ⟨bb, A6, n6, c6, rfl, q1, q2⟩ := hv6.parts; clear q1 q2 hv6 hb6 hcan hlim hx6)
      have hW : ∀ W, W = (w6.alloc (.cells #[.bool bb, .slice A6 n6 c6] 27)) → Arr W w6.heap.size 27 [.bool bb, .slice A6 n6 c6] ∧ Below wc.heap.size wc W ∧ PolyV W (.agg #[.bool bb, .slice A6 n6 c6]) (some r6) := by
        intro W hW
        subst hW
        exact ⟨Arr.new _ _ [_, _], HB6.out.alloc HB6.out.size _, HV6.out.boxed _⟩
      generalize (w6.alloc (.cells #[.bool bb, .slice A6 n6 c6] 27)) = w7 at hW ⊢
      obtain ⟨qp, hb7, hv7⟩ := hW w7 rfl
      have HB7 := Lib.hid hb7
      have HV7 := Lib.hid hv7
      have y0 := qp.cell 0
      have y1 := qp.cell 1
      have HFI := Lib.hid (fits_any _ _ xs comp gen w7 (HI.out.below hb7) (HC5.out.below hb7) (by omega) (by omega))
      have HBF := Lib.hid (HBW.out.trans (hb7.mono HBW.out.size))
      clear hW qp hb7 hv7 HB6 HV6 HDE
      obtain ⟨hcan, hlim, hx⟩ := HR6.out
      clear HR6
      have HZ := Lib.hid (Zero_any (.agg #[.bool bb, .slice A6 n6 c6]) (some r6) w7 HV7.out ⟨hcan, hlim⟩)
      obtain ⟨F, hF⟩ : ∃ F, F = fitB xs comp gen := ⟨_, rfl⟩
      obtain ⟨E, hE⟩ : ∃ E, E = errD xs comp gen := ⟨_, rfl⟩
      rw [← hE] at hx ⊢
      rw [← hF] at HFI
      cases F with
      | false =>
        have e2 : E = 2 := by rw [hE]; unfold errD; rw [if_neg (by rw [← hF]; simp)]
        subst e2
        have hr := nil_of_zero hcan (fun x => by rw [hx, if_neg (by omega)])
        rw [hr] at HZ
        clear hE hF hx hr hcan hlim
        go_wp2_with (first | (go_at_call 12; refine HFI.out.mono ?_; rintro e w8 ⟨rfl, rfl⟩) | (go_at_call 13; refine HZ.out.mono ?_; rintro e w8 ⟨rfl, hb8⟩))
        go_ret
        exact ⟨rfl, HBF.out.trans (hb8.mono HBF.out.size)⟩
      | true =>
        have HE0 := Lib.hid (hE.trans (errD_ok hF.symm))
        rcases hl40 with h40 | h40
        · have e0 : E = 0 := by rw [HE0.out, if_neg (by omega)]
          subst e0
          have HVX := Lib.hid (show ∀ x, cf r6 x = dF comp gen xs x from fun x => by rw [hx, if_pos rfl])
          have hnl : ¬ 1000 < (xs.length : Int) := by omega
          have HTX := Lib.hid (show Calls Tryd.prog 14 #[.agg #[.bool bb, .slice A6 n6 c6], .string ⟨#[116]⟩] w7 (fun e w' => e = .returned (.string ⟨(txt [116] (some r6)).toArray⟩) ∧ Below w7.heap.size w7 w') from Text_any _ (some r6) [116] w7 HV7.out ⟨hcan, hlim⟩ (by simp) (HTB5.out.below HB7.out))
          have HRD := Lib.hid (fun W (hb : Below w7.heap.size w7 W) => rder_any _ _ xs comp gen W (HI.out.below (HB7.out.trans (hb.mono HB7.out.size))) (HC5.out.below (HB7.out.trans (hb.mono HB7.out.size))) hF.symm (by omega) (by omega))
          have HRT := Lib.hid (fun W v (r : List (Int × Int)) (hv : RP W v (some r)) (hd : Der comp gen xs xs.length r) => (show Calls Tryd.prog 15 #[v, .string ⟨#[116]⟩] W (fun e w' => e = .returned (.string ⟨(txt [116] (some r6)).toArray⟩) ∧ Below W.heap.size W w') from by
            have hr : r = r6 := hd.can.ext hcan fun e => by rw [hd.val, List.take_length, HVX.out]
            subst hr
            exact rtext_any v r [116] W hv (hd.lim (by omega)) (by have := hd.len; omega) (by simp)))
          clear hE hF hx hcan hlim HZ HE0 HVX
          generalize txt [116] (some r6) = T at *
          go_wp2_with (first
            | (go_at_call 12; refine HFI.out.mono ?_; rintro e w8 ⟨rfl, rfl⟩)
            | (go_at_call 14; refine HTX.out.mono ?_; rintro e w8 ⟨rfl, hb8⟩)
            | (go_at_call 16; refine (HRD.out _ hb8).mono ?_; rintro e w9 ⟨v9, r9, rfl, hv9, hd9, hb9⟩)
            | (go_at_call 15; refine (HRT.out _ _ _ hv9 hd9).mono ?_; rintro e w10 ⟨rfl, hb10⟩))
          go_ret
          have h9 := hb8.trans (hb9.mono hb8.size)
          have h10 := h9.trans (hb10.mono h9.size)
          exact ⟨rfl, HBF.out.trans (h10.mono HBF.out.size)⟩
        · have e5 : E = 5 := by rw [HE0.out, if_pos h40]
          subst e5
          have hr := nil_of_zero hcan (fun x => by rw [hx, if_neg (by omega)])
          rw [hr] at HZ
          have hnl : 1000 < (xs.length : Int) := by omega
          clear hE hF hx hr hcan hlim HE0
          go_wp2_with (first | (go_at_call 12; refine HFI.out.mono ?_; rintro e w8 ⟨rfl, rfl⟩) | (go_at_call 13; refine HZ.out.mono ?_; rintro e w8 ⟨rfl, hb8⟩))
          go_ret
          exact ⟨rfl, HBF.out.trans (hb8.mono HBF.out.size)⟩
end Go.Proofs.YtlbihllmpbhhcaaDoor
