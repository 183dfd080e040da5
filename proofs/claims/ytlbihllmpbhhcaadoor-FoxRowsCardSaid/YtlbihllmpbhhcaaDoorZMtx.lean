/- fox.Matrix of a valid group. -/
import Derived.Test.YtlbihllmpbhhcaaDoorZMtm
import Derived.Test.YtlbihllmpbhhcaaDoorZFde
namespace Go.Proofs.YtlbihllmpbhhcaaDoor
open Go.RowKit
set_option linter.unusedVariables false

theorem vldG_parts {n : Int} {comp : List Int} {wss : List (List Int)} (h : vldG n comp wss = true) : 0 ≤ n ∧ n ≤ 1000 ∧ (comp.length : Int) = n ∧ ∀ ws ∈ wss, ∀ x ∈ ws, x ≠ 0 ∧ -n ≤ x ∧ x ≤ n := by
  unfold vldG at h
  rw [Bool.and_eq_true, Bool.and_eq_true, decide_eq_true_eq] at h
  obtain ⟨⟨h1, h2, h3⟩, _, h4⟩ := h
  refine ⟨h1, h2, h3, fun ws hw x hx => ?_⟩
  unfold vldS at h4
  have := vldW_iff.1 (List.all_eq_true.1 h4 ws hw) x hx
  exact ⟨this.2.1, this.2.2.2, this.2.2.1⟩
theorem ones_len (n : Nat) : (List.replicate n (1 : Int)).length = n := List.length_replicate
theorem Arr.ints {w : World} {g n : Nat} {xs : List Int} (h : Arr w g 3 (xs.map fun x => .int .i64 x)) (hn : xs.length = n) : Ints w (.slice (some ⟨g, 0, none⟩) n n) xs := by
  subst hn
  refine ⟨_, _, rfl, Nat.le_refl _, fun k x hk => ⟨g, 0, rfl, ?_⟩⟩
  rw [Nat.zero_add, h.cell, List.getElem?_map, hk]; rfl
/-- the row of ones so far -/
def onesV (n k : Nat) : List Value := List.replicate k (.int .i64 1) ++ List.replicate (n - k) (.int .i64 0)
theorem onesV_set {n k : Nat} (hk : k < n) : (onesV n k).set k (.int .i64 1) = onesV n (k + 1) := by
  unfold onesV
  obtain ⟨m, hm⟩ : ∃ m, n - k = m + 1 := ⟨n - k - 1, by omega⟩
  rw [hm, show n - (k + 1) = m by omega, List.set_append_right _ _ (by simp), List.length_replicate, Nat.sub_self, List.replicate_succ, List.set_cons_zero, List.replicate_succ']
  simp
theorem onesV_get {n k : Nat} (hk : k < n) : (onesV n k)[k]? = some (.int .i64 0) := by
  unfold onesV
  rw [List.getElem?_append_right (by simp), List.length_replicate, Nat.sub_self, List.getElem?_replicate, if_pos (by omega)]
theorem onesV_all (n : Nat) : onesV n n = (List.replicate n (1 : Int)).map fun x => .int .i64 x := by
  unfold onesV
  rw [Nat.sub_self, List.map_replicate]; simp
set_option maxHeartbeats 4000000 in
set_option maxRecDepth 100000 in
theorem fmatrix_any (n : Nat) (vc vs : Value) (comp : List Int) (wss : List (List Int)) (w : World) (hc : Ints w vc comp) (hs : Wds w vs wss) (hv : vldG (n : Int) comp wss = true) (ls : wss.length ≤ 1000000) (lw : ∀ ws ∈ wss, ws.length ≤ 1000) :
    Calls Tryd.prog 17 #[.agg #[.int .i64 (n : Int), vc, vs]] w fun e w' => ∃ v N, e = .returned (.tuple #[v, .int .i64 0]) ∧ MatIs N w' v n (List.replicate n 1) wss ∧ Below w.heap.size w w' := by
  obtain ⟨_, hn1, hn2, hwx⟩ := vldG_parts hv
  have HWX := Lib.hid hwx
  have HLW := Lib.hid lw
  have HGV := Lib.hid (fun W (hb : Below w.heap.size w W) => gvalid_any (n : Int) vc vs comp wss W (hc.below hb) (hs.below hb) (by omega) (by omega) (fun ws hw => by have := lw ws hw; omega))
  rw [hv] at HGV
  have HS := Lib.hid (fun W (hb : Below w.heap.size w W) => hs.below hb)
  obtain ⟨A1, c1, rfl, -, -⟩ := hc
  obtain ⟨A2, c2, rfl, -⟩ := hs
  have hn3 : n ≤ 1000 := by omega
  clear hv hwx lw hn2 hn1
  obtain ⟨m, hm⟩ : ∃ m, m = wss.length := ⟨_, rfl⟩
  rw [← hm] at HGV HS ls ⊢
  have HM := Lib.hid hm
  clear hm
  have hW : ∀ W, W = (w.alloc (.cells #[.int .i64 (n : Int), .slice A1 comp.length c1, .slice A2 m c2] 41)) → Arr W w.heap.size 41 [.int .i64 (n : Int), .slice A1 comp.length c1, .slice A2 m c2] ∧ Below w.heap.size w W := by
    intro W hW
    subst hW
    exact ⟨Arr.new _ _ [_, _, _], (Below.refl _ _).alloc (Nat.le_refl _) _⟩
  go_enter Tryd.func17, Tryd.ntmps17
  go_upto_region 1 with fail
  generalize (w.alloc (.cells #[.int .i64 (n : Int), .slice A1 comp.length c1, .slice A2 m c2] 41)) = w3 at hW ⊢
  obtain ⟨qg, hb3⟩ := hW w3 rfl
  have y0 := qg.cell 0
  have y1 := qg.cell 1
  have y2 := qg.cell 2
  have HGV3 := Lib.hid (HGV.out w3 hb3)
  have HB3 := Lib.hid hb3
  have HQ3 := Lib.hid qg
  clear hW hb3 qg HGV
  go_wp2_with (go_at_call 18; refine HGV3.out.mono ?_; rintro e w4 ⟨rfl, hb4⟩; have qg4 := HQ3.out.below hb4 HQ3.out.lt; have HQ4 := Lib.hid qg4; have HB4 := Lib.hid (HB3.out.trans (hb4.mono HB3.out.size)); clear y0 y1 y2; have y0 := qg4.cell 0; have y1 := qg4.cell 1; have y2 := qg4.cell 2; clear qg4 hb4)
  clear HGV3 HB3 HQ3
  go_loopg [5, 21] m (fun gk s5 s21 wr => ∃ k : Nat, k ≤ m ∧ gk = m - k ∧ s21 = .int .i64 (k : Int) ∧ w4 = wr)
  case atStart => exact ⟨0, Nat.zero_le _, rfl, rfl, rfl⟩
  case round =>
    obtain ⟨k, hk, rfl, rfl, rfl⟩ := hrel
    by_cases hlt : k < m
    · have z1 : (k : Int) < (m : Int) := by omega
      have hkl : k < wss.length := by have := HM.out; omega
      obtain ⟨b, o, vk, rfl, hcell, hik⟩ := (HS.out w4 HB4.out).at_ hkl
      have hl := HLW.out _ (List.getElem_mem hkl)
      obtain ⟨A5, c5, rfl, -, -⟩ := hik
      generalize wss[k].length = q at *
      go_wp2_with fail
      go_roundg (m - (k + 1))
      case measure => omega
      case rel => exact ⟨k + 1, by omega, rfl, by go_num, rfl⟩
    · have z1 : ¬ (k : Int) < (m : Int) := by omega
      have hmk := mk_ones n (by omega) w4
      go_upto_region 10 with fail
      clear hmk
      have hA : Arr (w4.alloc (.cells (rowOf (List.replicate n (.int .i64 0))) 3)) w4.heap.size 3 (onesV n 0) := by
        have := Arr.new w4 3 (List.replicate n (.int .i64 0))
        unfold onesV
        simpa using this
      have hB : Below w.heap.size w (w4.alloc (.cells (rowOf (List.replicate n (.int .i64 0))) 3)) := HB4.out.alloc HB4.out.size _
      have hG : Arr (w4.alloc (.cells (rowOf (List.replicate n (.int .i64 0))) 3)) w.heap.size 41 [.int .i64 (n : Int), .slice A1 comp.length c1, .slice A2 m c2] := HQ4.out.alloc _
      obtain ⟨cb, hcb⟩ : ∃ c, c = w4.heap.size := ⟨_, rfl⟩
      have hcw : w.heap.size ≤ cb := by rw [hcb]; exact HB4.out.size
      rw [← hcb] at hA ⊢
      generalize (w4.alloc (.cells (rowOf (List.replicate n (.int .i64 0))) 3)) = w5 at *
      clear hcb y0 y1 y2 HQ4 HB4
      go_wp2_with fail
      go_loopg [7, 34] n (fun gk s7 s34 wr => ∃ k : Nat, k ≤ n ∧ gk = n - k ∧ s34 = .int .i64 (k : Int) ∧ Arr wr cb 3 (onesV n k) ∧ Below w.heap.size w wr ∧ Arr wr w.heap.size 41 [.int .i64 (n : Int), .slice A1 comp.length c1, .slice A2 m c2])
      case atStart => exact ⟨0, Nat.zero_le _, rfl, rfl, hA, hB, hG⟩
      case round =>
        clear hA hB hG
        obtain ⟨q, hq, rfl, rfl, hA, hB, hG⟩ := hrel
        by_cases hlt2 : q < n
        · have z2 : (q : Int) < (n : Int) := by omega
          have ya := hA.cell q
          rw [onesV_get hlt2] at ya
          have yf := hA.frozen q
          have HN := Lib.hid (show Arr (wr.setCell ⟨cb, q, none⟩ (.int .i64 1)) cb 3 (onesV n (q + 1)) from by rw [← onesV_set hlt2]; exact hA.set q _)
          have HNB := Lib.hid (hB.setCell (p := ⟨cb, q, none⟩) hcw (.int .i64 1))
          have HNG := Lib.hid (hG.far (p := ⟨cb, q, none⟩) (hG.ne hA (by decide)) (.int .i64 1))
          clear hA hB hG
          go_wp2_with fail
          go_roundg (n - (q + 1))
          case measure => omega
          case rel => exact ⟨q + 1, by omega, rfl, by go_num, HN.out, HNB.out, HNG.out⟩
        · have z2 : ¬ (q : Int) < (n : Int) := by omega
          obtain rfl : q = n := by omega
          rw [onesV_all] at hA
          have HCI := Lib.hid hA
          have HG := Lib.hid hG
          have HB := Lib.hid hB
          have y0 := hG.cell 0
          have y2 := hG.cell 2
          clear hA hB hG
          go_wp2_with fail
          obtain ⟨w6, hw6⟩ : ∃ W, W = wr := ⟨_, rfl⟩
          rw [← hw6] at HCI HG HB y0 y2 ⊢
          clear hw6
          obtain ⟨N, hN⟩ : ∃ N, N = w6.heap.size := ⟨_, rfl⟩
          have HN := Lib.hid hN
          clear hN
          go_loopg [8, 10, 11, 12, 14, 44] m (fun gk s8 s10 s11 s12 s14 s44 wr => ∃ k : Nat, k ≤ m ∧ gk = m - k ∧ s44 = .int .i64 (k : Int) ∧ MatIs N wr s8 q (List.replicate q 1) (wss.take k) ∧ Below N w6 wr)
          case atStart => exact ⟨0, Nat.zero_le _, rfl, rfl, ⟨[], rfl, OwnZ.nil _ _ _ _ _ _, fun k s ws h => by simp at h⟩, Below.refl _ _⟩
          case round =>
            obtain ⟨k3, hk3, rfl, rfl, hmat, hb6⟩ := hrel
            rename World => wA
            have hNle : N ≤ wA.heap.size := by rw [HN.out]; exact hb6.size
            have HBW := Lib.hid (HB.out.trans (hb6.mono (show w.heap.size ≤ N by rw [HN.out]; exact Nat.le_of_lt HG.out.lt)))
            have HCI6 := Lib.hid (HCI.out.below hb6 (by rw [HN.out]; exact HCI.out.lt))
            have HG6 := Lib.hid (HG.out.below hb6 (by rw [HN.out]; exact HG.out.lt))
            have HMT := Lib.hid hmat
            have HB6 := Lib.hid hb6
            have hmf : ∃ A c, u8 = .slice A k3 c := by
              obtain ⟨ss, e1, e2, _⟩ := hmat
              obtain ⟨A, c, hv⟩ := e2.form
              rw [e1, List.length_take] at hv
              exact ⟨A, c, by rw [hv]; congr 1; have := HM.out; omega⟩
            clear y0 y2 hmat hb6
            by_cases hlt3 : k3 < m
            · have z3 : (k3 : Int) < (m : Int) := by omega
              have hkl3 : k3 < wss.length := by have := HM.out; omega
              obtain ⟨b, o, vk, rfl, hcell, hik⟩ := (HS.out wA HBW.out).at_ hkl3
              have y0 := HG6.out.cell 0
              have hmk2 := mk_lists q (by omega) wA
              obtain ⟨ws, hws⟩ : ∃ ws, ws = wss[k3] := ⟨_, rfl⟩
              have HIK := Lib.hid hik
              rw [← hws] at HIK
              have HWS := Lib.hid hws
              have HWL := Lib.hid (show ws.length ≤ 1000 from by rw [hws]; exact HLW.out _ (List.getElem_mem hkl3))
              have HWX2 := Lib.hid (show ∀ x ∈ ws, x ≠ 0 ∧ -(((List.replicate q (1 : Int)).length : Nat) : Int) ≤ x ∧ x ≤ ((List.replicate q (1 : Int)).length : Nat) from by rw [hws, ones_len]; exact HWX.out _ (List.getElem_mem hkl3))
              have HONE := Lib.hid (show ∀ c ∈ List.replicate q (1 : Int), -1000 ≤ c ∧ c ≤ 1000 from fun c hc => by rw [(List.mem_replicate.1 hc).2]; omega)
              rw [← hws] at hik
              clear hws
              obtain ⟨A5, c5, rfl, -, -⟩ := hik
              go_upto_region 20 with fail
              clear hmk2 hcell
              have hW7 : ∀ W, W = ((wA.alloc (.cells (rowOf (List.replicate q (.slice none 0 0))) 66)).alloc (.cells #[.slice (some ⟨wA.heap.size, 0, none⟩) q q] 89)) → Arr W wA.heap.size 66 (List.replicate q (.slice none 0 0)) ∧ Arr W (wA.heap.size + 1) 89 [.slice (some ⟨wA.heap.size, 0, none⟩) q q] ∧ Below wA.heap.size wA W ∧ W.heap.size = wA.heap.size + 2 := by
                intro W hW
                subst hW
                exact ⟨(Arr.new _ _ _).alloc _, Arr.newAt (wA.alloc _) _ [_] _ (by simp), ((Below.refl _ _).alloc (Nat.le_refl _) _).alloc (by simp) _, by simp⟩
              generalize ((wA.alloc (.cells (rowOf (List.replicate q (.slice none 0 0))) 66)).alloc (.cells #[.slice (some ⟨wA.heap.size, 0, none⟩) q q] 89)) = w7 at hW7 ⊢
              obtain ⟨hr7, ht7, hb7, hs7⟩ := hW7 w7 rfl
              clear hW7
              obtain ⟨B1, hB1⟩ : ∃ b, b = wA.heap.size := ⟨_, rfl⟩
              rw [← hB1] at hr7 ht7 hb7 hs7 ⊢
              have HB1 := Lib.hid hB1
              have HDE := Lib.hid (gderive_any 42 (B1 + 1) B1 (MtS B1 (B1 + 1) B1 q (List.replicate q 1)) (.slice A5 ws.length c5) (.slice (some ⟨cb, 0, none⟩) q q) ws (List.replicate q 1) wA w7
                (mc1_clo B1 (B1 + 1) B1 q (List.replicate q 1) (ones_len q).symm (by omega) (Nat.le_refl _)) (MtS.start ht7 hr7) (fun W' hb => HIK.out.below (hB1 ▸ hb)) (fun W' hb => (HCI6.out.below (hB1 ▸ hb) HCI6.out.lt).ints (ones_len q)) hb7 (by omega) HONE.out (by rw [ones_len]; omega) HWL.out HWX2.out)
              clear hr7 ht7 hb7 hs7 hB1 HWX2 HIK y0
              go_upto_region 21 with (go_at_call 32; refine HDE.out.mono ?_; rintro e w8 ⟨rfl, hpp, hb8⟩; have HPP := Lib.hid hpp; have HB8 := Lib.hid hb8; clear hpp hb8)
              have hg8 := HG6.out.below HB8.out (by rw [HB1.out]; exact HG6.out.lt)
              have y0 := hg8.cell 0
              obtain ⟨zs, hmr, hz⟩ := mk_row q (by omega) w8
              have hB18 : B1 ≤ w8.heap.size := by rw [HB1.out]; exact HB8.out.size
              have hz8 := hz B1 hB18
              clear hz
              go_upto_region 22 with fail
              clear hmr
              have hpp9 := HPP.out.grow ((Below.refl _ _).alloc (Nat.le_refl _) (.cells zs.toArray 27))
              have hb9 := HB8.out.alloc hB18 (.cells zs.toArray 27)
              have hsz9 : B1 ≤ (w8.alloc (.cells zs.toArray 27)).heap.size := by simp; omega
              generalize (w8.alloc (.cells zs.toArray 27)) = w9 at *
              obtain ⟨R9, hR9⟩ : ∃ r, r = w8.heap.size := ⟨_, rfl⟩
              rw [← hR9] at hz8 ⊢
              clear hR9 hB18 hg8 y0
              have yb := hpp9.box.cell 0
              obtain ⟨vs4, hvl, hrow, hlst, hap⟩ := hpp9.row
              have HAP := Lib.hid (And.intro hvl hap)
              have hL4 : L4 B1 B1 q (List.replicate q 1) ws vs4 wA (.slice (some ⟨R9, 0, none⟩) 0 q) 0 w9 :=
                ⟨hrow, fun i v _ hi => hlst i v hi, ⟨[], rfl, hz8, fun i p h => by simp at h⟩, hb9, hsz9⟩
              clear hpp9 hrow hlst hap hz8 hb9 hsz9 HPP HB8 HDE
              go_wp2_with fail
              clear yb
              go_loopg [12, 14, 60] q (fun gk s12 s14 s60 wr => ∃ j : Nat, j ≤ q ∧ gk = q - j ∧ s60 = .int .i64 (j : Int) ∧ L4 B1 B1 q (List.replicate q 1) ws vs4 wA s12 j wr)
              case atStart => exact ⟨0, Nat.zero_le _, rfl, rfl, hL4⟩
              case round =>
                clear hL4
                obtain ⟨j, hj, rfl, rfl, hL⟩ := hrel
                have HL := Lib.hid hL
                obtain ⟨ps, hpl, hoz, hpi⟩ := hL.own
                obtain ⟨A8, c8, rfl⟩ := hoz.form
                rw [hpl] at HL hoz ⊢
                by_cases hlt4 : j < q
                · have z4 : (j : Int) < (q : Int) := by omega
                  obtain ⟨v4, hv4⟩ : ∃ v, vs4[j]? = some v := ⟨_, List.getElem?_eq_getElem (by rw [HAP.out.1]; exact hlt4)⟩
                  have hof := hL.lst j v4 (Nat.le_refl _) hv4
                  obtain ⟨A9, c9, rfl⟩ := hof.form
                  have yr := hL.row.cell j
                  rw [hv4] at yr
                  have HV4 := Lib.hid hv4
                  have hdl := drv_len (List.replicate q 1) (j : Int) ws 0
                  have HSU := Lib.hid (sum_keep A9 c9 B1 (drv (List.replicate q 1) (j : Int) ws 0) wr hof (by have := HWL.out; omega) (unit1_drv HONE.out HWL.out) hL.siz)
                  clear hv4 hof hpl hoz hpi hL
                  generalize hdn : (drv (List.replicate q 1) (j : Int) ws 0).length = dn at *
                  go_wp2_with (first
                    | (go_at_call 34; refine HSU.out.mono ?_; rintro e w11 ⟨⟨v11, r11, rfl, hpv, hcan, hlim, hcf, hb11⟩, hkp⟩; have HPV := Lib.hid hpv; obtain ⟨bb, A10, n10, c10, rfl, -, -⟩ := hpv.parts; have HNX := Lib.hid (HL.out.next (p := (bb, A10, n10, c10)) HAP.out.2 HV4.out hkp hb11 HPV.out hcan hlim hcf (.cells #[.bool bb, .slice A10 n10 c10] 27)); clear hpv hcan hlim hcf hb11 hkp)
                    | (at_builtin; obtain ⟨ps2, hp2, ho2, hs2, hK2⟩ := HNX.out; have HK2 := Lib.hid hK2; have HU2 := Lib.hid (Arr.new w11 27 (eP (bb, A10, n10, c10))); clear hK2; refine wpList_appZ (m := (bb, A10, n10, c10)) rfl elP zinfoP (.tmp 64) (.tmp 67) 47 rfl Tryd.underlying47 rfl ho2 rfl HU2.out (by omega) hs2 ?_; intro v' w13 h1 h2 h3 h4; have HLN := Lib.hid (HK2.out v' w13 h1 h2 h3); clear h1 h2 h3 h4 ho2 hs2 hp2))
                  go_roundg (q - (j + 1))
                  case measure => omega
                  case rel => exact ⟨j + 1, by omega, rfl, by go_num, HLN.out⟩
                · have z4 : ¬ (j : Int) < (q : Int) := by omega
                  obtain rfl : j = q := by omega
                  have hbl : Below wA.heap.size wA wr := by rw [← HB1.out]; exact HL.out.bel
                  obtain ⟨ps2, hp2, ho2, hi2⟩ := HL.out.own
                  have hrw : RowIs N wr (A8, j, c8) j (List.replicate j 1) ws := ⟨ps2, hp2, ho2.own.low (by rw [HB1.out]; exact hNle), hi2⟩
                  have HMN := Lib.hid ((HMT.out.below hbl).next hrw (Nat.le_trans hNle hbl.size) (.cells #[.slice A8 j c8] 47))
                  have HARR := Lib.hid (Arr.new wr 47 (eS (A8, j, c8)))
                  have HBN := Lib.hid ((HB6.out.trans (hbl.mono hNle)).alloc (Nat.le_trans hNle hbl.size) (.cells #[.slice A8 j c8] 47))
                  have HTK := Lib.hid (show wss.take (k3 + 1) = wss.take k3 ++ [ws] from by rw [HWS.out]; exact (List.take_append_getElem hkl3).symm)
                  have HLT := Lib.hid (show (wss.take k3).length ≤ 1000000 from by rw [List.length_take]; omega)
                  clear hbl hp2 ho2 hi2 hrw hpl hoz hpi hL
                  go_wp2_with (at_builtin; obtain ⟨ss2, hs2, hz2, hn2, hK2⟩ := HMN.out; have HK2 := Lib.hid hK2; clear hK2; refine wpList_appZ (m := (A8, j, c8)) rfl elS zinfoS (.tmp 70) (.tmp 72) 43 rfl Tryd.underlying43 rfl hz2 rfl HARR.out (by have := HLT.out; omega) hn2 ?_; intro v' w13 h1 h2 h3 h4; have HLN := Lib.hid (HK2.out v' w13 h1 h2 h3); have HBL := Lib.hid (HBN.out.trans h2); clear h1 h2 h3 h4 hz2 hn2 hs2)
                  go_roundg (m - (k3 + 1))
                  case measure => omega
                  case rel => exact ⟨k3 + 1, by omega, rfl, by go_num, by rw [HTK.out]; exact HLN.out, HBL.out⟩
            · have z3 : ¬ (k3 : Int) < (m : Int) := by omega
              obtain rfl : k3 = m := by omega
              have htk : wss.take k3 = wss := List.take_of_length_le (by have := HM.out; omega)
              rw [htk] at HMT
              clear htk
              go_wp2_with fail
              go_ret2
              exact ⟨_, rfl, ⟨N, HMT.out⟩, HBW.out⟩
end Go.Proofs.YtlbihllmpbhhcaaDoor
