/- polymatrix.determinant: the walk. -/
import Derived.Test.YtbkgpfalljgdcaaGreatDoorZMpd
import Derived.Test.YtbkgpfalljgdcaaGreatDoorZOfp
namespace Go.Proofs.YtbkgpfalljgdcaaGreatDoor
open Go.RowKit
set_option linter.unusedVariables false

/-- what determinant returns -/
def DetO (M : List (List LP)) (w : World) (v : Value) (b : Bool) : Prop :=
  (b = true ∧ PolyV w v (some []) ∧ ∃ r ∈ M, (rwS r).2.2 = false) ∨ (NzR M ∧ SmC M ∧ b = true ∧ PolyV w v (ofP (lowS M) (dtC (tmM M) (degS M).toNat))) ∨ (NzR M ∧ ¬ SmC M ∧ b = false ∧ v = .agg #[.bool false, .slice none 0 0])
def DetP (M : List (List LP)) (w : World) (e : Ending) (w' : World) : Prop := ∃ (v : Value) (b : Bool), e = .returned (.tuple #[v, .bool b]) ∧ Below w.heap.size w w' ∧ DetO M w' v b
set_option maxHeartbeats 8000000 in
set_option maxRecDepth 100000 in
theorem determinant_any (v : Value) (M : List (List LP)) (w : World) (h : MatQ w v M) (hn : M.length ≤ 64) (hsq : ∀ r ∈ M, r.length = M.length) (hok : ∀ r ∈ M, OkR r) (hdeg : degS M < 131072) (hT : Tb6 w) (hK : cntF (tmM M) ≤ 16) :
    Calls Tryz.prog 43 #[v] w (DetP M w) := by
  have HOK := Lib.hid hok
  have HSQ := Lib.hid hsq
  have HM := Lib.hid (fun W (hb : Below w.heap.size w W) => h.below hb)
  obtain ⟨A, c, rfl⟩ := h.form
  obtain ⟨n, hnn⟩ : ∃ n, n = M.length := ⟨_, rfl⟩
  rw [← hnn] at hn HM HSQ ⊢
  have HN := Lib.hid hnn
  have hmk := fun W => mk_i64 n (by omega) W
  have hW : ∀ W, W = (w.alloc (.cells #[.bool false, .slice none 0 0] 40)).alloc (.cells (rowOf (List.replicate n (.int .i64 0))) 3) → Arr W w.heap.size 40 [.bool false, .slice none 0 0] ∧ Arr W (w.heap.size + 1) 3 (List.replicate n (.int .i64 0)) ∧ Below w.heap.size w W := by
    intro W hW
    subst hW
    exact ⟨(Arr.new _ _ [_, _]).alloc _, Arr.newAt (w.alloc _) _ _ _ (by simp), ((Below.refl _ _).alloc (Nat.le_refl _) _).alloc (by simp) _⟩
  have HMT := Lib.hid (fun (dg : Nat) (h1 : (dg : Int) = degS M) => tmM_mt (hnn ▸ hn) hsq hok h1 (by omega))
  have HT := Lib.hid hT
  have HK := Lib.hid hK
  clear h hsq hok hnn hT hK
  go_enter Tryz.func43, Tryz.ntmps43
  go_upto_region 3 with fail
  generalize (w.alloc (.cells #[.bool false, .slice none 0 0] 40)).alloc (.cells (rowOf (List.replicate n (.int .i64 0))) 3) = w3 at hW ⊢
  obtain ⟨qr, ql, hb3⟩ := hW w3 rfl
  obtain ⟨g2, hg2⟩ : ∃ g, g = w.heap.size := ⟨_, rfl⟩
  obtain ⟨g4, hg4⟩ : ∃ g, g = w.heap.size + 1 := ⟨_, rfl⟩
  rw [← hg4] at ql ⊢
  rw [← hg2] at qr hg4 ⊢
  have HQR := Lib.hid qr
  have HQL := Lib.hid (show Arr w3 g4 3 (((M.take 0).map (fun r => (rwS r).1) ++ List.replicate (n - 0) 0).map (Value.int .i64)) from by simpa using ql)
  have HB3 := Lib.hid hb3
  have HG := Lib.hid (show w.heap.size ≤ g2 ∧ g4 = g2 + 1 from ⟨by omega, hg4⟩)
  clear hW hmk qr ql hb3 hg2 hg4
  go_upto_region 4 with fail
  go_loopg [5, 6, 7, 8, 9, 10, 11, 13, 26] n (fun gk s5 s6 s7 s8 s9 s10 s11 s13 s26 wr => ∃ i : Nat, i ≤ n ∧ gk = n - i ∧ s5 = .int .i64 (lowS (M.take i)) ∧ s6 = .int .i64 (degS (M.take i)) ∧ s26 = .int .i64 (i : Int) ∧ Arr wr g4 3 (((M.take i).map (fun r => (rwS r).1) ++ List.replicate (n - i) 0).map (Value.int .i64)) ∧ Wr [g4] w3 wr ∧ (∀ r ∈ M.take i, (rwS r).2.2 = true ∨ n = 0))
  case atStart => exact ⟨0, by omega, rfl, rfl, rfl, rfl, HQL.out, Wr.refl _ _, fun r hr => by simp at hr⟩
  case round =>
    clear HQL
    obtain ⟨i, hi, rfl, rfl, rfl, rfl, hql, hwr, hnz⟩ := hrel
    obtain ⟨wo, rfl⟩ : ∃ wo : World, wo = wr := ⟨_, rfl⟩
    have HBO := Lib.hid (HB3.out.trans (hwr.below (B := w.heap.size) HB3.out.size (fun x hx => by rw [List.mem_singleton.1 hx]; have := HG.out; omega)))
    have HQL := Lib.hid hql
    have HWR := Lib.hid hwr
    have HNZ := Lib.hid hnz
    clear hql hwr hnz
    by_cases hit : i < n
    · have z1 : (i : Int) < (n : Int) := by omega
      have hml : i < M.length := by rw [← HN.out]; exact hit
      obtain ⟨b1, o1, hA, hnm, u, hu, hrow⟩ := (HM.out wo HBO.out).at_ hml
      clear hnm
      subst hA
      obtain ⟨A1, c1', rfl⟩ := hrow.form
      have c1 := hu
      have HOKR := Lib.hid (HOK.out M[i] (List.getElem_mem hml))
      have HLS := Lib.hid (show lowS (M.take (i + 1)) = lowS (M.take i) + (rwS M[i]).1 from fold_take hml)
      have HDS := Lib.hid (show degS (M.take (i + 1)) = degS (M.take i) + ((rwS M[i]).2.1 - (rwS M[i]).1) from fold_take hml)
      have HTK := Lib.hid (show M.take (i + 1) = M.take i ++ [M[i]] from List.take_succ_eq_append_getElem hml)
      have hrl := HSQ.out M[i] (List.getElem_mem hml)
      rw [hrl] at c1
      have HLB := Lib.hid (show (-1048576 * (i : Int) ≤ lowS (M.take i) ∧ lowS (M.take i) ≤ 1048576 * (i : Int)) ∧ (-2097152 * (i : Int) ≤ degS (M.take i) ∧ degS (M.take i) ≤ 2097152 * (i : Int)) from by
        have h1 := fold_bd (fun r => (rwS r).1) 1048576 (M.take i) 0 (fun r hr => by have := rwS_bd (HOK.out r (List.mem_of_mem_take hr)); omega)
        have h2 := fold_bd (fun r => (rwS r).2.1 - (rwS r).1) 2097152 (M.take i) 0 (fun r hr => by have := rwS_bd (HOK.out r (List.mem_of_mem_take hr)); omega)
        rw [List.length_take, Nat.min_eq_left (by omega)] at h1 h2
        unfold lowS degS
        omega)
      obtain ⟨row, hrw⟩ : ∃ row, row = M[i] := ⟨_, rfl⟩
      rw [← hrw] at hrow HOKR HLS HDS HTK hrl
      have HRW := Lib.hid (fun W (hb : Below wo.heap.size wo W) => hrow.below hb)
      rw [hrl] at HRW
      have HRL := Lib.hid hrl
      generalize lowS (M.take i) = lw at *
      generalize degS (M.take i) = dg at *
      clear hu hrow hml hrw hrl
      go_upto_region 8 with fail
      go_loopg [9, 10, 11, 13, 33] n (fun gk s9 s10 s11 s13 s33 wr => ∃ k : Nat, k ≤ n ∧ gk = n - k ∧ s9 = .int .i64 (rwS (row.take k)).1 ∧ s10 = .int .i64 (rwS (row.take k)).2.1 ∧ s11 = .bool (rwS (row.take k)).2.2 ∧ s33 = .int .i64 (k : Int) ∧ Below wo.heap.size wo wr)
      case atStart => exact ⟨0, by omega, rfl, rfl, rfl, rfl, rfl, Below.refl _ _⟩
      case round =>
        clear c1
        obtain ⟨k, hk, rfl, rfl, rfl, rfl, rfl, hb⟩ := hrel
        obtain ⟨wd, rfl⟩ : ∃ wd : World, wd = wr := ⟨_, rfl⟩
        by_cases hkt : k < n
        · have z2 : (k : Int) < (n : Int) := by omega
          have hkl : k < row.length := by rw [HRL.out]; exact hkt
          obtain ⟨b2, o2, bb, A2, n2, c2, hA1, hnm, q0, q1, hpv⟩ := (HRW.out wd hb).at_ hkl
          clear hnm
          subst hA1
          have HPV := Lib.hid (fun W (hb : Below wd.heap.size wd W) => hpv.below hb)
          have hop := HOKR.out row[k] (List.getElem_mem hkl)
          have HRT := Lib.hid (rwS_take hkl)
          have hbd := rwS_bd (HOKR.out.take k)
          generalize rwS (row.take k) = st at *
          obtain ⟨f0, l0, fd⟩ := st
          generalize row[k] = p at *
          have hlw := lowL_lim hop.2
          have hhi := highL_lim hop.2
          have HZE := Lib.hid (fun W v (h : PolyV W v (some p)) => Zero_any v (some p) W h hop)
          have HLO := Lib.hid (fun W v (h : PolyV W v (some p)) => Low_any v (some p) W h hop)
          have HHI := Lib.hid (fun W v (h : PolyV W v (some p)) => High_any v (some p) W h hop)
          simp only [Option.getD_some] at HLO HHI
          dsimp only at hbd
          have HB := Lib.hid (hb.alloc hb.size (.cells #[.bool bb, .slice A2 n2 c2] 40))
          have HTB := Lib.hid (show Arr (wd.alloc (.cells #[.bool bb, .slice A2 n2 c2] 40)) wd.heap.size 40 [.bool bb, .slice A2 n2 c2] from Arr.new wd 40 [_, _])
          have HPB := Lib.hid (HPV.out _ ((Below.refl wd.heap.size wd).alloc (Nat.le_refl _) (.cells #[.bool bb, .slice A2 n2 c2] 40)))
          clear hpv HPV hop hkl hb
          go_upto_region 11 with fail
          generalize wd.alloc (.cells #[.bool bb, .slice A2 n2 c2] 40) = w5 at *
          generalize wd.heap.size = tb at *
          clear q0 q1
          have y0 := HTB.out.cell 0
          have y1 := HTB.out.cell 1
          obtain ⟨zb, hzb⟩ : ∃ zb, zb = zeroB (some p) := ⟨_, rfl⟩
          rw [← hzb] at HZE
          have HZB := Lib.hid (show zb = decide (p.length = 0) by rw [hzb]; cases p <;> simp [zeroB])
          clear hzb
          go_upto_if 45 with (go_at_call 44; refine (HZE.out _ _ HPB.out).mono ?_; rintro e w6 ⟨rfl, hb6⟩)
          have HTB6 := Lib.hid (HTB.out.below hb6 HTB.out.lt)
          have HPW := Lib.hid (fun W (hb : Below w6.heap.size w6 W) => ((HPB.out.below hb6).below hb))
          have HB6 := Lib.hid (HB.out.trans (hb6.mono HB.out.size))
          clear hb6 y0 y1 HPB HTB HB HZE
          cases zb with
          | true =>
            have HZ := Lib.hid (stS_zero (s := (f0, l0, fd)) (of_decide_eq_true HZB.out.symm))
            clear HLO HHI HPW HTB6 HZB
            go_wp2_with fail
            go_roundg (n - (k + 1))
            case measure => omega
            case rel => exact ⟨k + 1, by omega, rfl, by rw [HRT.out, HZ.out], by rw [HRT.out, HZ.out], by rw [HRT.out, HZ.out], by go_num, HB6.out⟩
          | false =>
            have HNZP := Lib.hid (of_decide_eq_false HZB.out.symm)
            clear HZB
            cases fd with
            | false =>
              have HZ := Lib.hid (stS_first (a := f0) (b := l0) HNZP.out)
              generalize lowL p = lo at *
              generalize highL p = hi_ at *
              go_upto_region 13 with fail
              refine wp_region_phy (fun a b => Below a.heap.size a b) (fun h k => h.trans (k.mono h.size)) ((Below.refl _ _).drew) (by kernel_rfl) (by kernel_rfl) (by kernel_rfl) (by kernel_rfl) (phiT (fun i => ([some (.agg #[.bool bb, .slice A2 n2 c2]), some (.int .i64 lo), some (.agg #[.bool bb, .slice A2 n2 c2]), some (.int .i64 hi_), some (.int .i64 lo), some (.int .i64 hi_), some (.bool true)] : List (Option Value)).getD i none) (fun i v w => True)) (fun i v w w' h hb => ?_) ⟨?_, ?_, ?_, ?_, ?_, ?_, ?_, trivial⟩ ?_
              · unfold phiT at h ⊢
                split
                · next u hu => rw [hu] at h; exact h
                · next hu =>
                  rw [hu] at h
                  exact True.intro
              · intro x w1 bA hT hdep hold hb
                refine .inl ⟨trivial, ?_⟩
                have e13 : bA.tmps[13]?.getD undef = .pointer (some ⟨tb, 0, none⟩) := hb 13
                have cc0 := (HTB6.out.below hT HTB6.out.lt).cell 0
                have cc1 := (HTB6.out.below hT HTB6.out.lt).cell 1
                refine phx_run (.agg #[.bool bb, .slice A2 n2 c2]) ?_ (Below.refl _ _) rfl
                clear hb hdep hold
                go_simp
              · intro x w1 bA hT hdep hold hb
                refine .inl ⟨trivial, ?_⟩
                have e51 : bA.tmps[51]?.getD undef = .agg #[.bool bb, .slice A2 n2 c2] := (hb 51).trans (hdep 0 (by decide))
                refine phx_call ?_ ((HLO.out w1 _ (HPW.out w1 hT)).mono fun e w' h => ⟨_, h.1, h.2, rfl⟩)
                clear hb hdep hold
                go_simp
              · intro x w1 bA hT hdep hold hb
                refine .inl ⟨trivial, ?_⟩
                have e13 : bA.tmps[13]?.getD undef = .pointer (some ⟨tb, 0, none⟩) := hb 13
                have cc0 := (HTB6.out.below hT HTB6.out.lt).cell 0
                have cc1 := (HTB6.out.below hT HTB6.out.lt).cell 1
                refine phx_run (.agg #[.bool bb, .slice A2 n2 c2]) ?_ (Below.refl _ _) rfl
                clear hb hdep hold
                go_simp
              · intro x w1 bA hT hdep hold hb
                refine .inl ⟨trivial, ?_⟩
                have e53 : bA.tmps[53]?.getD undef = .agg #[.bool bb, .slice A2 n2 c2] := (hb 53).trans (hdep 2 (by decide))
                refine phx_call ?_ ((HHI.out w1 _ (HPW.out w1 hT)).mono fun e w' h => ⟨_, h.1, h.2, rfl⟩)
                clear hb hdep hold
                go_simp
              · intro x w1 bA hT hdep hold hb
                refine .inl ⟨trivial, ?_⟩
                have e52 : bA.tmps[52]?.getD undef = .int .i64 lo := (hb 52).trans (hdep 1 (by decide))
                refine phx_run (.int .i64 lo) ?_ (Below.refl _ _) rfl
                clear hb hdep hold
                go_simp
              · intro x w1 bA hT hdep hold hb
                refine .inl ⟨trivial, ?_⟩
                have e54 : bA.tmps[54]?.getD undef = .int .i64 hi_ := (hb 54).trans (hdep 3 (by decide))
                refine phx_run (.int .i64 hi_) ?_ (Below.refl _ _) rfl
                clear hb hdep hold
                go_simp
              · intro x w1 bA hT hdep hold hb
                refine .inl ⟨trivial, ?_⟩
                refine phx_run (.bool true) ?_ (Below.refl _ _) rfl
                clear hb hdep hold
                go_simp
              intro x w1 hT hall
              have x0e : x 0 = .agg #[.bool bb, .slice A2 n2 c2] := hall 0 (by decide)
              have x1e : x 1 = .int .i64 lo := hall 1 (by decide)
              have x2e : x 2 = .agg #[.bool bb, .slice A2 n2 c2] := hall 2 (by decide)
              have x3e : x 3 = .int .i64 hi_ := hall 3 (by decide)
              have x4e : x 4 = .int .i64 lo := hall 4 (by decide)
              have x5e : x 5 = .int .i64 hi_ := hall 5 (by decide)
              have x6e : x 6 = .bool true := hall 6 (by decide)
              simp only [putAll, dstOf, Act.put, List.map_cons, List.map_nil, List.setIfInBounds_toArray, List.set_cons_succ, List.set_cons_zero, Nat.reduceAdd, x0e, x1e, x2e, x3e, x4e, x5e, x6e]
              clear x0e x1e x2e x3e x4e x5e x6e hall
              have HBR := Lib.hid (HB6.out.trans (hT.mono HB6.out.size))
              clear hT HLO HHI HPW HTB6
              go_wp2_with fail
              go_roundg (n - (k + 1))
              case measure => omega
              case rel => exact ⟨k + 1, by omega, rfl, by rw [HRT.out, HZ.out], by rw [HRT.out, HZ.out], by rw [HRT.out, HZ.out], by go_num, HBR.out⟩
            | true =>
              have HZ := Lib.hid (stS_more (a := f0) (b := l0) HNZP.out)
              generalize lowL p = lo at *
              generalize highL p = hi_ at *
              go_upto_region 10 with fail
              refine wp_region_phy (fun a b => Below a.heap.size a b) (fun h k => h.trans (k.mono h.size)) ((Below.refl _ _).drew) (by kernel_rfl) (by kernel_rfl) (by kernel_rfl) (by kernel_rfl) (phiT (fun i => ([some (.int .i64 f0), some (.agg #[.bool bb, .slice A2 n2 c2]), some (.int .i64 lo), some (.int .i64 (min f0 lo)), some (.int .i64 l0), some (.agg #[.bool bb, .slice A2 n2 c2]), some (.int .i64 hi_), some (.int .i64 (max l0 hi_)), some (.int .i64 (min f0 lo)), some (.int .i64 (max l0 hi_))] : List (Option Value)).getD i none) (fun i v w => True)) (fun i v w w' h hb => ?_) ⟨?_, ?_, ?_, ?_, ?_, ?_, ?_, ?_, ?_, ?_, trivial⟩ ?_
              · unfold phiT at h ⊢
                split
                · next u hu => rw [hu] at h; exact h
                · next hu =>
                  rw [hu] at h
                  exact True.intro
              · intro x w1 bA hT hdep hold hb
                refine .inl ⟨trivial, ?_⟩
                have e9 : bA.tmps[9]?.getD undef = .int .i64 f0 := (hb 9).trans (hold 8 (by decide))
                refine phx_run (.int .i64 f0) ?_ (Below.refl _ _) rfl
                clear hb hdep hold
                go_simp
              · intro x w1 bA hT hdep hold hb
                refine .inl ⟨trivial, ?_⟩
                have e13 : bA.tmps[13]?.getD undef = .pointer (some ⟨tb, 0, none⟩) := hb 13
                have cc0 := (HTB6.out.below hT HTB6.out.lt).cell 0
                have cc1 := (HTB6.out.below hT HTB6.out.lt).cell 1
                refine phx_run (.agg #[.bool bb, .slice A2 n2 c2]) ?_ (Below.refl _ _) rfl
                clear hb hdep hold
                go_simp
              · intro x w1 bA hT hdep hold hb
                refine .inl ⟨trivial, ?_⟩
                have e38 : bA.tmps[38]?.getD undef = .agg #[.bool bb, .slice A2 n2 c2] := (hb 38).trans (hdep 1 (by decide))
                refine phx_call ?_ ((HLO.out w1 _ (HPW.out w1 hT)).mono fun e w' h => ⟨_, h.1, h.2, rfl⟩)
                clear hb hdep hold
                go_simp
              · intro x w1 bA hT hdep hold hb
                refine .inl ⟨trivial, ?_⟩
                have e37 : bA.tmps[37]?.getD undef = .int .i64 f0 := (hb 37).trans (hdep 0 (by decide))
                have e39 : bA.tmps[39]?.getD undef = .int .i64 lo := (hb 39).trans (hdep 2 (by decide))
                refine phx_run (.int .i64 (min f0 lo)) ?_ (Below.refl _ _) rfl
                clear hb hdep hold
                go_simp
              · intro x w1 bA hT hdep hold hb
                refine .inl ⟨trivial, ?_⟩
                have e10 : bA.tmps[10]?.getD undef = .int .i64 l0 := (hb 10).trans (hold 9 (by decide))
                refine phx_run (.int .i64 l0) ?_ (Below.refl _ _) rfl
                clear hb hdep hold
                go_simp
              · intro x w1 bA hT hdep hold hb
                refine .inl ⟨trivial, ?_⟩
                have e13 : bA.tmps[13]?.getD undef = .pointer (some ⟨tb, 0, none⟩) := hb 13
                have cc0 := (HTB6.out.below hT HTB6.out.lt).cell 0
                have cc1 := (HTB6.out.below hT HTB6.out.lt).cell 1
                refine phx_run (.agg #[.bool bb, .slice A2 n2 c2]) ?_ (Below.refl _ _) rfl
                clear hb hdep hold
                go_simp
              · intro x w1 bA hT hdep hold hb
                refine .inl ⟨trivial, ?_⟩
                have e42 : bA.tmps[42]?.getD undef = .agg #[.bool bb, .slice A2 n2 c2] := (hb 42).trans (hdep 5 (by decide))
                refine phx_call ?_ ((HHI.out w1 _ (HPW.out w1 hT)).mono fun e w' h => ⟨_, h.1, h.2, rfl⟩)
                clear hb hdep hold
                go_simp
              · intro x w1 bA hT hdep hold hb
                refine .inl ⟨trivial, ?_⟩
                have e41 : bA.tmps[41]?.getD undef = .int .i64 l0 := (hb 41).trans (hdep 4 (by decide))
                have e43 : bA.tmps[43]?.getD undef = .int .i64 hi_ := (hb 43).trans (hdep 6 (by decide))
                refine phx_run (.int .i64 (max l0 hi_)) ?_ (Below.refl _ _) rfl
                clear hb hdep hold
                go_simp
              · intro x w1 bA hT hdep hold hb
                refine .inl ⟨trivial, ?_⟩
                have e40 : bA.tmps[40]?.getD undef = .int .i64 (min f0 lo) := (hb 40).trans (hdep 3 (by decide))
                refine phx_run (.int .i64 (min f0 lo)) ?_ (Below.refl _ _) rfl
                clear hb hdep hold
                go_simp
              · intro x w1 bA hT hdep hold hb
                refine .inl ⟨trivial, ?_⟩
                have e44 : bA.tmps[44]?.getD undef = .int .i64 (max l0 hi_) := (hb 44).trans (hdep 7 (by decide))
                refine phx_run (.int .i64 (max l0 hi_)) ?_ (Below.refl _ _) rfl
                clear hb hdep hold
                go_simp
              intro x w1 hT hall
              have x0e : x 0 = .int .i64 f0 := hall 0 (by decide)
              have x1e : x 1 = .agg #[.bool bb, .slice A2 n2 c2] := hall 1 (by decide)
              have x2e : x 2 = .int .i64 lo := hall 2 (by decide)
              have x3e : x 3 = .int .i64 (min f0 lo) := hall 3 (by decide)
              have x4e : x 4 = .int .i64 l0 := hall 4 (by decide)
              have x5e : x 5 = .agg #[.bool bb, .slice A2 n2 c2] := hall 5 (by decide)
              have x6e : x 6 = .int .i64 hi_ := hall 6 (by decide)
              have x7e : x 7 = .int .i64 (max l0 hi_) := hall 7 (by decide)
              have x8e : x 8 = .int .i64 (min f0 lo) := hall 8 (by decide)
              have x9e : x 9 = .int .i64 (max l0 hi_) := hall 9 (by decide)
              simp only [putAll, dstOf, Act.put, List.map_cons, List.map_nil, List.setIfInBounds_toArray, List.set_cons_succ, List.set_cons_zero, Nat.reduceAdd, x0e, x1e, x2e, x3e, x4e, x5e, x6e, x7e, x8e, x9e]
              clear x0e x1e x2e x3e x4e x5e x6e x7e x8e x9e hall
              have HBR := Lib.hid (HB6.out.trans (hT.mono HB6.out.size))
              clear hT HLO HHI HPW HTB6
              go_wp2_with fail
              go_roundg (n - (k + 1))
              case measure => omega
              case rel => exact ⟨k + 1, by omega, rfl, by rw [HRT.out, HZ.out], by rw [HRT.out, HZ.out], by rw [HRT.out, HZ.out], by go_num, HBR.out⟩
        · have z2 : ¬ ((k : Int) < (n : Int)) := by omega
          have e7 : row.take k = row := List.take_of_length_le (by rw [HRL.out]; omega)
          rw [e7]
          have hbd := rwS_bd HOKR.out
          have hle := rwS_le HOKR.out
          have HB := Lib.hid hb
          obtain ⟨st, hst⟩ : ∃ st, st = rwS row := ⟨_, rfl⟩
          rw [← hst] at hbd hle HLS HDS ⊢
          have HST := Lib.hid hst
          obtain ⟨f0, l0, fd⟩ := st
          dsimp only at hbd hle HLS HDS ⊢
          clear hb e7 hst
          have z3 : (0 : Int) < (n : Int) := by omega
          cases fd with
          | false =>
            have HQR1 := Lib.hid (((HQR.out.wr HWR.out (fun e => by have := List.mem_singleton.1 e; have := HG.out; omega))).below (B := wo.heap.size) HB.out (by have := HQR.out.lt; have := HWR.out.size; omega))
            have x0 := HQR1.out.cell 0
            have x1 := HQR1.out.cell 1
            have f0_ := HQR1.out.frozen 0
            have f1_ := HQR1.out.frozen 1
            have hres := Lib.hid ((HQR1.out.set 0 (.bool false)).set 1 (.slice none 0 0))
            go_wp2_with fail
            refine bodyPost_ret (v := .tuple #[.agg #[.bool false, .slice none 0 0], .bool true]) (results_ct Tryz.results43 _ _ g2 40 _ _ rfl hres.out Tryz.underlying40 rfl info_poly) rfl ?_
            exact ⟨_, true, rfl, ((HBO.out.trans (HB.out.mono HBO.out.size)).setCell (p := ⟨g2, 0, none⟩) HG.out.1 _).setCell (p := ⟨g2, 1, none⟩) HG.out.1 _, .inl ⟨rfl, PolyV.zero _, row, by have := HTK.out; exact List.mem_of_mem_take (i := i + 1) (by rw [this]; simp), by rw [← HST.out]⟩⟩
          | true =>
            have hlb := HLB.out
            have e1 : i + 1 ≤ 64 := by omega
            have HQL1 := Lib.hid (HQL.out.below HB.out HQL.out.lt)
            have c7 := HQL1.out.cell i
            have f7 := HQL1.out.frozen i
            have hgi : (((M.take i).map (fun r => (rwS r).1) ++ List.replicate (n - i) 0).map (Value.int .i64))[i]? = some (.int .i64 0) := by
              rw [List.getElem?_map, List.getElem?_append_right (by simp; omega)]
              simp [List.getElem?_replicate]
              have := HN.out
              omega
            rw [hgi] at c7
            have HSET := Lib.hid (show ((((M.take i).map (fun r => (rwS r).1) ++ List.replicate (n - i) 0).map (Value.int .i64)).set i (.int .i64 f0)) = (((M.take (i + 1)).map (fun r => (rwS r).1) ++ List.replicate (n - (i + 1)) 0).map (Value.int .i64)) from by
              have hlen : (M.take i).length = i := by rw [List.length_take, ← HN.out]; omega
              rw [← List.map_set, List.set_append_right i _ (by rw [List.length_map, hlen]; exact Nat.le_refl _), List.length_map, hlen, Nat.sub_self, show n - i = (n - (i + 1)) + 1 by omega, List.replicate_succ, List.set_cons_zero, HTK.out]
              simp [← HST.out])
            have HNX := Lib.hid (HQL1.out.set i (.int .i64 f0))
            rw [HSET.out] at HNX
            clear hgi HSET
            go_wp2_with fail
            go_roundg (n - (i + 1))
            case measure => omega
            case rel => exact ⟨i + 1, by omega, rfl, by rw [HLS.out], by rw [HDS.out], by go_num, HNX.out, (HWR.out.trans (Wr.of_below HB.out)).setCell (List.mem_singleton.2 rfl) i _, fun r hr => by
              rw [HTK.out] at hr
              rcases List.mem_append.1 hr with q | q
              · exact HNZ.out r q
              · rw [List.mem_singleton.1 q, ← HST.out]; exact .inl rfl⟩
    · have z1 : ¬ ((i : Int) < (n : Int)) := by omega
      have e7 : M.take i = M := List.take_of_length_le (by rw [← HN.out]; omega)
      have HNZM := Lib.hid (show NzR M from fun r hr => by
        have h1 := HNZ.out r (by rw [e7]; exact hr)
        rw [← HN.out]; exact h1)
      have HQL2 := HQL.out
      rw [e7, show n - i = 0 by omega, List.replicate_zero, List.append_nil] at HQL2
      rw [e7]
      have HDB := Lib.hid (show (-1048576 * 64 ≤ lowS M ∧ lowS M ≤ 1048576 * 64) ∧ 0 ≤ degS M from by
        have h1 := fold_bd (fun r => (rwS r).1) 1048576 M 0 (fun r hr => by have := rwS_bd (HOK.out r hr); omega)
        have h2 : ∀ (L : List (List LP)) (a : Int), (∀ r ∈ L, OkR r) → 0 ≤ a → 0 ≤ L.foldl (fun a r => a + ((rwS r).2.1 - (rwS r).1)) a := by
          intro L
          induction L with
          | nil => intro a _ h; exact h
          | cons r L ih => intro a h h0; exact ih _ (fun q hq => h q (List.mem_cons_of_mem _ hq)) (by have := rwS_le (h r (by simp)); show 0 ≤ a + ((rwS r).2.1 - (rwS r).1); omega)
        refine ⟨?_, h2 M 0 HOK.out (Int.le_refl _)⟩
        rw [← HN.out] at h1
        unfold lowS
        have : (n : Int) ≤ 64 := by omega
        omega)
      have hdb := HDB.out
      have HLO2 := Lib.hid HQL2
      clear HQL HNZ HQL2 e7
      have HQR1 := Lib.hid (HQR.out.wr HWR.out (fun e => by have := List.mem_singleton.1 e; have := HG.out; omega))
      obtain ⟨dg, hdg⟩ : ∃ d : Nat, (d : Int) = degS M := ⟨(degS M).toNat, by omega⟩
      have HDG := Lib.hid hdg
      rw [← hdg] at hdb hdeg ⊢
      have hmk := fun W => mk_ent n (by omega) W
      have hAl := (Below.refl wo.heap.size wo).alloc (Nat.le_refl _) (.cells (rowOf (List.replicate n (.slice none 0 0))) 94)
      have HE0 := Lib.hid (EnI.start (B := w.heap.size) (m := tmM M) (Arr.new wo 94 (List.replicate n (.slice none 0 0))))
      have HQR2 := Lib.hid (HQR1.out.below hAl HQR1.out.lt)
      have HLO3 := Lib.hid (HLO2.out.below hAl HLO2.out.lt)
      have HB4 := Lib.hid (HBO.out.trans (hAl.mono HBO.out.size))
      have HGE := Lib.hid (show w.heap.size ≤ wo.heap.size ∧ g2 ≠ wo.heap.size ∧ g4 ≠ wo.heap.size from ⟨HBO.out.size, by have := HQR1.out.lt; omega, by have := HLO2.out.lt; omega⟩)
      have HML := Lib.hid (show (tmM M).length = n by unfold tmM; rw [List.length_map, HN.out])
      obtain ⟨lw, hlw⟩ : ∃ lw, lw = lowS M := ⟨_, rfl⟩
      rw [← hlw] at hdb ⊢
      have HLWE := Lib.hid hlw.symm
      clear hlw
      have zdg : ¬ ((131072 : Int) ≤ (dg : Int)) := by omega
      have HDEG := Lib.hid hdeg
      have HDBB := Lib.hid hdb
      clear hdg hAl hdeg hdb
      go_upto_region 24 with fail
      generalize wo.alloc (.cells (rowOf (List.replicate n (.slice none 0 0))) 94) = w5 at *
      generalize wo.heap.size = gE at *
      clear hmk HQR1 HLO2 HWR HBO HQR HB3
      go_upto_region 25 with fail
      go_loopg [15, 16, 18, 88] n (fun gk s15 s16 s18 s88 wr => ∃ (ix : Nat) (es : List SVt), ix ≤ n ∧ gk = n - ix ∧ s88 = .int .i64 (ix : Int) ∧ EnI n gE w.heap.size (tmM M) ix es wr ∧ Wr [gE] w5 wr)
      case atStart => exact ⟨0, [], by omega, rfl, rfl, HE0.out, Wr.refl _ _⟩
      case round =>
        clear HE0
        obtain ⟨ix, es, hi, rfl, rfl, hen, hwr⟩ := hrel
        obtain ⟨wo, rfl⟩ : ∃ wo : World, wo = wr := ⟨_, rfl⟩
        have HBO := Lib.hid (HB4.out.trans (hwr.below (B := w.heap.size) HB4.out.size (fun x hx => by rw [List.mem_singleton.1 hx]; exact HGE.out.1)))
        have HLW := Lib.hid (HLO3.out.wr hwr (fun e => HGE.out.2.2 (List.mem_singleton.1 e)))
        have HEN := Lib.hid hen
        have HWR := Lib.hid hwr
        clear hen hwr
        by_cases hit : ix < n
        · have z1 : (ix : Int) < (n : Int) := by omega
          have hml : ix < M.length := by rw [← HN.out]; exact hit
          obtain ⟨b1, o1, hA, hnm, u, hu, hrow⟩ := (HM.out w (Below.refl _ _)).at_ hml
          clear hnm
          subst hA
          obtain ⟨A1, c1', rfl⟩ := hrow.form
          have c1 := (HBO.out.cell (block_lt_of_cell hu)).trans hu
          have HOKR := Lib.hid (HOK.out M[ix] (List.getElem_mem hml))
          have hrl := HSQ.out M[ix] (List.getElem_mem hml)
          rw [hrl] at c1
          have HTM := Lib.hid (show (tmM M)[ix]? = some (M[ix].map (tmO (rwS M[ix]).1)) by unfold tmM; rw [List.getElem?_map, List.getElem?_eq_getElem hml]; rfl)
          have HLC := Lib.hid (show (List.map (Value.int .i64) (M.map (fun r => (rwS r).1)))[ix]? = some (.int .i64 (rwS M[ix]).1) by rw [List.getElem?_map, List.getElem?_map, List.getElem?_eq_getElem hml]; rfl)
          have HRG := Lib.hid (rwS_ge (HOK.out M[ix] (List.getElem_mem hml)))
          have hbd := rwS_bd (HOK.out M[ix] (List.getElem_mem hml))
          obtain ⟨row, hrw⟩ : ∃ row, row = M[ix] := ⟨_, rfl⟩
          rw [← hrw] at hrow HOKR HTM hrl HLC HRG hbd
          have HRW := Lib.hid (fun W (hb : Below w.heap.size w W) => hrow.below hb)
          rw [hrl] at HRW
          have HRL := Lib.hid hrl
          obtain ⟨f0, hf0⟩ : ∃ f0, f0 = (rwS row).1 := ⟨_, rfl⟩
          rw [← hf0] at HTM HLC HRG hbd
          have HEJ := Lib.hid (HEN.out.open_ hit)
          have hgEl := HEN.out.outer.lt
          have HWE := Lib.hid (show es.length = ix ∧ gE < wo.heap.size from ⟨HEN.out.len, hgEl⟩)
          clear hu hrow hrw hrl hf0 hgEl hml
          go_upto_region 28 with fail
          clear c1
          go_loopg [18, 95] n (fun gk s18 s95 wr => ∃ (j : Nat) (s : SVt), j ≤ n ∧ gk = n - j ∧ s95 = .int .i64 (j : Int) ∧ EnJ n gE wo ix es ((row.take j).map (tmO f0)) s wr)
          case atStart => exact ⟨0, _, by omega, rfl, rfl, HEJ.out⟩
          case round =>
            clear HEJ
            obtain ⟨j, s, hj, rfl, rfl, hej⟩ := hrel
            obtain ⟨wd, rfl⟩ : ∃ wd : World, wd = wr := ⟨_, rfl⟩
            have HBD := Lib.hid (HBO.out.trans (hej.wr.below (B := w.heap.size) HBO.out.size (fun x hx => by rw [List.mem_singleton.1 hx]; exact HGE.out.1)))
            have HLD := Lib.hid (HLW.out.wr hej.wr (fun e => HGE.out.2.2 (List.mem_singleton.1 e)))
            by_cases hjt : j < n
            · have z2 : (j : Int) < (n : Int) := by omega
              have hjl : j < row.length := by rw [HRL.out]; exact hjt
              obtain ⟨b2, o2, bb, A2, n2, c2, hA1, hnm, q0, q1, hpv⟩ := (HRW.out wd HBD.out).at_ hjl
              clear hnm
              subst hA1
              have hop := HOKR.out row[j] (List.getElem_mem hjl)
              have HGEP := Lib.hid (HRG.out row[j] (List.getElem_mem hjl))
              have HRT := Lib.hid (show (row.take (j + 1)).map (tmO f0) = (row.take j).map (tmO f0) ++ [tmO f0 row[j]] by rw [List.take_succ_eq_append_getElem hjl, List.map_append]; rfl)
              generalize row[j] = p at *
              obtain ⟨ts, hts, hown, hE⟩ := hej.own
              obtain ⟨As, ns, cs⟩ := s
              have hAl := (Below.refl wd.heap.size wd).alloc (Nat.le_refl _) (.cells #[.bool bb, .slice A2 n2 c2] 40)
              have HOU := Lib.hid (hej.outer.below hAl hej.outer.lt)
              have HWR6 := Lib.hid (hej.wr.alloc (.cells #[.bool bb, .slice A2 n2 c2] 40))
              have HOWN := Lib.hid (hown.below hAl)
              have HE6 := Lib.hid (fun j t l h1 h2 => (hE j t l h1 h2).below hAl)
              have HTS := Lib.hid hts
              have HLD6 := Lib.hid (HLD.out.below hAl HLD.out.lt)
              have HTB := Lib.hid (show Arr (wd.alloc (.cells #[.bool bb, .slice A2 n2 c2] 40)) wd.heap.size 40 [.bool bb, .slice A2 n2 c2] from Arr.new wd 40 [_, _])
              have HPB := Lib.hid (hpv.below hAl)
              have HSZ := Lib.hid (hej.wr.alloc (.cells #[.bool bb, .slice A2 n2 c2] 40)).size
              have HTO := Lib.hid (fun W v (h : PolyV W v (some p)) (hs : wo.heap.size ≤ W.heap.size) => (show Calls Tryz.prog 54 #[v, .int .i64 f0] W (fun e w' => ∃ m : SVt, e = .returned (.slice m.1 m.2.1 m.2.2) ∧ Below W.heap.size W w' ∧ OwnE wo.heap.size w' (vS m) (tmO f0 p)) from
                (termsOf_any v p f0 W h hop.1 hop.2 (by omega) HGEP.out).mono (by
                  rintro e w' ⟨v', rfl, h1, h2⟩
                  obtain ⟨A', c', rfl⟩ := h1.form
                  exact ⟨(A', _, c'), rfl, h2, h1.low hs⟩)))
              clear hpv hop hjl hts hown hE hAl hej HLD
              go_upto_region 30 with fail
              generalize wd.alloc (.cells #[.bool bb, .slice A2 n2 c2] 40) = w6 at *
              generalize wd.heap.size = tb at *
              clear q0 q1
              have HKP := Lib.hid (kp_own (e2 := 111) (sz2 := 2) (enc2 := eT1) (B2 := wo.heap.size) (l := tmO f0 p) vS HOWN.out (by decide))
              have HNE := Lib.hid (HOWN.out.apartT HOU.out (by decide))
              have HGI := Lib.hid (show (es.map vS ++ vS (As, ns, cs) :: List.replicate (n - (ix + 1)) (.slice none 0 0))[ix]? = some (.slice As ns cs) by rw [List.getElem?_append_right (by simp [HWE.out.1]), List.length_map, HWE.out.1, Nat.sub_self]; rfl)
              have HLL := Lib.hid (show ts.length ≤ 100000000 by rw [HTS.out]; simp; omega)
              refine wp_region_factsU (by kernel_rfl) (by kernel_rfl) (by kernel_rfl) (by kernel_rfl) (by kernel_rfl) (ApC 95 1 eS wo.heap.size w6 (fun i => ([some (.slice (some ⟨gE, 0, none⟩) n n), some (.int .i64 (ix : Int)), some (.slice (some ⟨gE, 0, none⟩) n n), some (.int .i64 (ix : Int)), some (.pointer (some ⟨gE, ix, none⟩)), some (.slice As ns cs), some (.agg #[.bool bb, .slice A2 n2 c2]), some (.slice (some ⟨g4, 0, none⟩) n n), some (.int .i64 (ix : Int)), some (.pointer (some ⟨g4, ix, none⟩)), some (.int .i64 f0), none, none, none, some (.pointer (some ⟨gE, ix, none⟩)), none] : List (Option Value)).getD i none) 1000 11 12 13 15 (.slice As ns cs) (⟨gE, ix, none⟩) (ts) (fun m : SVt => .slice m.1 m.2.1 m.2.2) (fun m w => OwnE wo.heap.size w (vS m) (tmO f0 p)) (fun _ _ => True)) (fun x => ApC.start) ⟨?_, ?_, ?_, ?_, ?_, ?_, ?_, ?_, ?_, ?_, ?_, ?_, ?_, ?_, ?_, ?_, trivial⟩ ?_
              · intro D x w1 bA hI hD hdep hcl hb
                have e14 : bA.tmps[14]?.getD undef = .slice (some ⟨gE, 0, none⟩) n n := hb 14
                refine wp_of_run (.slice (some ⟨gE, 0, none⟩) n n) (w' := w1) ?_ (hI.val rfl (by decide) (by decide) (by decide) (by decide) (by decide))
                clear hb hI hdep hcl
                go_simp
              · intro D x w1 bA hI hD hdep hcl hb
                have e15 : bA.tmps[15]?.getD undef = .int .i64 (ix : Int) := hb 15
                refine wp_of_run (.int .i64 (ix : Int)) (w' := w1) ?_ (hI.val rfl (by decide) (by decide) (by decide) (by decide) (by decide))
                clear hb hI hdep hcl
                go_simp
              · intro D x w1 bA hI hD hdep hcl hb
                have e14 : bA.tmps[14]?.getD undef = .slice (some ⟨gE, 0, none⟩) n n := hb 14
                refine wp_of_run (.slice (some ⟨gE, 0, none⟩) n n) (w' := w1) ?_ (hI.val rfl (by decide) (by decide) (by decide) (by decide) (by decide))
                clear hb hI hdep hcl
                go_simp
              · intro D x w1 bA hI hD hdep hcl hb
                have e15 : bA.tmps[15]?.getD undef = .int .i64 (ix : Int) := hb 15
                refine wp_of_run (.int .i64 (ix : Int)) (w' := w1) ?_ (hI.val rfl (by decide) (by decide) (by decide) (by decide) (by decide))
                clear hb hI hdep hcl
                go_simp
              · intro D x w1 bA hI hD hdep hcl hb
                have e101 : bA.tmps[101]?.getD undef = .slice (some ⟨gE, 0, none⟩) n n := (hb 101).trans (hI.kn 2 _ rfl (hdep 2 (by decide)))
                have e102 : bA.tmps[102]?.getD undef = .int .i64 (ix : Int) := (hb 102).trans (hI.kn 3 _ rfl (hdep 3 (by decide)))
                refine wp_of_run (.pointer (some ⟨gE, ix, none⟩)) (w' := w1) ?_ (hI.val rfl (by decide) (by decide) (by decide) (by decide) (by decide))
                clear hb hI hdep hcl
                go_simp
              · intro D x w1 bA hI hD hdep hcl hb
                have hq13 : D 13 = false := by cases h : D 13 with | false => rfl | true => (have := hcl 13 h 5 (by decide); rw [hD] at this; cases this)
                have hqf : D 15 = false := by cases h : D 15 with | false => rfl | true => (have := hcl 15 h 13 (by decide); rw [hq13] at this; cases this)
                have hpre := hI.pre hq13 hqf
                have e103 : bA.tmps[103]?.getD undef = .pointer (some ⟨gE, ix, none⟩) := (hb 103).trans (hI.kn 4 _ rfl (hdep 4 (by decide)))
                have cc := (HOU.out.below hpre HOU.out.lt).cell ix
                rw [HGI.out] at cc
                refine wp_of_run (.slice As ns cs) (w' := w1) ?_ (hI.val rfl (by decide) (by decide) (by decide) (by decide) (by decide))
                clear hb hI hdep hcl
                go_simp
              · intro D x w1 bA hI hD hdep hcl hb
                have hq11 : D 11 = false := by cases h : D 11 with | false => rfl | true => (have := hcl 11 h 6 (by decide); rw [hD] at this; cases this)
                have hq12 : D 12 = false := by cases h : D 12 with | false => rfl | true => (have := hcl 12 h 11 (by decide); rw [hq11] at this; cases this)
                have hq13 : D 13 = false := by cases h : D 13 with | false => rfl | true => (have := hcl 13 h 12 (by decide); rw [hq12] at this; cases this)
                have hqf : D 15 = false := by cases h : D 15 with | false => rfl | true => (have := hcl 15 h 13 (by decide); rw [hq13] at this; cases this)
                have hpre := hI.pre hq13 hqf
                have e18 : bA.tmps[18]?.getD undef = .pointer (some ⟨tb, 0, none⟩) := hb 18
                have cc0 := (HTB.out.below hpre HTB.out.lt).cell 0
                have cc1 := (HTB.out.below hpre HTB.out.lt).cell 1
                refine wp_of_run (.agg #[.bool bb, .slice A2 n2 c2]) (w' := w1) ?_ (hI.val rfl (by decide) (by decide) (by decide) (by decide) (by decide))
                clear hb hI hdep hcl
                go_simp
              · intro D x w1 bA hI hD hdep hcl hb
                have e4 : bA.tmps[4]?.getD undef = .slice (some ⟨g4, 0, none⟩) n n := hb 4
                refine wp_of_run (.slice (some ⟨g4, 0, none⟩) n n) (w' := w1) ?_ (hI.val rfl (by decide) (by decide) (by decide) (by decide) (by decide))
                clear hb hI hdep hcl
                go_simp
              · intro D x w1 bA hI hD hdep hcl hb
                have e15 : bA.tmps[15]?.getD undef = .int .i64 (ix : Int) := hb 15
                refine wp_of_run (.int .i64 (ix : Int)) (w' := w1) ?_ (hI.val rfl (by decide) (by decide) (by decide) (by decide) (by decide))
                clear hb hI hdep hcl
                go_simp
              · intro D x w1 bA hI hD hdep hcl hb
                have e106 : bA.tmps[106]?.getD undef = .slice (some ⟨g4, 0, none⟩) n n := (hb 106).trans (hI.kn 7 _ rfl (hdep 7 (by decide)))
                have e107 : bA.tmps[107]?.getD undef = .int .i64 (ix : Int) := (hb 107).trans (hI.kn 8 _ rfl (hdep 8 (by decide)))
                refine wp_of_run (.pointer (some ⟨g4, ix, none⟩)) (w' := w1) ?_ (hI.val rfl (by decide) (by decide) (by decide) (by decide) (by decide))
                clear hb hI hdep hcl
                go_simp
              · intro D x w1 bA hI hD hdep hcl hb
                have hq11 : D 11 = false := by cases h : D 11 with | false => rfl | true => (have := hcl 11 h 10 (by decide); rw [hD] at this; cases this)
                have hq12 : D 12 = false := by cases h : D 12 with | false => rfl | true => (have := hcl 12 h 11 (by decide); rw [hq11] at this; cases this)
                have hq13 : D 13 = false := by cases h : D 13 with | false => rfl | true => (have := hcl 13 h 12 (by decide); rw [hq12] at this; cases this)
                have hqf : D 15 = false := by cases h : D 15 with | false => rfl | true => (have := hcl 15 h 13 (by decide); rw [hq13] at this; cases this)
                have hpre := hI.pre hq13 hqf
                have e108 : bA.tmps[108]?.getD undef = .pointer (some ⟨g4, ix, none⟩) := (hb 108).trans (hI.kn 9 _ rfl (hdep 9 (by decide)))
                have cc := (HLD6.out.below hpre HLD6.out.lt).cell ix
                rw [HLC.out] at cc
                refine wp_of_run (.int .i64 f0) (w' := w1) ?_ (hI.val rfl (by decide) (by decide) (by decide) (by decide) (by decide))
                clear hb hI hdep hcl
                go_simp
              · intro D x w1 bA hI hD hdep hcl hb
                have hq12 : D 12 = false := by cases h : D 12 with | false => rfl | true => (have := hcl 12 h 11 (by decide); rw [hD] at this; cases this)
                have hq12 : D 12 = false := by cases h : D 12 with | false => rfl | true => (have := hcl 12 h 11 (by decide); rw [hD] at this; cases this)
                have hq13 : D 13 = false := by cases h : D 13 with | false => rfl | true => (have := hcl 13 h 12 (by decide); rw [hq12] at this; cases this)
                have hqf : D 15 = false := by cases h : D 15 with | false => rfl | true => (have := hcl 15 h 13 (by decide); rw [hq13] at this; cases this)
                have hpre := hI.pre hq13 hqf
                have e105 : bA.tmps[105]?.getD undef = .agg #[.bool bb, .slice A2 n2 c2] := (hb 105).trans (hI.kn 6 _ rfl (hdep 6 (by decide)))
                have e109 : bA.tmps[109]?.getD undef = .int .i64 f0 := (hb 109).trans (hI.kn 10 _ rfl (hdep 10 (by decide)))
                refine wp_of_callA ?_ (((HTO.out w1 _ (HPB.out.below hpre) (Nat.le_trans HSZ.out hpre.size))).mono (by rintro e w' ⟨m, rfl, hbw, hmm⟩; exact ⟨_, rfl, hI.call (HKP.out) rfl (by decide) (by decide) (by decide) hq12 hq13 hqf hbw hmm⟩))
                clear hb hI hdep hcl
                go_simp
              · intro D x w1 bA hI hD hdep hcl hb
                have hq13 : D 13 = false := by cases h : D 13 with | false => rfl | true => (have := hcl 13 h 12 (by decide); rw [hD] at this; cases this)
                have hqf : D 15 = false := by cases h : D 15 with | false => rfl | true => (have := hcl 15 h 13 (by decide); rw [hq13] at this; cases this)
                have e110 : bA.tmps[110]?.getD undef = x 11 := hb 110
                obtain ⟨⟨Am, nm, cm⟩, hmx, hmp⟩ := hI.cal (hdep 11 (by decide)) hq13 hqf
                have hmk := hI.make (HKP.out) rfl (by decide) (by decide) (by decide) (hdep 11 (by decide)) hq13 hqf ((Below.refl _ _).alloc (Nat.le_refl _) _) hmp (OwnA.lit (xs := [⟨Am, nm, cm⟩]) (fun y _ => elL.len y) (Nat.le_refl _) (by simp) (by simp))
                generalize x 11 = xK at *
                subst hmx
                refine wp_of_run (.slice (some ⟨w1.heap.size, 0, none⟩) 1 1) (w' := w1.alloc (.cells #[.slice Am nm cm] 95)) ?_ hmk
                clear hmk hmp
                clear hb hI hdep hcl
                go_simp
              · intro D x w1 bA hI hD hdep hcl hb
                have hqf : D 15 = false := by cases h : D 15 with | false => rfl | true => (have := hcl 15 h 13 (by decide); rw [hD] at this; cases this)
                have e104 : bA.tmps[104]?.getD undef = .slice As ns cs := (hb 104).trans (hI.kn 5 _ rfl (hdep 5 (by decide)))
                have e111 : bA.tmps[111]?.getD undef = x 12 := hb 111
                exact hI.app elL (HKP.out) (.tmp 104) (.tmp 111) 94 94 rfl Tryz.underlying94 Tryz.underlying94 rfl (by decide) (by decide) (by decide) (hdep 12 (by decide)) hD hqf (by simpa [Act.eval] using e104) (by simpa [Act.eval] using e111) (HOWN.out) (HSZ.out) (HLL.out)
              · intro D x w1 bA hI hD hdep hcl hb
                have e99 : bA.tmps[99]?.getD undef = .slice (some ⟨gE, 0, none⟩) n n := (hb 99).trans (hI.kn 0 _ rfl (hdep 0 (by decide)))
                have e100 : bA.tmps[100]?.getD undef = .int .i64 (ix : Int) := (hb 100).trans (hI.kn 1 _ rfl (hdep 1 (by decide)))
                refine wp_of_run (.pointer (some ⟨gE, ix, none⟩)) (w' := w1) ?_ (hI.val rfl (by decide) (by decide) (by decide) (by decide) (by decide))
                clear hb hI hdep hcl
                go_simp
              · intro D x w1 bA hI hD hdep hcl hb
                have hda : D 13 = true := hdep 13 (by decide)
                have e113 : bA.tmps[113]?.getD undef = .pointer (some ⟨gE, ix, none⟩) := (hb 113).trans (hI.kn 14 _ rfl (hdep 14 (by decide)))
                have e112 : bA.tmps[112]?.getD undef = x 13 := hb 112
                have hst := hI.store rfl hda hD undef
                obtain ⟨mF, hm0, hm1, hm2⟩ := hI.mid hda hD
                have qarr := hm2.arr (HOU.out) (HNE.out)
                have qy := qarr.cell ix
                have qf := qarr.frozen ix
                rw [HGI.out] at qy
                obtain ⟨AF, cF, eF⟩ := hm1.form
                generalize x 13 = xA at *
                subst eF
                refine wp_of_skip ?_ hst
                clear hb hI hdep hcl hst hm0 hm1 hm2 qarr
                go_simp
              intro D x w1 hI hall
              obtain ⟨wS, vZ, mS, hwS, hpsiS, hownS, hkptS⟩ := hI.fin (hall 15 (by simp))
              have x0e : x 0 = .slice (some ⟨gE, 0, none⟩) n n := hI.kn 0 _ rfl (hall 0 (by simp))
              have x1e : x 1 = .int .i64 (ix : Int) := hI.kn 1 _ rfl (hall 1 (by simp))
              have x2e : x 2 = .slice (some ⟨gE, 0, none⟩) n n := hI.kn 2 _ rfl (hall 2 (by simp))
              have x3e : x 3 = .int .i64 (ix : Int) := hI.kn 3 _ rfl (hall 3 (by simp))
              have x4e : x 4 = .pointer (some ⟨gE, ix, none⟩) := hI.kn 4 _ rfl (hall 4 (by simp))
              have x5e : x 5 = .slice As ns cs := hI.kn 5 _ rfl (hall 5 (by simp))
              have x6e : x 6 = .agg #[.bool bb, .slice A2 n2 c2] := hI.kn 6 _ rfl (hall 6 (by simp))
              have x7e : x 7 = .slice (some ⟨g4, 0, none⟩) n n := hI.kn 7 _ rfl (hall 7 (by simp))
              have x8e : x 8 = .int .i64 (ix : Int) := hI.kn 8 _ rfl (hall 8 (by simp))
              have x9e : x 9 = .pointer (some ⟨g4, ix, none⟩) := hI.kn 9 _ rfl (hall 9 (by simp))
              have x10e : x 10 = .int .i64 f0 := hI.kn 10 _ rfl (hall 10 (by simp))
              have x14e : x 14 = .pointer (some ⟨gE, ix, none⟩) := hI.kn 14 _ rfl (hall 14 (by simp))
              simp only [putAll, dstOf, Act.put, List.map_cons, List.map_nil, List.setIfInBounds_toArray, List.set_cons_succ, List.set_cons_zero, Nat.reduceAdd, x0e, x1e, x2e, x3e, x4e, x5e, x6e, x7e, x8e, x9e, x10e, x14e]
              clear x0e x1e x2e x3e x4e x5e x6e x7e x8e x9e x10e x14e hI hall
              generalize x 13 = xA, x 12 = xC, x 11 = xK
              obtain ⟨s', hvs, hej⟩ := EnJ.next HWE.out.1 HTS.out HOU.out HWR6.out HWE.out.2 HOWN.out HE6.out hownS hpsiS hkptS
              rw [← HRT.out] at hej
              rw [← hwS] at hej
              have HEJ2 := Lib.hid hej
              clear hwS hpsiS hownS hkptS hvs hej
              go_wp2_with fail
              go_roundg (n - (j + 1))
              case measure => omega
              case rel => exact ⟨j + 1, s', by omega, rfl, by go_num, HEJ2.out⟩
            · have z2 : ¬ ((j : Int) < (n : Int)) := by omega
              rw [List.take_of_length_le (show row.length ≤ j by rw [HRL.out]; omega)] at hej
              have HCL := Lib.hid (hej.close HEN.out HTM.out HBO.out.size)
              have HWN := Lib.hid (HWR.out.trans hej.wr)
              clear hej
              go_wp2_with fail
              go_roundg (n - (ix + 1))
              case measure => omega
              case rel => exact ⟨ix + 1, _, by omega, rfl, by go_num, HCL.out, HWN.out⟩
        · have z1 : ¬ ((ix : Int) < (n : Int)) := by omega
          have e7 : ix = n := by omega
          rw [e7] at HEN
          have HENT := Lib.hid (HEN.out.end_ HML.out)
          have HQR3 := Lib.hid (HQR2.out.wr HWR.out (fun e => HGE.out.2.1 (List.mem_singleton.1 e)))
          clear e7 HEN HLW
          have HMT2 := Lib.hid (HMT.out dg HDG.out)
          have HTW := Lib.hid (HT.out.below HBO.out)
          by_cases hsm : SmC M
          · have HIN := Lib.hid (interp_yes HENT.out HMT2.out.1 HMT2.out.2 HTW.out HK.out hsm)
            have HSM := Lib.hid hsm
            have HQW := Lib.hid (fun W (hb : Below wo.heap.size wo W) => HQR3.out.below hb HQR3.out.lt)
            have HCL := Lib.hid (show (dtC (tmM M) dg).length = dg + 1 by simp [dtC])
            have HDC := Lib.hid (show (degS M).toNat = dg by have := HDG.out; omega)
            have HOF := Lib.hid (fun W vc (hc : Ints W vc (dtC (tmM M) dg)) => Of_any lw vc (dtC (tmM M) dg) W hc (by have := HCL.out; have := HDEG.out; omega) (by have := HDBB.out; omega))
            clear hsm HENT HQR3 HMT2 HMT
            go_upto_if 123 with (go_at_call 55; refine HIN.out.mono ?_; rintro e w6 ⟨gc, rfl, hgc, hac, hb6⟩)
            have HB6 := Lib.hid hb6
            have hin := Ints.of_arr hac
            rw [HCL.out] at hin
            have HIN6 := Lib.hid hin
            clear hin hac hb6 HIN hgc
            go_wp2_with fail
            refine (HOF.out _ _ HIN6.out).mono ?_
            rintro e w7 ⟨v7, rfl, hv7, hb7⟩
            have HB7 := Lib.hid (HB6.out.trans (hb7.mono HB6.out.size))
            have qr := HQW.out w7 HB7.out
            have HV7 := Lib.hid (fun u1 u2 => hv7.box qr u1 u2)
            have HBF := Lib.hid (HBO.out.trans (HB7.out.mono HBO.out.size))
            obtain ⟨b5, A5, n5, c5, rfl, j5, j6⟩ := hv7.parts
            have x0 := qr.cell 0
            have x1 := qr.cell 1
            have f0_ := qr.frozen 0
            have f1_ := qr.frozen 1
            have hres := Lib.hid ((qr.set 0 (.bool b5)).set 1 (.slice A5 n5 c5))
            clear qr hb7 hv7 HQW HOF j5 j6
            go_wp2_with fail
            refine bodyPost_ret (v := .tuple #[.agg #[.bool b5, .slice A5 n5 c5], .bool true]) (results_ct Tryz.results43 _ _ g2 40 _ _ rfl hres.out Tryz.underlying40 rfl info_poly) rfl ?_
            exact ⟨_, true, rfl, (HBF.out.setCell (p := ⟨g2, 0, none⟩) HG.out.1 _).setCell (p := ⟨g2, 1, none⟩) HG.out.1 _, .inr (.inl ⟨HNZM.out, HSM.out, rfl, by rw [HDC.out, HLWE.out]; exact HV7.out _ _⟩)⟩
          · have HIN := Lib.hid (interp_no HENT.out HMT2.out.1 HMT2.out.2 HTW.out HK.out hsm)
            have HSM := Lib.hid hsm
            have HQW := Lib.hid (fun W (hb : Below wo.heap.size wo W) => HQR3.out.below hb HQR3.out.lt)
            clear hsm HENT HQR3 HMT2 HMT
            go_upto_if 123 with (go_at_call 55; refine HIN.out.mono ?_; rintro e w6 ⟨rfl, hb6⟩)
            have qr := HQW.out w6 hb6
            have HB6 := Lib.hid (HBO.out.trans (hb6.mono HBO.out.size))
            have x0 := qr.cell 0
            have x1 := qr.cell 1
            have f0_ := qr.frozen 0
            have f1_ := qr.frozen 1
            have hres := Lib.hid ((qr.set 0 (.bool false)).set 1 (.slice none 0 0))
            clear qr hb6 HQW HIN
            go_wp2_with fail
            refine bodyPost_ret (v := .tuple #[.agg #[.bool false, .slice none 0 0], .bool false]) (results_ct Tryz.results43 _ _ g2 40 _ _ rfl hres.out Tryz.underlying40 rfl info_poly) rfl ?_
            exact ⟨_, false, rfl, (HB6.out.setCell (p := ⟨g2, 0, none⟩) HG.out.1 _).setCell (p := ⟨g2, 1, none⟩) HG.out.1 _, .inr (.inr ⟨HNZM.out, HSM.out, rfl, rfl⟩)⟩
end Go.Proofs.YtbkgpfalljgdcaaGreatDoor
