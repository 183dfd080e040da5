/- polymatrix.interpolated, where the coefficients are found: the walk. -/
/- Matrices of polynomials in memory; the matrix of terms that determinant makes; plain functions of determinant. -/
import Derived.Test.YtbkgpfalljgdcaaGreatDoorZItp
import Derived.Test.YtbkgpfalljgdcaaGreatDoorZDia
import Derived.Test.YtbkgpfalljgdcaaGreatDoorZTmo
namespace Go.Proofs.YtbkgpfalljgdcaaGreatDoor
open Go.RowKit
set_option linter.unusedVariables false

theorem info_i64 : (Tryz.prog.info? 3).map (fun i => (i.zero, i.size, i.bytes)) = some (some (.int .i64 0), 1, 8) := by kernel_rfl
theorem mk_i64 (n : Nat) (hn : n ≤ 1000000) (W : World) : (Instr.makeSlice 22 (.int .i64 (n : Int)) (.int .i64 (n : Int))).run Tryz.prog W = .ok (.slice (some ⟨W.heap.size, 0, none⟩) n n) (W.alloc (.cells (rowOf (List.replicate n (.int .i64 0))) 3)) := by
  obtain ⟨i, hi, hz, hs, hb⟩ := info_parts info_i64
  exact run_make_one (P := Tryz.prog) 22 3 i (.int .i64 0) Tryz.underlying22 hi hz hs rfl (by omega) n hn W
theorem eql_nil_0 (W : World) : Sem.run Tryz.prog (binOp .eql 22 (.slice none 0 0) (.slice none 0 0)) W = .ok (.bool true) W := by kernel_rfl
theorem eql_nil_1 (a : Addr) (n c : Nat) (W : World) : Sem.run Tryz.prog (binOp .eql 22 (.slice (some a) n c) (.slice none 0 0)) W = .ok (.bool false) W := by kernel_rfl
set_option maxHeartbeats 8000000 in
set_option maxRecDepth 100000 in
theorem interpolated_yes (v : Value) (m : List (List (List TE))) (deg K : Nat) (w : World) (h : EntT w v m) (hn : m.length ≤ 64) (hsq : ∀ r ∈ m, r.length = m.length) (hs : ∀ r ∈ m, ∀ l ∈ r, l.length ≤ 131072 ∧ ∀ t ∈ l, (-1125899906842624 ≤ t.2 ∧ t.2 ≤ 1125899906842624) ∧ t.1 < 131072) (hdeg : deg < 131072)
    (hbt : ∀ r ∈ m, 0 ≤ rowBits r ∧ rowBits r ≤ 75) (hwt : 0 ≤ wgtB m ∧ wgtB m ≤ 4800) (hT : Tb6 w) (hK0 : 1 ≤ K) (hK : K ≤ 16) (hcnt : cntF m = (K : Int)) (hok : ∀ c ∈ itC m deg, -1125899906842624 ≤ c ∧ c ≤ 1125899906842624)
    (hres : ∀ j, j < K → ∀ i, i < deg + 1 → ofF (fldL[j]?.getD (0, 0)).1 ((itC m deg)[i]?.getD 0) = gn (resA (fldL[j]?.getD (0, 0)).1 (fldL[j]?.getD (0, 0)).2 m deg) i) :
    Calls Tryz.prog 55 #[v, .int .i64 (deg : Int)] w fun e w' => ∃ g : Nat, e = .returned (.tuple #[.slice (some ⟨g, 0, none⟩) (deg + 1) (deg + 1), .bool true]) ∧ w.heap.size ≤ g ∧ Arr w' g 3 ((itC m deg).map (Value.int .i64)) ∧ Below w.heap.size w w' := by
  have HWB := Lib.hid (weightBits_any v m w h hn (fun r hr => by rw [hsq r hr]; exact hn) (fun r hr l hl => ⟨(hs r hr l hl).1, fun t ht => ((hs r hr l hl).2 t ht).1⟩) hbt)
  have HFI := Lib.hid (fun W (hb : Below w.heap.size w W) => fields_any K W hK (hT.below hb))
  have HRE := Lib.hid (fun (j : Nat) (hj : j < K) (W : World) (hb : Below w.heap.size w W) => (show Calls Tryz.prog 71 #[.agg #[.int .u64 ((fldL[j]?.getD (0, 0)).1 : Nat), .int .u64 ((fldL[j]?.getD (0, 0)).2 : Nat)], v, .int .i64 (deg : Int)] W fun e w' => ∃ (g : Nat) (X : List Nat), e = .returned (.slice (some ⟨g, 0, none⟩) (deg + 1) (2 ^ lgN deg)) ∧ W.heap.size ≤ g ∧ Arr w' g 115 (uc X) ∧ X.length = 2 ^ lgN deg ∧ X.take (deg + 1) = resA (fldL[j]?.getD (0, 0)).1 (fldL[j]?.getD (0, 0)).2 m deg ∧ Below W.heap.size W w' from by
    have hj2 : j < fldL.length := by rw [fldL_len]; omega
    rw [List.getElem?_eq_getElem hj2]
    have hf := fldL_ok hj2
    exact fresidues_any _ _ deg v m W (h.below hb) hn hsq (fun r hr l hl => ⟨fun t ht => ⟨by have := ((hs r hr l hl).2 t ht).1; show t.2.natAbs < fldL[j].1; omega, ((hs r hr l hl).2 t ht).2⟩, (hs r hr l hl).1⟩) hdeg hf.1 hf.2.2.1 hf.2.2.2))
  have HOK := Lib.hid hok
  have HRS := Lib.hid hres
  unfold cntF at hcnt
  have HCN := Lib.hid hcnt
  obtain ⟨A, c, rfl⟩ := h.form
  obtain ⟨n, hnn⟩ : ∃ n, n = m.length := ⟨_, rfl⟩
  rw [← hnn] at hn HWB HRE ⊢
  generalize wgtB m = W0 at *
  clear h hsq hs hbt hok hres hT hcnt hnn
  go_enter Tryz.func55, Tryz.ntmps55
  go_upto_region 2 with (go_at_call 69; refine HWB.out.mono ?_; rintro e w' ⟨rfl, hb⟩)
  rw [HCN.out]
  have HB := Lib.hid hb
  have HKL := Lib.hid (show (fldL.take K).length = K by rw [List.length_take, fldL_len]; omega)
  clear hb HCN HWB
  go_upto_region 3 with fail
  go_upto_region 4 with (go_at_call 70; refine (HFI.out _ HB.out).mono ?_; rintro e w2 ⟨vf, rfl, hof, hbf⟩; obtain ⟨Af, cf, hvf⟩ := hof.form; rw [HKL.out] at hvf; subst hvf)
  have HFS := Lib.hid hof.sl
  have HB2 := Lib.hid (HB.out.trans (hbf.mono HB.out.size))
  clear hof hbf HFI HB
  go_wp2_with fail
  go_loopg [7, 9, 10, 11, 12, 13, 14, 24] K (fun gk s7 s9 s10 s11 s12 s13 s14 s24 wr => ∃ (j : Nat) (v7 : Value), j ≤ K ∧ gk = K - j ∧ s24 = .int .i64 (j : Int) ∧ s7 = v7 ∧ ((j = 0 ∧ v7 = .slice none 0 0) ∨ (0 < j ∧ ∃ g : Nat, v7 = .slice (some ⟨g, 0, none⟩) (deg + 1) (deg + 1) ∧ w2.heap.size ≤ g ∧ Arr wr g 3 ((itC m deg).map (Value.int .i64)))) ∧ Below w2.heap.size w2 wr)
  case atStart => exact ⟨0, _, by omega, rfl, rfl, rfl, .inl ⟨rfl, rfl⟩, Below.refl _ _⟩
  case round =>
    obtain ⟨j, v7, hj, rfl, rfl, h77, hor, hb⟩ := hrel
    have h78 := h77.symm
    clear h77
    subst h78
    obtain ⟨wo, rfl⟩ : ∃ wo : World, wo = wr := ⟨_, rfl⟩
    by_cases hjt : j < K
    · have z1 : (j : Int) < (K : Int) := by omega
      have hjl : j < (fldL.take K).length := by rw [HKL.out]; exact hjt
      have hj2 : j < fldL.length := by rw [fldL_len]; omega
      obtain ⟨b3, o3, hA, hnm, q0, q1⟩ := HFS.out.fat hjl
      clear hnm
      subst hA
      have hPJ : (fldL.take K)[j] = fldL[j]?.getD (0, 0) := by rw [List.getElem_take, List.getElem?_eq_getElem hj2]; rfl
      have hf := fldL_ok hj2
      rw [show fldL[j] = fldL[j]?.getD (0, 0) by rw [List.getElem?_eq_getElem hj2]; rfl] at hf
      have HREJ := Lib.hid (HRE.out j hjt)
      have HRSJ := Lib.hid (HRS.out j hjt)
      have HCJ := Lib.hid (fun (e : j = 0) => (show itC m deg = (resA (fldL[j]?.getD (0, 0)).1 (fldL[j]?.getD (0, 0)).2 m deg).map (liftF (fldL[j]?.getD (0, 0)).1) by subst e; rfl))
      rw [hPJ] at q0 q1
      clear hPJ hjl hj2
      generalize fldL[j]?.getD (0, 0) = pj at *
      obtain ⟨p, rt⟩ := pj
      simp only at q0 q1 hf HREJ HRSJ HCJ
      have c1 := (hb.cell (block_lt_of_cell q0)).trans q0
      have c2 := (hb.cell (block_lt_of_cell q1)).trans q1
      have HB3 := Lib.hid (hb.alloc hb.size (.cells #[.int .u64 (p : Nat), .int .u64 (rt : Nat)] 117))
      have HTB := Lib.hid (show Arr (wo.alloc (.cells #[.int .u64 (p : Nat), .int .u64 (rt : Nat)] 117)) wo.heap.size 117 [.int .u64 (p : Int), .int .u64 (rt : Int)] from Arr.new wo 117 [_, _])
      have HOR := Lib.hid (show (j = 0 ∧ v7 = .slice none 0 0) ∨ (0 < j ∧ ∃ g : Nat, v7 = .slice (some ⟨g, 0, none⟩) (deg + 1) (deg + 1) ∧ w2.heap.size ≤ g ∧ Arr (wo.alloc (.cells #[.int .u64 (p : Nat), .int .u64 (rt : Nat)] 117)) g 3 ((itC m deg).map (Value.int .i64))) from by
        rcases hor with h0 | ⟨h0, g, h1, hg, ha⟩
        · exact .inl h0
        · exact .inr ⟨h0, g, h1, hg, ha.alloc _⟩)
      clear hb hor q0 q1
      go_upto_region 6 with fail
      generalize wo.alloc (.cells #[.int .u64 (p : Nat), .int .u64 (rt : Nat)] 117) = w3 at *
      generalize wo.heap.size = tb at *
      clear c1 c2
      have y0 := HTB.out.cell 0
      have y1 := HTB.out.cell 1
      go_upto_region 7 with (go_at_call 71; refine (HREJ.out _ (HB2.out.trans (HB3.out.mono HB2.out.size))).mono ?_; rintro e w4 ⟨gr_, X, rfl, hg, hax, hxl, hxt, hbx⟩)
      have HTB4 := Lib.hid (HTB.out.below hbx HTB.out.lt)
      have HB4 := Lib.hid (HB3.out.trans (hbx.mono HB3.out.size))
      have HAX := Lib.hid hax
      have HXL := Lib.hid (show X.length = 2 ^ lgN deg ∧ X.take (deg + 1) = resA p rt m deg from ⟨hxl, hxt⟩)
      have HOR4 := Lib.hid (show (j = 0 ∧ v7 = .slice none 0 0) ∨ (0 < j ∧ ∃ g : Nat, v7 = .slice (some ⟨g, 0, none⟩) (deg + 1) (deg + 1) ∧ w2.heap.size ≤ g ∧ Arr w4 g 3 ((itC m deg).map (Value.int .i64))) from by
        rcases HOR.out with h0 | ⟨h0, g, h1, hg, ha⟩
        · exact .inl h0
        · exact .inr ⟨h0, g, h1, hg, ha.below hbx ha.lt⟩)
      clear HOR HTB HB3 hax hxl hxt hbx hg HREJ HRE y0 y1
      obtain ⟨B0, hB0⟩ : ∃ b : Bool, b = decide (j = 0) := ⟨_, rfl⟩
      have HB0 := Lib.hid hB0
      clear hB0
      go_cut [24, 33] from 24 to 79 (fun s24 s33 wx => s24 = .int .i64 (j : Int) ∧ s33 = .bool B0 ∧ wx = w4)
      case first =>
        rcases HOR4.out with ⟨h0, h1⟩ | ⟨h0, g, h1, hg, ha⟩
        · subst h1
          have HT0 := Lib.hid (show B0 = true by rw [HB0.out]; simpa using h0)
          have hnil := fun W => eql_nil_0 W
          clear h0 HOR4
          go_wp2_with fail
          go_meet
          case rel => exact ⟨rfl, by rw [HT0.out], rfl⟩
        · subst h1
          have HT0 := Lib.hid (show B0 = false by rw [HB0.out]; simp; omega)
          have hnil := fun W => eql_nil_1 ⟨g, 0, none⟩ (deg + 1) (deg + 1) W
          clear h0 HOR4 ha hg
          go_wp2_with fail
          go_meet
          case rel => exact ⟨rfl, by rw [HT0.out], rfl⟩
      case rest =>
        obtain ⟨rfl, rfl, hwc⟩ := hcut
        rw [hwc]
        clear hwc
        go_upto_if 33 with fail
        go_cut [7, 24] from 24 to 79 (fun s7 s24 wx => s24 = .int .i64 (j : Int) ∧ ∃ gc : Nat, s7 = .slice (some ⟨gc, 0, none⟩) (deg + 1) (deg + 1) ∧ w2.heap.size ≤ gc ∧ Arr wx gc 3 ((itC m deg).map (Value.int .i64)) ∧ Arr wx gr_ 115 (uc X) ∧ Arr wx tb 117 [.int .u64 (p : Int), .int .u64 (rt : Int)] ∧ Below w2.heap.size w2 wx)
        case first =>
          rcases HOR4.out with ⟨h0, h1⟩ | ⟨h0, g, h1, hg, ha⟩
          · have hT0 : B0 = true := by rw [HB0.out]; simpa using h0
            subst h1
            subst hT0
            have HIC := Lib.hid (HCJ.out h0)
            have hmk := fun W => mk_i64 (deg + 1) (by omega) W
            rw [show (((deg + 1 : Nat)) : Int) = (deg : Int) + 1 by omega] at hmk
            have hAl := (Below.refl w4.heap.size w4).alloc (Nat.le_refl _) (.cells (rowOf (List.replicate (deg + 1) (.int .i64 0))) 3)
            have HA5 := Lib.hid (HAX.out.below hAl HAX.out.lt)
            have HT5 := Lib.hid (HTB4.out.below hAl HTB4.out.lt)
            have HB5 := Lib.hid (HB4.out.trans (hAl.mono HB4.out.size))
            have HN5 := Lib.hid (show gr_ ≠ w4.heap.size ∧ tb ≠ w4.heap.size ∧ w2.heap.size ≤ w4.heap.size from ⟨by have := HAX.out.lt; omega, by have := HTB4.out.lt; omega, HB4.out.size⟩)
            have HC5 := Lib.hid (show Arr (w4.alloc (.cells (rowOf (List.replicate (deg + 1) (.int .i64 0))) 3)) w4.heap.size 3 (((itC m deg).take 0 ++ List.replicate (deg + 1 - 0) 0).map (Value.int .i64)) by
              have h1 := Arr.new w4 3 (List.replicate (deg + 1) (.int .i64 0))
              simpa using h1)
            clear hAl h0
            go_upto_region 9 with fail
            generalize w4.alloc (.cells (rowOf (List.replicate (deg + 1) (.int .i64 0))) 3) = w5 at *
            generalize w4.heap.size = gc at *
            clear hmk HAX HTB4 HB4 HOR4
            go_wp2_with fail
            go_loopg [11, 12, 39] (deg + 1) (fun gk s11 s12 s39 wr => ∃ iz : Nat, iz ≤ deg + 1 ∧ gk = deg + 1 - iz ∧ s39 = .int .i64 (iz : Int) ∧ Arr wr gc 3 (((itC m deg).take iz ++ List.replicate (deg + 1 - iz) 0).map (Value.int .i64)) ∧ Wr [gc] w5 wr)
            case atStart => exact ⟨0, by omega, rfl, rfl, HC5.out, Wr.refl _ _⟩
            case round =>
              clear HC5
              obtain ⟨iz, hiz, rfl, rfl, ac, ho⟩ := hrel
              obtain ⟨wq, rfl⟩ : ∃ wq : World, wq = wr := ⟨_, rfl⟩
              have hA := HA5.out.wr ho (fun e => HN5.out.1 (List.mem_singleton.1 e))
              have hTq := HT5.out.wr ho (fun e => HN5.out.2.1 (List.mem_singleton.1 e))
              have hBq := HB5.out.trans (ho.below HB5.out.size (fun x hx => by rw [List.mem_singleton.1 hx]; exact HN5.out.2.2))
              by_cases hit : iz < deg + 1
              · have z2 : (iz : Int) < (deg : Int) + 1 := by omega
                have hcl : iz < (itC m deg).length := by rw [itC_length]; exact hit
                have hcv := HOK.out _ (List.getElem_mem hcl)
                have c1 := (hA.cell iz).trans (uc_get (by rw [HXL.out.1]; have := lgN_gt deg; omega))
                have hxr : gn X iz = gn (resA p rt m deg) iz := by
                  rw [← HXL.out.2]; unfold gn; rw [List.getElem?_take, if_pos hit]
                have hlf : (itC m deg)[iz] = liftF p (gn X iz) := by
                  have hrl : iz < (resA p rt m deg).length := by rw [resA_length]; exact hit
                  have h1 : (itC m deg)[iz]? = ((resA p rt m deg).map (liftF p))[iz]? := by rw [HIC.out]
                  rw [List.getElem?_eq_getElem hcl, List.getElem?_map, List.getElem?_eq_getElem hrl, Option.map_some] at h1
                  injection h1 with h1
                  rw [h1, hxr]; unfold gn; rw [List.getElem?_eq_getElem hrl]; rfl
                have hxp : gn X iz < p := by rw [hxr]; exact resA_lt (show 0 < p by have := hf.1; omega) _ _ _
                have HLF := Lib.hid (fun W => flift_any p rt (gn X iz) W hf.2.2.1 hxp)
                rw [← hlf] at HLF
                have y0 := hTq.cell 0
                have y1 := hTq.cell 1
                have hset : ((((itC m deg).take iz ++ List.replicate (deg + 1 - iz) 0).map (Value.int .i64)).set iz (.int .i64 (itC m deg)[iz])) = ((itC m deg).take (iz + 1) ++ List.replicate (deg + 1 - (iz + 1)) 0).map (Value.int .i64) := by
                  rw [← List.map_set, List.set_append_right iz _ (by rw [List.length_take]; omega), List.length_take, Nat.min_eq_left (by omega), Nat.sub_self, show deg + 1 - iz = deg + 1 - (iz + 1) + 1 by omega, List.replicate_succ, List.set_cons_zero, List.take_succ_eq_append_getElem hcl, List.append_assoc, List.singleton_append]
                have HCF := Lib.hid (fun (w' : World) (hb : Below wq.heap.size wq w') => (show w'.cell? ⟨gc, iz, none⟩ = some (.int .i64 0) ∧ w'.frozen? ⟨gc, iz, none⟩ = false from
                  ⟨((ac.below hb ac.lt).cell iz).trans (by rw [List.getElem?_map, List.getElem?_append_right (by rw [List.length_take]; omega), List.length_take, Nat.min_eq_left (by omega), Nat.sub_self, List.getElem?_replicate, if_pos (by omega)]; rfl), (ac.below hb ac.lt).frozen iz⟩))
                have HNX := Lib.hid (fun (w' : World) (hb : Below wq.heap.size wq w') => (show Arr (w'.setCell ⟨gc, iz, none⟩ (.int .i64 (itC m deg)[iz])) gc 3 (((itC m deg).take (iz + 1) ++ List.replicate (deg + 1 - (iz + 1)) 0).map (Value.int .i64)) ∧ Wr [gc] w5 (w'.setCell ⟨gc, iz, none⟩ (.int .i64 (itC m deg)[iz])) from by
                  have h1 := (ac.below hb ac.lt).set iz (.int .i64 (itC m deg)[iz])
                  rw [hset] at h1
                  exact ⟨h1, (ho.trans (Wr.of_below hb)).setCell (List.mem_singleton.2 rfl) iz _⟩))
                clear hset hlf hxr
                generalize (itC m deg)[iz] = cv at *
                generalize gn X iz = xv at *
                have z8 : ¬ ((1125899906842624 : Int) < cv) := by omega
                have z9 : ¬ (cv < -1125899906842624) := by omega
                clear hA hTq hBq ac ho hcl hcv
                go_wp2_with (go_at_call 72; refine (HLF.out _).mono ?_; rintro e w' ⟨rfl, hbm⟩; obtain ⟨c8, c9⟩ := HCF.out w' hbm)
                go_roundg (deg + 1 - (iz + 1))
                case measure => omega
                case rel => exact ⟨iz + 1, by omega, rfl, by go_num, HNX.out _ hbm⟩
              · have z2 : ¬ ((iz : Int) < (deg : Int) + 1) := by omega
                have e9 : iz = deg + 1 := by omega
                rw [e9, Nat.sub_self, List.replicate_zero, List.append_nil, ← itC_length m deg, List.take_length] at ac
                have HAC := Lib.hid ac
                have HAQ := Lib.hid hA
                have HTQ := Lib.hid hTq
                have HBQ := Lib.hid hBq
                clear ac hA hTq hBq ho e9
                go_wp2_with fail
                go_meet
                case rel => exact ⟨rfl, gc, rfl, HN5.out.2.2, HAC.out, HAQ.out, HTQ.out, HBQ.out⟩
          · have hT0 : B0 = false := by rw [HB0.out]; simp; omega
            subst h1
            subst hT0
            have HA := Lib.hid ha
            have HG := Lib.hid hg
            clear ha hg HOR4
            go_wp2_with fail
            go_meet
            case rel => exact ⟨rfl, g, rfl, HG.out, HA.out, HAX.out, HTB4.out, HB4.out⟩
        case rest =>
          obtain ⟨rfl, gc, rfl, hgc, hac, hax, htb, hb⟩ := hcut
          have HAC := Lib.hid hac
          have HAX2 := Lib.hid hax
          have HTB := Lib.hid htb
          have HGC := Lib.hid hgc
          have HBC := Lib.hid hb
          clear hac hax htb hgc hb HAX HTB4 HB4 HOR4 HCJ
          go_wp2_with fail
          go_loopg [13, 14, 65] (deg + 1) (fun gk s13 s14 s65 wr => ∃ iz : Nat, iz ≤ deg + 1 ∧ gk = deg + 1 - iz ∧ s65 = .int .i64 (iz : Int) ∧ Below wc.heap.size wc wr)
          case atStart => exact ⟨0, by omega, rfl, rfl, Below.refl _ _⟩
          case round =>
            obtain ⟨iz, hiz, rfl, rfl, hb⟩ := hrel
            obtain ⟨wq, rfl⟩ : ∃ wq : World, wq = wr := ⟨_, rfl⟩
            by_cases hit : iz < deg + 1
            · have z2 : (iz : Int) < (deg : Int) + 1 := by omega
              have hcl : iz < (itC m deg).length := by rw [itC_length]; exact hit
              have hcv := HOK.out _ (List.getElem_mem hcl)
              have hxv : gn X iz = ofF p (itC m deg)[iz] := by
                have h1 := HRSJ.out iz hit
                rw [List.getElem?_eq_getElem hcl] at h1
                simp only [Option.getD_some] at h1
                rw [h1, ← HXL.out.2]
                unfold gn
                rw [List.getElem?_take, if_pos hit]
              have hax2 := HAX2.out.below hb HAX2.out.lt
              have c1 := (hax2.cell iz).trans (uc_get (by rw [HXL.out.1]; have := lgN_gt deg; omega))
              rw [hxv] at c1
              have hac2 := HAC.out.below hb HAC.out.lt
              have HCC := Lib.hid (fun W (hb : Below wq.heap.size wq W) => (((hac2.below hb hac2.lt).cell iz).trans (by rw [List.getElem?_map, List.getElem?_eq_getElem hcl]; rfl) : W.cell? ⟨gc, iz, none⟩ = some (.int .i64 (itC m deg)[iz])))
              have HTB0 := HTB
              clear HTB
              have HTB := Lib.hid (HTB0.out.below hb HTB0.out.lt)
              have HOF := Lib.hid (fun W => fof_any p rt (itC m deg)[iz] W hf.2.2.1 (by have := hf.2.1; omega))
              have HZ := Lib.hid z2
              have HBQ := Lib.hid hb
              generalize (itC m deg)[iz] = cv at *
              generalize ofF p cv = xv at *
              have HNE := Lib.hid (show (((xv : Nat) : Int) != (xv : Int)) = false by simp)
              clear hb hax2 hac2 hxv hcl hcv
              go_upto_region 19 with fail
              clear c1
              refine wp_region_phy (fun a b => Below a.heap.size a b) (fun h k => h.trans (k.mono h.size)) ((Below.refl _ _).drew) (by kernel_rfl) (by kernel_rfl) (by kernel_rfl) (by kernel_rfl) (phiT (fun i => ([some (.agg #[.int .u64 (p : Int), .int .u64 (rt : Int)]), some (.slice (some ⟨gc, 0, none⟩) (deg + 1) (deg + 1)), some (.int .i64 (iz : Int)), some (.pointer (some ⟨gc, iz, none⟩)), some (.int .i64 cv), some (.int .u64 ((xv : Nat) : Int)), some (.int .u64 ((xv : Nat) : Int)), some (.bool false)] : List (Option Value)).getD i none) (fun i v w => True)) (fun i v w w' h hb => ?_) ⟨?_, ?_, ?_, ?_, ?_, ?_, ?_, ?_, trivial⟩ ?_
              · unfold phiT at h ⊢
                split
                · next u hu => rw [hu] at h; exact h
                · next hu =>
                  rw [hu] at h
                  exact True.intro
              · intro x w1 bA hT hdep hold hb
                refine .inl ⟨trivial, ?_⟩
                have e9 : bA.tmps[9]?.getD undef = .pointer (some ⟨tb, 0, none⟩) := hb 9
                have cc0 := (HTB.out.below hT HTB.out.lt).cell 0
                have cc1 := (HTB.out.below hT HTB.out.lt).cell 1
                refine phx_run (.agg #[.int .u64 (p : Int), .int .u64 (rt : Int)]) ?_ (Below.refl _ _) rfl
                clear hb hdep hold
                go_simp
              · intro x w1 bA hT hdep hold hb
                refine .inl ⟨trivial, ?_⟩
                have e7 : bA.tmps[7]?.getD undef = .slice (some ⟨gc, 0, none⟩) (deg + 1) (deg + 1) := hb 7
                refine phx_run (.slice (some ⟨gc, 0, none⟩) (deg + 1) (deg + 1)) ?_ (Below.refl _ _) rfl
                clear hb hdep hold
                go_simp
              · intro x w1 bA hT hdep hold hb
                refine .inl ⟨trivial, ?_⟩
                have e13 : bA.tmps[13]?.getD undef = .int .i64 (iz : Int) := hb 13
                refine phx_run (.int .i64 (iz : Int)) ?_ (Below.refl _ _) rfl
                clear hb hdep hold
                go_simp
              · intro x w1 bA hT hdep hold hb
                refine .inl ⟨trivial, ?_⟩
                have e71 : bA.tmps[71]?.getD undef = .slice (some ⟨gc, 0, none⟩) (deg + 1) (deg + 1) := (hb 71).trans (hdep 1 (by decide))
                have e72 : bA.tmps[72]?.getD undef = .int .i64 (iz : Int) := (hb 72).trans (hdep 2 (by decide))
                have zz := HZ.out
                refine phx_run (.pointer (some ⟨gc, iz, none⟩)) ?_ (Below.refl _ _) rfl
                clear hb hdep hold
                go_simp
              · intro x w1 bA hT hdep hold hb
                refine .inl ⟨trivial, ?_⟩
                have e73 : bA.tmps[73]?.getD undef = .pointer (some ⟨gc, iz, none⟩) := (hb 73).trans (hdep 3 (by decide))
                have cc := HCC.out w1 hT
                refine phx_run (.int .i64 cv) ?_ (Below.refl _ _) rfl
                clear hb hdep hold
                go_simp
              · intro x w1 bA hT hdep hold hb
                refine .inl ⟨trivial, ?_⟩
                have e70 : bA.tmps[70]?.getD undef = .agg #[.int .u64 (p : Int), .int .u64 (rt : Int)] := (hb 70).trans (hdep 0 (by decide))
                have e74 : bA.tmps[74]?.getD undef = .int .i64 cv := (hb 74).trans (hdep 4 (by decide))
                refine phx_call ?_ ((HOF.out w1).mono fun e w' h => ⟨_, h.1, h.2, rfl⟩)
                clear hb hdep hold
                go_simp
              · intro x w1 bA hT hdep hold hb
                refine .inl ⟨trivial, ?_⟩
                have e14 : bA.tmps[14]?.getD undef = .int .u64 ((xv : Nat) : Int) := hb 14
                refine phx_run (.int .u64 ((xv : Nat) : Int)) ?_ (Below.refl _ _) rfl
                clear hb hdep hold
                go_simp
              · intro x w1 bA hT hdep hold hb
                refine .inl ⟨trivial, ?_⟩
                have e75 : bA.tmps[75]?.getD undef = .int .u64 ((xv : Nat) : Int) := (hb 75).trans (hdep 5 (by decide))
                have e76 : bA.tmps[76]?.getD undef = .int .u64 ((xv : Nat) : Int) := (hb 76).trans (hdep 6 (by decide))
                have zn := HNE.out
                refine phx_run (.bool false) ?_ (Below.refl _ _) rfl
                clear hb hdep hold
                go_simp
              intro x w1 hT hall
              have x0e : x 0 = .agg #[.int .u64 (p : Int), .int .u64 (rt : Int)] := hall 0 (by decide)
              have x1e : x 1 = .slice (some ⟨gc, 0, none⟩) (deg + 1) (deg + 1) := hall 1 (by decide)
              have x2e : x 2 = .int .i64 (iz : Int) := hall 2 (by decide)
              have x3e : x 3 = .pointer (some ⟨gc, iz, none⟩) := hall 3 (by decide)
              have x4e : x 4 = .int .i64 cv := hall 4 (by decide)
              have x5e : x 5 = .int .u64 ((xv : Nat) : Int) := hall 5 (by decide)
              have x6e : x 6 = .int .u64 ((xv : Nat) : Int) := hall 6 (by decide)
              have x7e : x 7 = .bool false := hall 7 (by decide)
              simp only [putAll, dstOf, Act.put, List.map_cons, List.map_nil, List.setIfInBounds_toArray, List.set_cons_succ, List.set_cons_zero, Nat.reduceAdd, x0e, x1e, x2e, x3e, x4e, x5e, x6e, x7e]
              clear x0e x1e x2e x3e x4e x5e x6e x7e hall
              have HBR := Lib.hid (HBQ.out.trans (hT.mono HBQ.out.size))
              clear hT HCC HOF
              go_wp2_with fail
              go_roundg (deg + 1 - (iz + 1))
              case measure => omega
              case rel => exact ⟨iz + 1, by omega, rfl, by go_num, HBR.out⟩
            · have z2 : ¬ ((iz : Int) < (deg : Int) + 1) := by omega
              have HA := Lib.hid (HAC.out.below hb HAC.out.lt)
              have HB := Lib.hid (HBC.out.trans (hb.mono HBC.out.size))
              clear hb
              go_wp2_with fail
              go_roundg (K - (j + 1))
              case measure => omega
              case rel => exact ⟨j + 1, _, by omega, rfl, by go_num, rfl, .inr ⟨by omega, gc, rfl, HGC.out, HA.out⟩, HB.out⟩
    · have z1 : ¬ ((j : Int) < (K : Int)) := by omega
      rcases hor with ⟨h0, h1⟩ | ⟨h0, g, h1, hg, ha⟩
      · omega
      · subst h1
        have HA := Lib.hid ha
        have HBB := Lib.hid hb
        clear ha hb
        go_wp2_with fail
        go_ret2
        exact ⟨g, rfl, Nat.le_trans HB2.out.size hg, HA.out, HB2.out.trans (HBB.out.mono HB2.out.size)⟩
end Go.Proofs.YtbkgpfalljgdcaaGreatDoor

namespace Go.Proofs.YtbkgpfalljgdcaaGreatDoor
open Go.RowKit
set_option linter.unusedVariables false

abbrev LP := List (Int × Int)
/-- a row of polynomials -/
def RowQ (w : World) (v : Value) (r : List LP) : Prop := ∃ ps : List PVt, ps.length = r.length ∧ SlA eP w v ps ∧ ∀ (k : Nat) p l, ps[k]? = some p → r[k]? = some l → PolyV w (vP p) (some l)
def MatQ (w : World) (v : Value) (M : List (List LP)) : Prop := SlN RowQ w v M
theorem eP_length (p : PVt) : (eP p).length = 2 := rfl
theorem RowQ.below {w w' : World} {v : Value} {r : List LP} (h : RowQ w v r) (hb : Below w.heap.size w w') : RowQ w' v r := by
  obtain ⟨ps, h1, h2, h3⟩ := h
  exact ⟨ps, h1, h2.below hb, fun k p l hp hl => (h3 k p l hp hl).below hb⟩
theorem MatQ.below {w w' : World} {v : Value} {M : List (List LP)} (h : MatQ w v M) (hb : Below w.heap.size w w') : MatQ w' v M := SlN.below (fun _ _ q => RowQ.below q hb) h hb
theorem RowQ.form {w : World} {v : Value} {r : List LP} (h : RowQ w v r) : ∃ A c, v = .slice A r.length c := by
  obtain ⟨ps, h1, ⟨A, c, e, _⟩, _⟩ := h
  exact ⟨A, c, by rw [e, h1]⟩
theorem RowQ.at_ {w : World} {A : Option Addr} {n c k : Nat} {r : List LP} (h : RowQ w (.slice A n c) r) (hk : k < r.length) :
    ∃ b o bb A2 n2 c2, A = some ⟨b, o, none⟩ ∧ n = r.length ∧ w.cell? ⟨b, o + k * 2, none⟩ = some (.bool bb) ∧ w.cell? ⟨b, o + k * 2 + 1, none⟩ = some (.slice A2 n2 c2) ∧ PolyV w (.agg #[.bool bb, .slice A2 n2 c2]) (some r[k]) := by
  obtain ⟨ps, h1, ⟨A0, c0, hv, hc, hx⟩, h3⟩ := h
  injection hv with e1 e2 e3
  subst e1
  have hkp : k < ps.length := by omega
  have q0 := flat_get eP_length ps k 0 hkp (by omega)
  have q1 := flat_get eP_length ps k 1 hkp (by omega)
  obtain ⟨b, o, rfl, hh0⟩ := hx _ _ (q0.trans rfl)
  obtain ⟨b', o', hA, hh1⟩ := hx _ _ (q1.trans rfl)
  injection hA with hA
  injection hA with hb ho
  subst hb; subst ho
  exact ⟨b, o, ps[k].1, ps[k].2.1, ps[k].2.2.1, ps[k].2.2.2, rfl, by rw [e2, h1], hh0, by rw [Nat.add_assoc]; exact hh1, h3 k _ _ (List.getElem?_eq_getElem hkp) (List.getElem?_eq_getElem hk)⟩

/-- the least and the greatest exponent in a row, and whether there is one -/
def stS (s : Int × Int × Bool) (p : LP) : Int × Int × Bool := if p.length = 0 then s else if s.2.2 = true then (min s.1 (lowL p), max s.2.1 (highL p), true) else (lowL p, highL p, true)
def rwS (r : List LP) : Int × Int × Bool := r.foldl stS (0, 0, false)
theorem rwS_take {r : List LP} {k : Nat} (hk : k < r.length) : rwS (r.take (k + 1)) = stS (rwS (r.take k)) r[k] := fold_take hk
def OkR (r : List LP) : Prop := ∀ p ∈ r, Can p ∧ Lim p
theorem stS_bd {s : Int × Int × Bool} {p : LP} (h : -1048576 ≤ s.1 ∧ s.1 ≤ 1048576 ∧ -1048576 ≤ s.2.1 ∧ s.2.1 ≤ 1048576) (hp : Lim p) : -1048576 ≤ (stS s p).1 ∧ (stS s p).1 ≤ 1048576 ∧ -1048576 ≤ (stS s p).2.1 ∧ (stS s p).2.1 ≤ 1048576 := by
  have h1 := lowL_lim hp
  have h2 := highL_lim hp
  unfold stS
  split
  · exact h
  · split
    · exact ⟨by simp only; omega, by simp only; omega, by simp only; omega, by simp only; omega⟩
    · exact ⟨h1.1, h1.2, h2.1, h2.2⟩
theorem foldS_bd : ∀ (r : List LP) (s : Int × Int × Bool), (-1048576 ≤ s.1 ∧ s.1 ≤ 1048576 ∧ -1048576 ≤ s.2.1 ∧ s.2.1 ≤ 1048576) → OkR r → -1048576 ≤ (r.foldl stS s).1 ∧ (r.foldl stS s).1 ≤ 1048576 ∧ -1048576 ≤ (r.foldl stS s).2.1 ∧ (r.foldl stS s).2.1 ≤ 1048576
  | [], s, h, _ => h
  | p :: r, s, h, hr => foldS_bd r (stS s p) (stS_bd h (hr p (by simp)).2) fun q hq => hr q (List.mem_cons_of_mem _ hq)
theorem rwS_bd {r : List LP} (h : OkR r) : -1048576 ≤ (rwS r).1 ∧ (rwS r).1 ≤ 1048576 ∧ -1048576 ≤ (rwS r).2.1 ∧ (rwS r).2.1 ≤ 1048576 := foldS_bd r (0, 0, false) (by simp) h
theorem OkR.take {r : List LP} (h : OkR r) (k : Nat) : OkR (r.take k) := fun p hp => h p (List.mem_of_mem_take hp)
/-- sums over the rows -/
def lowS (M : List (List LP)) : Int := M.foldl (fun a r => a + (rwS r).1) 0
def degS (M : List (List LP)) : Int := M.foldl (fun a r => a + ((rwS r).2.1 - (rwS r).1)) 0
/-- the matrix of terms -/
def tmM (M : List (List LP)) : List (List (List TE)) := M.map fun r => r.map (tmO (rwS r).1)
theorem fold_bd {α : Type} (f : α → Int) (b : Int) : ∀ (l : List α) (a : Int), (∀ x ∈ l, -b ≤ f x ∧ f x ≤ b) → a - b * (l.length : Int) ≤ l.foldl (fun a x => a + f x) a ∧ l.foldl (fun a x => a + f x) a ≤ a + b * (l.length : Int)
  | [], a, h => by simp
  | x :: l, a, h => by
    have h1 := fold_bd f b l (a + f x) fun y hy => h y (List.mem_cons_of_mem _ hy)
    have h2 := h x (by simp)
    rw [List.foldl_cons]
    simp only [List.length_cons]
    have e : b * ((l.length + 1 : Nat) : Int) = b * (l.length : Int) + b := by grind
    omega

theorem info_rte : (Tryz.prog.info? 94).map (fun i => (i.zero, i.size, i.bytes)) = some (some (.slice none 0 0), 1, 24) := by kernel_rfl
theorem info_lte : (Tryz.prog.info? 95).map (fun i => (i.zero, i.size, i.bytes)) = some (some (.slice none 0 0), 1, 24) := by kernel_rfl
theorem mk_ent (n : Nat) (hn : n ≤ 1000000) (W : World) : (Instr.makeSlice 93 (.int .i64 (n : Int)) (.int .i64 (n : Int))).run Tryz.prog W = .ok (.slice (some ⟨W.heap.size, 0, none⟩) n n) (W.alloc (.cells (rowOf (List.replicate n (.slice none 0 0))) 94)) := by
  obtain ⟨i, hi, hz, hs, hb⟩ := info_parts info_rte
  exact run_make_one (P := Tryz.prog) 93 94 i (.slice none 0 0) Tryz.underlying93 hi hz hs rfl (by omega) n hn W
theorem elL : ElA Tryz.prog 95 1 eS where
  ex := by
    obtain ⟨i, hi, hz, hs, hb⟩ := info_parts info_lte
    exact ⟨i, _, 24, hi, hz, hs, hb, rfl, by omega⟩
  pos := by omega
  len := fun x => rfl
  one := fun x q h => by unfold eS at h; simp at h; subst h; rfl
/-- a row of lists of terms, of the call's own -/
def RowE (B : Nat) (w : World) (v : Value) (r : List (List TE)) : Prop := ∃ ts : List SVt, ts.length = r.length ∧ OwnA 95 1 eS B w v ts ∧ ∀ (j : Nat) t l, ts[j]? = some t → r[j]? = some l → OwnE B w (vS t) l
theorem OwnA.wr {α : Type} {e : TypeId} {sz : Nat} {enc : α → List Value} {B g : Nat} {w w' : World} {v : Value} {xs : List α} {t : TypeId} {cs : List Value} (h : OwnA e sz enc B w v xs) (hg : Arr w g t cs) (hne : e ≠ t) (ho : Wr [g] w w') : OwnA e sz enc B w' v xs := h.keepK fun k hk => by
  refine ho.block k (h.lt k hk) fun hm => ?_
  have e1 := List.mem_singleton.1 hm
  subst e1
  obtain ⟨cs', fr, h1⟩ := h.typ k hk
  rw [hg] at h1
  injection h1 with h1
  injection h1 with _ h2 _
  exact hne h2.symm
theorem RowE.wr {B g : Nat} {w w' : World} {v : Value} {r : List (List TE)} {cs : List Value} (h : RowE B w v r) (hg : Arr w g 94 cs) (ho : Wr [g] w w') : RowE B w' v r := by
  obtain ⟨ts, h1, h2, h3⟩ := h
  exact ⟨ts, h1, h2.wr hg (by decide) ho, fun j t l ht hl => (h3 j t l ht hl).wr hg (by decide) ho⟩
theorem RowE.below {B : Nat} {w w' : World} {v : Value} {r : List (List TE)} (h : RowE B w v r) (hb : Below w.heap.size w w') : RowE B w' v r := by
  obtain ⟨ts, h1, h2, h3⟩ := h
  exact ⟨ts, h1, h2.below hb, fun j t l ht hl => (h3 j t l ht hl).below hb⟩
theorem RowE.low {B B' : Nat} {w : World} {v : Value} {r : List (List TE)} (h : RowE B w v r) (hb : B' ≤ B) : RowE B' w v r := by
  obtain ⟨ts, h1, h2, h3⟩ := h
  exact ⟨ts, h1, h2.low hb, fun j t l ht hl => (h3 j t l ht hl).low hb⟩
theorem RowE.form {B : Nat} {w : World} {v : Value} {r : List (List TE)} (h : RowE B w v r) : ∃ A c, v = .slice A r.length c := by
  obtain ⟨ts, h1, h2, _⟩ := h
  obtain ⟨A, c, e⟩ := h2.form
  exact ⟨A, c, by rw [e, h1]⟩
theorem RowE.t {B : Nat} {w : World} {v : Value} {r : List (List TE)} (h : RowE B w v r) : RowT w v r := by
  obtain ⟨ts, h1, h2, h3⟩ := h
  obtain ⟨A, c, e, hc, hx⟩ := h2.sl
  refine ⟨A, c, by rw [e, h1], by omega, fun i l hl => ?_⟩
  have hi : i < ts.length := by rw [h1]; exact (List.getElem?_eq_some_iff.1 hl).1
  have q := flat_get (enc := eS) (sz := 1) (fun _ => rfl) ts i 0 hi (by omega)
  obtain ⟨b, o, hA, hcell⟩ := hx _ _ (q.trans rfl)
  exact ⟨b, o, hA, vS ts[i], by simpa using hcell, (h3 i _ l (List.getElem?_eq_getElem hi) hl).sl⟩
/-- the rows before i are made -/
structure EnI (n gE B : Nat) (m : List (List (List TE))) (i : Nat) (es : List SVt) (w : World) : Prop where
  len : es.length = i
  outer : Arr w gE 94 (es.map vS ++ List.replicate (n - i) (.slice none 0 0))
  row : ∀ (k : Nat) s r, es[k]? = some s → m[k]? = some r → RowE B w (vS s) r
theorem EnI.start {n gE B : Nat} {m : List (List (List TE))} {w : World} (h : Arr w gE 94 (List.replicate n (.slice none 0 0))) : EnI n gE B m 0 [] w := ⟨rfl, by simpa using h, fun k s r h => by simp at h⟩
theorem EnI.end_ {n gE B : Nat} {m : List (List (List TE))} {es : List SVt} {w : World} (h : EnI n gE B m n es w) (hm : m.length = n) : EntT w (.slice (some ⟨gE, 0, none⟩) n n) m := by
  refine ⟨some ⟨gE, 0, none⟩, n, by rw [hm], by omega, fun i r hr => ⟨gE, 0, rfl, ?_⟩⟩
  have hi : i < es.length := by rw [h.len, ← hm]; exact (List.getElem?_eq_some_iff.1 hr).1
  refine ⟨vS es[i], ?_, (h.row i _ r (List.getElem?_eq_getElem hi) hr).t⟩
  rw [Nat.zero_add, h.outer.cell, Nat.sub_self, List.replicate_zero, List.append_nil, List.getElem?_map, List.getElem?_eq_getElem hi]; rfl
/-- row i is under way: its first elements lie in s -/
structure EnJ (n gE : Nat) (Wi : World) (i : Nat) (es : List SVt) (r : List (List TE)) (s : SVt) (w : World) : Prop where
  outer : Arr w gE 94 (es.map vS ++ vS s :: List.replicate (n - (i + 1)) (.slice none 0 0))
  own : RowE Wi.heap.size w (vS s) r
  wr : Wr [gE] Wi w
theorem EnI.open_ {n gE B i : Nat} {m : List (List (List TE))} {es : List SVt} {w : World} (h : EnI n gE B m i es w) (hi : i < n) : EnJ n gE w i es [] (none, 0, 0) w := by
  refine ⟨?_, ⟨[], rfl, OwnA.nil _ _ _ _ _, fun j t l h => by simp at h⟩, Wr.refl _ _⟩
  have := h.outer
  rwa [show n - i = (n - (i + 1)) + 1 by omega, List.replicate_succ] at this
theorem EnJ.close {n gE B i : Nat} {m : List (List (List TE))} {es : List SVt} {Wi w : World} {r : List (List TE)} {s : SVt} (h : EnI n gE B m i es Wi) (k : EnJ n gE Wi i es r s w) (hr : m[i]? = some r) (hB : B ≤ Wi.heap.size) : EnI n gE B m (i + 1) (es ++ [s]) w := by
  refine ⟨by simp [h.len], ?_, fun k' s' r' hs hr' => ?_⟩
  · have := k.outer
    rw [List.map_append, List.append_assoc]
    exact this
  · rw [List.getElem?_append] at hs
    split at hs
    · exact (h.row k' s' r' hs hr').wr h.outer k.wr
    · next q =>
      have hl := (List.getElem?_eq_some_iff.1 hs).1
      simp at hl
      have e : k' = i := by have := h.len; omega
      subst e
      rw [h.len, Nat.sub_self] at hs
      simp at hs
      rw [hr] at hr'
      injection hr' with e2
      subst e2; subst hs
      exact k.own.low hB
theorem Wr.then_below {L : List Nat} {a b c : World} (h : Wr L a b) (k : Below a.heap.size b c) : Wr L a c :=
  ⟨k.os.trans h.os, k.tape.trans h.tape, k.output.trans h.output, Nat.le_trans h.size (by have := k.size; exact this), fun i h1 h2 => (k.block i h1).trans (h.block i h1 h2)⟩
theorem OwnA.apartT {α : Type} {e : TypeId} {sz : Nat} {enc : α → List Value} {B g : Nat} {w : World} {v : Value} {xs : List α} {t : TypeId} {cs : List Value} (h : OwnA e sz enc B w v xs) (hg : Arr w g t cs) (hne : e ≠ t) : v.ownBlock ≠ some g := fun hk => by
  obtain ⟨cs', fr, h1⟩ := h.typ g hk
  rw [hg] at h1
  injection h1 with h1
  injection h1 with _ h2 _
  exact hne h2.symm
theorem OwnA.apart2 {α β : Type} {e e2 : TypeId} {sz sz2 : Nat} {enc : α → List Value} {enc2 : β → List Value} {B B2 : Nat} {w : World} {v v2 : Value} {xs : List α} {ys : List β} (h : OwnA e sz enc B w v xs) (k : OwnA e2 sz2 enc2 B2 w v2 ys) (hne : e ≠ e2) : ∀ g, v.ownBlock = some g → v2.ownBlock ≠ some g := fun g h1 h2 => by
  obtain ⟨cs, fr, q1⟩ := h.typ g h1
  obtain ⟨cs', fr', q2⟩ := k.typ g h2
  rw [q1] at q2
  injection q2 with q2
  injection q2 with _ q3 _
  exact hne q3
theorem EnJ.next {n gE i : Nat} {Wi w6 wS : World} {es ts : List SVt} {r : List (List TE)} {s m : SVt} {v : Value} {l0 : List TE} (hi : es.length = i) (hts : ts.length = r.length)
    (hou : Arr w6 gE 94 (es.map vS ++ vS s :: List.replicate (n - (i + 1)) (.slice none 0 0))) (hwr : Wr [gE] Wi w6) (hgE : gE < Wi.heap.size)
    (hown : OwnA 95 1 eS Wi.heap.size w6 (vS s) ts) (hE : ∀ (j : Nat) t l, ts[j]? = some t → r[j]? = some l → OwnE Wi.heap.size w6 (vS t) l)
    (ho : OwnA 95 1 eS Wi.heap.size wS v (ts ++ [m])) (hm : OwnE Wi.heap.size wS (vS m) l0) (hk : Kpt Wi.heap.size w6 wS (vS s) v) :
    ∃ s', v = vS s' ∧ EnJ n gE Wi i es (r ++ [l0]) s' (wS.setCell ⟨gE, i, none⟩ v) := by
  obtain ⟨A, c, rfl⟩ := ho.form
  have ho' := hk.arr hou (hown.apartT hou (by decide))
  have hset := ho'.set i (.slice A (ts ++ [m]).length c)
  rw [List.set_append_right i _ (by simp [hi]), List.length_map, hi, Nat.sub_self, List.set_cons_zero] at hset
  have onl : Onl gE wS (wS.setCell ⟨gE, i, none⟩ (.slice A (ts ++ [m]).length c)) := (Onl.refl gE wS).setCell i _
  have hw : Wr [gE] wS (wS.setCell ⟨gE, i, none⟩ (.slice A (ts ++ [m]).length c)) := Wr.of_onl onl (List.mem_singleton.2 rfl)
  refine ⟨(A, (ts ++ [m]).length, c), rfl, hset, ⟨ts ++ [m], by simp [hts], ho.wr ho' (by decide) hw, fun j t l ht hl => ?_⟩, (hwr.then_below hk.bel).trans hw⟩
  rw [List.getElem?_append] at ht hl
  by_cases q : j < ts.length
  · rw [if_pos q] at ht
    rw [if_pos (by omega)] at hl
    have h1 := hE j t l ht hl
    have h2 : OwnE Wi.heap.size wS (vS t) l := h1.keepK fun g hg => hk.keep g (h1.lt g hg) (h1.apart2 hown (by decide) g hg)
    exact h2.wr ho' (by decide) hw
  · rw [if_neg q] at ht
    rw [if_neg (by omega)] at hl
    have hj : j - ts.length = 0 := by have := (List.getElem?_eq_some_iff.1 ht).1; simp at this; omega
    rw [hj] at ht
    rw [← hts, hj] at hl
    simp at ht hl
    subst ht; subst hl
    exact hm.wr ho' (by decide) hw
theorem kp_own {α β : Type} {e e2 : TypeId} {sz sz2 : Nat} {enc : α → List Value} {enc2 : β → List Value} {B B2 : Nat} {w0 : World} {v0 : Value} {xs : List α} {l : List β} {γ : Type} (f : γ → Value) (h : OwnA e sz enc B w0 v0 xs) (hne : e2 ≠ e) : KpΨ (fun m w => OwnA e2 sz2 enc2 B2 w (f m) l) v0 w0 := fun m w w' hb hm hk => by
  refine hm.keepK fun g hg => hk g (hm.lt g hg) fun q => ?_
  exact (hm.apart2 (h.below hb) hne g hg) q
end Go.Proofs.YtbkgpfalljgdcaaGreatDoor
