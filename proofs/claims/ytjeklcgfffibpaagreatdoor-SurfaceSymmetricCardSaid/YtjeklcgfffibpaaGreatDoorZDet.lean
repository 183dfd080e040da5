/- polymatrix.interpolated, where a coefficient is too great or a residue does not fit: the walk. -/
/- Sums of integers (plain). -/
/- Determinants: expansion along the first column; rows are functions (plain). -/
import Derived.Test.YtjeklcgfffibpaaGreatDoorZMpo
namespace Go.Proofs.YtjeklcgfffibpaaGreatDoor
open Go.RowKit
set_option linter.unusedVariables false

/-- coefficient i is within the limit -/
def SmI (m : List (List (List TE))) (deg i : Nat) : Prop := -1125899906842624 ≤ (itC m deg)[i]?.getD 0 ∧ (itC m deg)[i]?.getD 0 ≤ 1125899906842624
/-- it has the right residue in field j -/
def MtI (m : List (List (List TE))) (deg j i : Nat) : Prop := ofF (fldL[j]?.getD (0, 0)).1 ((itC m deg)[i]?.getD 0) = gn (resA (fldL[j]?.getD (0, 0)).1 (fldL[j]?.getD (0, 0)).2 m deg) i
set_option maxHeartbeats 8000000 in
set_option maxRecDepth 100000 in
theorem interpolated_no (v : Value) (m : List (List (List TE))) (deg K : Nat) (w : World) (h : EntT w v m) (hn : m.length ≤ 64) (hsq : ∀ r ∈ m, r.length = m.length) (hs : ∀ r ∈ m, ∀ l ∈ r, l.length ≤ 131072 ∧ ∀ t ∈ l, (-1125899906842624 ≤ t.2 ∧ t.2 ≤ 1125899906842624) ∧ t.1 < 131072) (hdeg : deg < 131072)
    (hbt : ∀ r ∈ m, 0 ≤ rowBits r ∧ rowBits r ≤ 75) (hwt : 0 ≤ wgtB m ∧ wgtB m ≤ 4800) (hT : Tb6 w) (hK0 : 1 ≤ K) (hK : K ≤ 16) (hcnt : cntF m = (K : Int)) (hno : ¬ ((∀ i, i < deg + 1 → SmI m deg i) ∧ ∀ j, j < K → ∀ i, i < deg + 1 → MtI m deg j i)) :
    Calls Tryz.prog 81 #[v, .int .i64 (deg : Int)] w fun e w' => e = .returned (.tuple #[.slice none 0 0, .bool false]) ∧ Below w.heap.size w w' := by
  have HWB := Lib.hid (weightBits_any v m w h hn (fun r hr => by rw [hsq r hr]; exact hn) (fun r hr l hl => ⟨(hs r hr l hl).1, fun t ht => ((hs r hr l hl).2 t ht).1⟩) hbt)
  have HFI := Lib.hid (fun W (hb : Below w.heap.size w W) => fields_any K W hK (hT.below hb))
  have HRE := Lib.hid (fun (j : Nat) (hj : j < K) (W : World) (hb : Below w.heap.size w W) => (show Calls Tryz.prog 95 #[.agg #[.int .u64 ((fldL[j]?.getD (0, 0)).1 : Nat), .int .u64 ((fldL[j]?.getD (0, 0)).2 : Nat)], v, .int .i64 (deg : Int)] W fun e w' => ∃ (g : Nat) (X : List Nat), e = .returned (.slice (some ⟨g, 0, none⟩) (deg + 1) (2 ^ lgN deg)) ∧ W.heap.size ≤ g ∧ Arr w' g 73 (uc X) ∧ X.length = 2 ^ lgN deg ∧ X.take (deg + 1) = resA (fldL[j]?.getD (0, 0)).1 (fldL[j]?.getD (0, 0)).2 m deg ∧ Below W.heap.size W w' from by
    have hj2 : j < fldL.length := by rw [fldL_len]; omega
    rw [List.getElem?_eq_getElem hj2]
    have hf := fldL_ok hj2
    exact fresidues_any _ _ deg v m W (h.below hb) hn hsq (fun r hr l hl => ⟨fun t ht => ⟨by have := ((hs r hr l hl).2 t ht).1; show t.2.natAbs < fldL[j].1; omega, ((hs r hr l hl).2 t ht).2⟩, (hs r hr l hl).1⟩) hdeg hf.1 hf.2.2.1 hf.2.2.2))
  have HNO := Lib.hid hno
  unfold cntF at hcnt
  have HCN := Lib.hid hcnt
  obtain ⟨A, c, rfl⟩ := h.form
  obtain ⟨n, hnn⟩ : ∃ n, n = m.length := ⟨_, rfl⟩
  rw [← hnn] at hn HWB HRE ⊢
  generalize wgtB m = W0 at *
  clear h hsq hs hbt hno hT hcnt hnn
  go_enter Tryz.func81, Tryz.ntmps81
  go_upto_region 2 with (go_at_call 93; refine HWB.out.mono ?_; rintro e w' ⟨rfl, hb⟩)
  rw [HCN.out]
  have HB := Lib.hid hb
  have HKL := Lib.hid (show (fldL.take K).length = K by rw [List.length_take, fldL_len]; omega)
  clear hb HCN HWB
  go_upto_region 3 with fail
  go_upto_region 4 with (go_at_call 94; refine (HFI.out _ HB.out).mono ?_; rintro e w2 ⟨vf, rfl, hof, hbf⟩; obtain ⟨Af, cf, hvf⟩ := hof.form; rw [HKL.out] at hvf; subst hvf)
  have HFS := Lib.hid hof.sl
  have HB2 := Lib.hid (HB.out.trans (hbf.mono HB.out.size))
  clear hof hbf HFI HB
  go_wp2_with fail
  go_loopg [7, 9, 10, 11, 12, 13, 14, 24] K (fun gk s7 s9 s10 s11 s12 s13 s14 s24 wr => ∃ (j : Nat) (v7 : Value), j ≤ K ∧ gk = K - j ∧ s24 = .int .i64 (j : Int) ∧ s7 = v7 ∧ ((j = 0 ∧ v7 = .slice none 0 0) ∨ (0 < j ∧ ∃ g : Nat, v7 = .slice (some ⟨g, 0, none⟩) (deg + 1) (deg + 1) ∧ w2.heap.size ≤ g ∧ Arr wr g 3 ((itC m deg).map (Value.int .i64)))) ∧ Below w2.heap.size w2 wr ∧ (∀ jx, jx < j → ∀ i, i < deg + 1 → MtI m deg jx i) ∧ (0 < j → ∀ i, i < deg + 1 → SmI m deg i))
  case atStart => exact ⟨0, _, by omega, rfl, rfl, rfl, .inl ⟨rfl, rfl⟩, Below.refl _ _, fun jx h => absurd h (by omega), fun h => absurd h (by omega)⟩
  case round =>
    obtain ⟨j, v7, hj, rfl, rfl, h77, hor, hb, hmt, hsm⟩ := hrel
    have HMT := Lib.hid hmt
    have HSM := Lib.hid hsm
    clear hmt hsm
    have h78 := h77.symm
    clear h77
    subst h78
    obtain ⟨wo, rfl⟩ : ∃ wo : World, wo = wr := ⟨_, rfl⟩
    by_cases hjt : j < K
    · have z1 : (j : Int) < (K : Int) := by omega
      have hjl : j < (fldL.take K).length := by rw [HKL.out]; exact hjt
      have hj2 : j < fldL.length := by rw [fldL_len]; omega
      obtain ⟨b3, o3, hA, hnm, q0, q1⟩ := HFS.out.fat hjl
      clear hnm
      subst hA
      have hPJ : (fldL.take K)[j] = fldL[j]?.getD (0, 0) := by rw [List.getElem_take, List.getElem?_eq_getElem hj2]; rfl
      have hf := fldL_ok hj2
      rw [show fldL[j] = fldL[j]?.getD (0, 0) by rw [List.getElem?_eq_getElem hj2]; rfl] at hf
      have HREJ := Lib.hid (HRE.out j hjt)
      have HMJ := Lib.hid (fun i (h : ofF (fldL[j]?.getD (0, 0)).1 ((itC m deg)[i]?.getD 0) = gn (resA (fldL[j]?.getD (0, 0)).1 (fldL[j]?.getD (0, 0)).2 m deg) i) => (show MtI m deg j i from h))
      have HCJ := Lib.hid (fun (e : j = 0) => (show itC m deg = (resA (fldL[j]?.getD (0, 0)).1 (fldL[j]?.getD (0, 0)).2 m deg).map (liftF (fldL[j]?.getD (0, 0)).1) by subst e; rfl))
      rw [hPJ] at q0 q1
      clear hPJ hjl hj2
      generalize fldL[j]?.getD (0, 0) = pj at *
      obtain ⟨p, rt⟩ := pj
      simp only at q0 q1 hf HREJ HMJ HCJ
      have c1 := (hb.cell (block_lt_of_cell q0)).trans q0
      have c2 := (hb.cell (block_lt_of_cell q1)).trans q1
      have HB3 := Lib.hid (hb.alloc hb.size (.cells #[.int .u64 (p : Nat), .int .u64 (rt : Nat)] 142))
      have HTB := Lib.hid (show Arr (wo.alloc (.cells #[.int .u64 (p : Nat), .int .u64 (rt : Nat)] 142)) wo.heap.size 142 [.int .u64 (p : Int), .int .u64 (rt : Int)] from Arr.new wo 142 [_, _])
      have HOR := Lib.hid (show (j = 0 ∧ v7 = .slice none 0 0) ∨ (0 < j ∧ ∃ g : Nat, v7 = .slice (some ⟨g, 0, none⟩) (deg + 1) (deg + 1) ∧ w2.heap.size ≤ g ∧ Arr (wo.alloc (.cells #[.int .u64 (p : Nat), .int .u64 (rt : Nat)] 142)) g 3 ((itC m deg).map (Value.int .i64))) from by
        rcases hor with h0 | ⟨h0, g, h1, hg, ha⟩
        · exact .inl h0
        · exact .inr ⟨h0, g, h1, hg, ha.alloc _⟩)
      clear hb hor q0 q1
      go_upto_region 6 with fail
      generalize wo.alloc (.cells #[.int .u64 (p : Nat), .int .u64 (rt : Nat)] 142) = w3 at *
      generalize wo.heap.size = tb at *
      clear c1 c2
      have y0 := HTB.out.cell 0
      have y1 := HTB.out.cell 1
      go_upto_region 7 with (go_at_call 95; refine (HREJ.out _ (HB2.out.trans (HB3.out.mono HB2.out.size))).mono ?_; rintro e w4 ⟨gr_, X, rfl, hg, hax, hxl, hxt, hbx⟩)
      have HTB4 := Lib.hid (HTB.out.below hbx HTB.out.lt)
      have HB4 := Lib.hid (HB3.out.trans (hbx.mono HB3.out.size))
      have HAX := Lib.hid hax
      have HXL := Lib.hid (show X.length = 2 ^ lgN deg ∧ X.take (deg + 1) = resA p rt m deg from ⟨hxl, hxt⟩)
      have HOR4 := Lib.hid (show (j = 0 ∧ v7 = .slice none 0 0) ∨ (0 < j ∧ ∃ g : Nat, v7 = .slice (some ⟨g, 0, none⟩) (deg + 1) (deg + 1) ∧ w2.heap.size ≤ g ∧ Arr w4 g 3 ((itC m deg).map (Value.int .i64))) from by
        rcases HOR.out with h0 | ⟨h0, g, h1, hg, ha⟩
        · exact .inl h0
        · exact .inr ⟨h0, g, h1, hg, ha.below hbx ha.lt⟩)
      clear HOR HTB HB3 hax hxl hxt hbx hg HREJ HRE y0 y1
      obtain ⟨B0, hB0⟩ : ∃ b : Bool, b = decide (j = 0) := ⟨_, rfl⟩
      have HB0 := Lib.hid hB0
      clear hB0
      go_cut [24, 33] from 24 to 79 (fun s24 s33 wx => s24 = .int .i64 (j : Int) ∧ s33 = .bool B0 ∧ wx = w4)
      case first =>
        rcases HOR4.out with ⟨h0, h1⟩ | ⟨h0, g, h1, hg, ha⟩
        · subst h1
          have HT0 := Lib.hid (show B0 = true by rw [HB0.out]; simpa using h0)
          have hnil := fun W => eql_nil_0 W
          clear h0 HOR4
          go_wp2_with fail
          go_meet
          case rel => exact ⟨rfl, by rw [HT0.out], rfl⟩
        · subst h1
          have HT0 := Lib.hid (show B0 = false by rw [HB0.out]; simp; omega)
          have hnil := fun W => eql_nil_1 ⟨g, 0, none⟩ (deg + 1) (deg + 1) W
          clear h0 HOR4 ha hg
          go_wp2_with fail
          go_meet
          case rel => exact ⟨rfl, by rw [HT0.out], rfl⟩
      case rest =>
        obtain ⟨rfl, rfl, hwc⟩ := hcut
        rw [hwc]
        clear hwc
        go_upto_if 33 with fail
        go_cut [7, 24] from 24 to 79 (fun s7 s24 wx => s24 = .int .i64 (j : Int) ∧ ∃ gc : Nat, s7 = .slice (some ⟨gc, 0, none⟩) (deg + 1) (deg + 1) ∧ w2.heap.size ≤ gc ∧ Arr wx gc 3 ((itC m deg).map (Value.int .i64)) ∧ Arr wx gr_ 73 (uc X) ∧ Arr wx tb 142 [.int .u64 (p : Int), .int .u64 (rt : Int)] ∧ Below w2.heap.size w2 wx ∧ ∀ i, i < deg + 1 → SmI m deg i)
        case first =>
          rcases HOR4.out with ⟨h0, h1⟩ | ⟨h0, g, h1, hg, ha⟩
          · have hT0 : B0 = true := by rw [HB0.out]; simpa using h0
            subst h1
            subst hT0
            have HIC := Lib.hid (HCJ.out h0)
            have hmk := fun W => mk_i64 (deg + 1) (by omega) W
            rw [show (((deg + 1 : Nat)) : Int) = (deg : Int) + 1 by omega] at hmk
            have hAl := (Below.refl w4.heap.size w4).alloc (Nat.le_refl _) (.cells (rowOf (List.replicate (deg + 1) (.int .i64 0))) 3)
            have HA5 := Lib.hid (HAX.out.below hAl HAX.out.lt)
            have HT5 := Lib.hid (HTB4.out.below hAl HTB4.out.lt)
            have HB5 := Lib.hid (HB4.out.trans (hAl.mono HB4.out.size))
            have HN5 := Lib.hid (show gr_ ≠ w4.heap.size ∧ tb ≠ w4.heap.size ∧ w2.heap.size ≤ w4.heap.size from ⟨by have := HAX.out.lt; omega, by have := HTB4.out.lt; omega, HB4.out.size⟩)
            have HC5 := Lib.hid (show Arr (w4.alloc (.cells (rowOf (List.replicate (deg + 1) (.int .i64 0))) 3)) w4.heap.size 3 (((itC m deg).take 0 ++ List.replicate (deg + 1 - 0) 0).map (Value.int .i64)) by
              have h1 := Arr.new w4 3 (List.replicate (deg + 1) (.int .i64 0))
              simpa using h1)
            clear hAl h0
            go_upto_region 9 with fail
            generalize w4.alloc (.cells (rowOf (List.replicate (deg + 1) (.int .i64 0))) 3) = w5 at *
            generalize w4.heap.size = gc at *
            clear hmk HAX HTB4 HB4 HOR4
            go_wp2_with fail
            go_loopg [11, 12, 39] (deg + 1) (fun gk s11 s12 s39 wr => ∃ iz : Nat, iz ≤ deg + 1 ∧ gk = deg + 1 - iz ∧ s39 = .int .i64 (iz : Int) ∧ Arr wr gc 3 (((itC m deg).take iz ++ List.replicate (deg + 1 - iz) 0).map (Value.int .i64)) ∧ Wr [gc] w5 wr ∧ ∀ i, i < iz → SmI m deg i)
            case atStart => exact ⟨0, by omega, rfl, rfl, HC5.out, Wr.refl _ _, fun i h => absurd h (by omega)⟩
            case round =>
              clear HC5
              obtain ⟨iz, hiz, rfl, rfl, ac, ho, hsz⟩ := hrel
              have HSZ := Lib.hid hsz
              clear hsz
              obtain ⟨wq, rfl⟩ : ∃ wq : World, wq = wr := ⟨_, rfl⟩
              have hA := HA5.out.wr ho (fun e => HN5.out.1 (List.mem_singleton.1 e))
              have hTq := HT5.out.wr ho (fun e => HN5.out.2.1 (List.mem_singleton.1 e))
              have hBq := HB5.out.trans (ho.below HB5.out.size (fun x hx => by rw [List.mem_singleton.1 hx]; exact HN5.out.2.2))
              by_cases hit : iz < deg + 1
              · have z2 : (iz : Int) < (deg : Int) + 1 := by omega
                have hcl : iz < (itC m deg).length := by rw [itC_length]; exact hit
                have HSI := Lib.hid (fun (h : -1125899906842624 ≤ (itC m deg)[iz] ∧ (itC m deg)[iz] ≤ 1125899906842624) => (show SmI m deg iz from by unfold SmI; rw [List.getElem?_eq_getElem hcl]; exact h))
                have HBE := Lib.hid (HB2.out.trans ((hBq).mono HB2.out.size))
                have c1 := (hA.cell iz).trans (uc_get (by rw [HXL.out.1]; have := lgN_gt deg; omega))
                have hxr : gn X iz = gn (resA p rt m deg) iz := by
                  rw [← HXL.out.2]; unfold gn; rw [List.getElem?_take, if_pos hit]
                have hlf : (itC m deg)[iz] = liftF p (gn X iz) := by
                  have hrl : iz < (resA p rt m deg).length := by rw [resA_length]; exact hit
                  have h1 : (itC m deg)[iz]? = ((resA p rt m deg).map (liftF p))[iz]? := by rw [HIC.out]
                  rw [List.getElem?_eq_getElem hcl, List.getElem?_map, List.getElem?_eq_getElem hrl, Option.map_some] at h1
                  injection h1 with h1
                  rw [h1, hxr]; unfold gn; rw [List.getElem?_eq_getElem hrl]; rfl
                have hxp : gn X iz < p := by rw [hxr]; exact resA_lt (show 0 < p by have := hf.1; omega) _ _ _
                have HLF := Lib.hid (fun W => flift_any p rt (gn X iz) W hf.2.2.1 hxp)
                rw [← hlf] at HLF
                have y0 := hTq.cell 0
                have y1 := hTq.cell 1
                have hset : ((((itC m deg).take iz ++ List.replicate (deg + 1 - iz) 0).map (Value.int .i64)).set iz (.int .i64 (itC m deg)[iz])) = ((itC m deg).take (iz + 1) ++ List.replicate (deg + 1 - (iz + 1)) 0).map (Value.int .i64) := by
                  rw [← List.map_set, List.set_append_right iz _ (by rw [List.length_take]; omega), List.length_take, Nat.min_eq_left (by omega), Nat.sub_self, show deg + 1 - iz = deg + 1 - (iz + 1) + 1 by omega, List.replicate_succ, List.set_cons_zero, List.take_succ_eq_append_getElem hcl, List.append_assoc, List.singleton_append]
                have HCF := Lib.hid (fun (w' : World) (hb : Below wq.heap.size wq w') => (show w'.cell? ⟨gc, iz, none⟩ = some (.int .i64 0) ∧ w'.frozen? ⟨gc, iz, none⟩ = false from
                  ⟨((ac.below hb ac.lt).cell iz).trans (by rw [List.getElem?_map, List.getElem?_append_right (by rw [List.length_take]; omega), List.length_take, Nat.min_eq_left (by omega), Nat.sub_self, List.getElem?_replicate, if_pos (by omega)]; rfl), (ac.below hb ac.lt).frozen iz⟩))
                have HNX := Lib.hid (fun (w' : World) (hb : Below wq.heap.size wq w') => (show Arr (w'.setCell ⟨gc, iz, none⟩ (.int .i64 (itC m deg)[iz])) gc 3 (((itC m deg).take (iz + 1) ++ List.replicate (deg + 1 - (iz + 1)) 0).map (Value.int .i64)) ∧ Wr [gc] w5 (w'.setCell ⟨gc, iz, none⟩ (.int .i64 (itC m deg)[iz])) from by
                  have h1 := (ac.below hb ac.lt).set iz (.int .i64 (itC m deg)[iz])
                  rw [hset] at h1
                  exact ⟨h1, (ho.trans (Wr.of_below hb)).setCell (List.mem_singleton.2 rfl) iz _⟩))
                clear hset hlf hxr
                generalize (itC m deg)[iz] = cv at *
                generalize gn X iz = xv at *
                have HBS := Lib.hid (fun (w' : World) (hb : Below wq.heap.size wq w') => (show Below w.heap.size w (w'.setCell ⟨gc, iz, none⟩ (.int .i64 cv)) from (HBE.out.trans (hb.mono HBE.out.size)).setCell (by have := HB2.out.size; have := HN5.out.2.2; show w.heap.size ≤ gc; omega) _))
                clear hA hTq hBq ac ho hcl
                by_cases z8 : (1125899906842624 : Int) < cv
                · go_wp2_with (go_at_call 96; refine (HLF.out _).mono ?_; rintro e w' ⟨rfl, hbm⟩; obtain ⟨c8, c9⟩ := HCF.out w' hbm; have HBX := Lib.hid (HBS.out w' hbm))
                  go_ret2
                  exact ⟨rfl, HBX.out⟩
                · by_cases z9 : cv < -1125899906842624
                  · go_wp2_with (go_at_call 96; refine (HLF.out _).mono ?_; rintro e w' ⟨rfl, hbm⟩; obtain ⟨c8, c9⟩ := HCF.out w' hbm; have HBX := Lib.hid (HBS.out w' hbm))
                    go_ret2
                    exact ⟨rfl, HBX.out⟩
                  · have HSX := Lib.hid (HSI.out (by omega))
                    clear HSI
                    go_wp2_with (go_at_call 96; refine (HLF.out _).mono ?_; rintro e w' ⟨rfl, hbm⟩; obtain ⟨c8, c9⟩ := HCF.out w' hbm; have HBX := Lib.hid (HBS.out w' hbm))
                    have HNY := Lib.hid (HNX.out _ hbm)
                    go_roundg (deg + 1 - (iz + 1))
                    case measure => omega
                    case rel => exact ⟨iz + 1, by omega, rfl, by go_num, HNY.out.1, HNY.out.2, fun i hi => by
                      rcases Nat.lt_or_ge i iz with q | q
                      · exact HSZ.out i q
                      · rw [show i = iz by omega]; exact HSX.out⟩
              · have z2 : ¬ ((iz : Int) < (deg : Int) + 1) := by omega
                have e9 : iz = deg + 1 := by omega
                rw [e9, Nat.sub_self, List.replicate_zero, List.append_nil, ← itC_length m deg, List.take_length] at ac
                have HAC := Lib.hid ac
                have HAQ := Lib.hid hA
                have HTQ := Lib.hid hTq
                have HBQ := Lib.hid hBq
                have HE9 := Lib.hid e9
                clear ac hA hTq hBq ho e9
                go_wp2_with fail
                go_meet
                case rel => exact ⟨rfl, gc, rfl, HN5.out.2.2, HAC.out, HAQ.out, HTQ.out, HBQ.out, fun i hi => HSZ.out i (by have := HE9.out; omega)⟩
          · have hT0 : B0 = false := by rw [HB0.out]; simp; omega
            subst h1
            subst hT0
            have HA := Lib.hid ha
            have HG := Lib.hid hg
            have HS0 := Lib.hid (HSM.out h0)
            clear ha hg HOR4
            go_wp2_with fail
            go_meet
            case rel => exact ⟨rfl, g, rfl, HG.out, HA.out, HAX.out, HTB4.out, HB4.out, HS0.out⟩
        case rest =>
          obtain ⟨rfl, gc, rfl, hgc, hac, hax, htb, hb, hsa⟩ := hcut
          have HSA := Lib.hid hsa
          clear hsa
          have HAC := Lib.hid hac
          have HAX2 := Lib.hid hax
          have HTB := Lib.hid htb
          have HGC := Lib.hid hgc
          have HBC := Lib.hid hb
          clear hac hax htb hgc hb HAX HTB4 HB4 HOR4 HCJ
          go_wp2_with fail
          go_loopg [13, 14, 65] (deg + 1) (fun gk s13 s14 s65 wr => ∃ iz : Nat, iz ≤ deg + 1 ∧ gk = deg + 1 - iz ∧ s65 = .int .i64 (iz : Int) ∧ Below wc.heap.size wc wr ∧ ∀ i, i < iz → MtI m deg j i)
          case atStart => exact ⟨0, by omega, rfl, rfl, Below.refl _ _, fun i h => absurd h (by omega)⟩
          case round =>
            obtain ⟨iz, hiz, rfl, rfl, hb, hmz⟩ := hrel
            have HMZ := Lib.hid hmz
            clear hmz
            obtain ⟨wq, rfl⟩ : ∃ wq : World, wq = wr := ⟨_, rfl⟩
            by_cases hit : iz < deg + 1
            · have z2 : (iz : Int) < (deg : Int) + 1 := by omega
              have hcl : iz < (itC m deg).length := by rw [itC_length]; exact hit
              have hcv : -1125899906842624 ≤ (itC m deg)[iz] ∧ (itC m deg)[iz] ≤ 1125899906842624 := by
                have h1 := HSA.out iz hit
                unfold SmI at h1
                rw [List.getElem?_eq_getElem hcl] at h1
                exact h1
              have HMI := Lib.hid (fun (h : ofF p (itC m deg)[iz] = gn X iz) => HMJ.out iz (by
                rw [List.getElem?_eq_getElem hcl, Option.getD_some, h, ← HXL.out.2]
                unfold gn
                rw [List.getElem?_take, if_pos hit]))
              have hax2 := HAX2.out.below hb HAX2.out.lt
              have c1 := (hax2.cell iz).trans (uc_get (by rw [HXL.out.1]; have := lgN_gt deg; omega))
              have hac2 := HAC.out.below hb HAC.out.lt
              have HCC := Lib.hid (fun W (hb : Below wq.heap.size wq W) => (((hac2.below hb hac2.lt).cell iz).trans (by rw [List.getElem?_map, List.getElem?_eq_getElem hcl]; rfl) : W.cell? ⟨gc, iz, none⟩ = some (.int .i64 (itC m deg)[iz])))
              have HTB0 := HTB
              clear HTB
              have HTB := Lib.hid (HTB0.out.below hb HTB0.out.lt)
              have HOF := Lib.hid (fun W => fof_any p rt (itC m deg)[iz] W hf.2.2.1 (by have := hf.2.1; omega))
              have HZ := Lib.hid z2
              have HBQ := Lib.hid hb
              generalize (itC m deg)[iz] = cv at *
              generalize ofF p cv = yv at *
              generalize gn X iz = xv at *
              obtain ⟨bq, hbq⟩ : ∃ bq : Bool, bq = (((yv : Nat) : Int) != (xv : Int)) := ⟨_, rfl⟩
              have HNE := Lib.hid hbq.symm
              have HBQ2 := Lib.hid hbq
              clear hbq
              clear hb hax2 hac2 hcl hcv
              go_upto_region 19 with fail
              clear c1
              refine wp_region_phy (fun a b => Below a.heap.size a b) (fun h k => h.trans (k.mono h.size)) ((Below.refl _ _).drew) (by kernel_rfl) (by kernel_rfl) (by kernel_rfl) (by kernel_rfl) (phiT (fun i => ([some (.agg #[.int .u64 (p : Int), .int .u64 (rt : Int)]), some (.slice (some ⟨gc, 0, none⟩) (deg + 1) (deg + 1)), some (.int .i64 (iz : Int)), some (.pointer (some ⟨gc, iz, none⟩)), some (.int .i64 cv), some (.int .u64 ((yv : Nat) : Int)), some (.int .u64 ((xv : Nat) : Int)), some (.bool bq)] : List (Option Value)).getD i none) (fun i v w => True)) (fun i v w w' h hb => ?_) ⟨?_, ?_, ?_, ?_, ?_, ?_, ?_, ?_, trivial⟩ ?_
              · unfold phiT at h ⊢
                split
                · next u hu => rw [hu] at h; exact h
                · next hu =>
                  rw [hu] at h
                  exact True.intro
              · intro x w1 bA hT hdep hold hb
                refine .inl ⟨trivial, ?_⟩
                have e9 : bA.tmps[9]?.getD undef = .pointer (some ⟨tb, 0, none⟩) := hb 9
                have cc0 := (HTB.out.below hT HTB.out.lt).cell 0
                have cc1 := (HTB.out.below hT HTB.out.lt).cell 1
                refine phx_run (.agg #[.int .u64 (p : Int), .int .u64 (rt : Int)]) ?_ (Below.refl _ _) rfl
                clear hb hdep hold
                go_simp
              · intro x w1 bA hT hdep hold hb
                refine .inl ⟨trivial, ?_⟩
                have e7 : bA.tmps[7]?.getD undef = .slice (some ⟨gc, 0, none⟩) (deg + 1) (deg + 1) := hb 7
                refine phx_run (.slice (some ⟨gc, 0, none⟩) (deg + 1) (deg + 1)) ?_ (Below.refl _ _) rfl
                clear hb hdep hold
                go_simp
              · intro x w1 bA hT hdep hold hb
                refine .inl ⟨trivial, ?_⟩
                have e13 : bA.tmps[13]?.getD undef = .int .i64 (iz : Int) := hb 13
                refine phx_run (.int .i64 (iz : Int)) ?_ (Below.refl _ _) rfl
                clear hb hdep hold
                go_simp
              · intro x w1 bA hT hdep hold hb
                refine .inl ⟨trivial, ?_⟩
                have e71 : bA.tmps[71]?.getD undef = .slice (some ⟨gc, 0, none⟩) (deg + 1) (deg + 1) := (hb 71).trans (hdep 1 (by decide))
                have e72 : bA.tmps[72]?.getD undef = .int .i64 (iz : Int) := (hb 72).trans (hdep 2 (by decide))
                have zz := HZ.out
                refine phx_run (.pointer (some ⟨gc, iz, none⟩)) ?_ (Below.refl _ _) rfl
                clear hb hdep hold
                go_simp
              · intro x w1 bA hT hdep hold hb
                refine .inl ⟨trivial, ?_⟩
                have e73 : bA.tmps[73]?.getD undef = .pointer (some ⟨gc, iz, none⟩) := (hb 73).trans (hdep 3 (by decide))
                have cc := HCC.out w1 hT
                refine phx_run (.int .i64 cv) ?_ (Below.refl _ _) rfl
                clear hb hdep hold
                go_simp
              · intro x w1 bA hT hdep hold hb
                refine .inl ⟨trivial, ?_⟩
                have e70 : bA.tmps[70]?.getD undef = .agg #[.int .u64 (p : Int), .int .u64 (rt : Int)] := (hb 70).trans (hdep 0 (by decide))
                have e74 : bA.tmps[74]?.getD undef = .int .i64 cv := (hb 74).trans (hdep 4 (by decide))
                refine phx_call ?_ ((HOF.out w1).mono fun e w' h => ⟨_, h.1, h.2, rfl⟩)
                clear hb hdep hold
                go_simp
              · intro x w1 bA hT hdep hold hb
                refine .inl ⟨trivial, ?_⟩
                have e14 : bA.tmps[14]?.getD undef = .int .u64 ((xv : Nat) : Int) := hb 14
                refine phx_run (.int .u64 ((xv : Nat) : Int)) ?_ (Below.refl _ _) rfl
                clear hb hdep hold
                go_simp
              · intro x w1 bA hT hdep hold hb
                refine .inl ⟨trivial, ?_⟩
                have e75 : bA.tmps[75]?.getD undef = .int .u64 ((yv : Nat) : Int) := (hb 75).trans (hdep 5 (by decide))
                have e76 : bA.tmps[76]?.getD undef = .int .u64 ((xv : Nat) : Int) := (hb 76).trans (hdep 6 (by decide))
                have zn := HNE.out
                refine phx_run (.bool bq) ?_ (Below.refl _ _) rfl
                clear hb hdep hold
                go_simp
              intro x w1 hT hall
              have x0e : x 0 = .agg #[.int .u64 (p : Int), .int .u64 (rt : Int)] := hall 0 (by decide)
              have x1e : x 1 = .slice (some ⟨gc, 0, none⟩) (deg + 1) (deg + 1) := hall 1 (by decide)
              have x2e : x 2 = .int .i64 (iz : Int) := hall 2 (by decide)
              have x3e : x 3 = .pointer (some ⟨gc, iz, none⟩) := hall 3 (by decide)
              have x4e : x 4 = .int .i64 cv := hall 4 (by decide)
              have x5e : x 5 = .int .u64 ((yv : Nat) : Int) := hall 5 (by decide)
              have x6e : x 6 = .int .u64 ((xv : Nat) : Int) := hall 6 (by decide)
              have x7e : x 7 = .bool bq := hall 7 (by decide)
              simp only [putAll, dstOf, Act.put, List.map_cons, List.map_nil, List.setIfInBounds_toArray, List.set_cons_succ, List.set_cons_zero, Nat.reduceAdd, x0e, x1e, x2e, x3e, x4e, x5e, x6e, x7e]
              clear x0e x1e x2e x3e x4e x5e x6e x7e hall
              have HBR := Lib.hid (HBQ.out.trans (hT.mono HBQ.out.size))
              clear hT HCC HOF
              cases bq with
              | true =>
                go_wp2_with fail
                go_ret2
                exact ⟨rfl, HB2.out.trans ((HBC.out.trans (HBR.out.mono HBC.out.size)).mono HB2.out.size)⟩
              | false =>
                have HMQ := Lib.hid (HMI.out (by have := HBQ2.out; simp at this; omega))
                clear HMI
                go_wp2_with fail
                go_roundg (deg + 1 - (iz + 1))
                case measure => omega
                case rel => exact ⟨iz + 1, by omega, rfl, by go_num, HBR.out, fun i hi => by
                  rcases Nat.lt_or_ge i iz with q | q
                  · exact HMZ.out i q
                  · rw [show i = iz by omega]; exact HMQ.out⟩
            · have z2 : ¬ ((iz : Int) < (deg : Int) + 1) := by omega
              have HA := Lib.hid (HAC.out.below hb HAC.out.lt)
              have HB := Lib.hid (HBC.out.trans (hb.mono HBC.out.size))
              clear hb
              go_wp2_with fail
              go_roundg (K - (j + 1))
              case measure => omega
              case rel => exact ⟨j + 1, _, by omega, rfl, by go_num, rfl, .inr ⟨by omega, gc, rfl, HGC.out, HA.out⟩, HB.out, fun jx hjx => by
                rcases Nat.lt_or_ge jx j with q | q
                · exact HMT.out jx q
                · rw [show jx = j by omega]; exact fun i hi => HMZ.out i (by omega), fun _ => HSA.out⟩
    · have z1 : ¬ ((j : Int) < (K : Int)) := by omega
      rcases hor with ⟨h0, h1⟩ | ⟨h0, g, h1, hg, ha⟩
      · omega
      · exact absurd ⟨HSM.out h0, fun jx hjx => HMT.out jx (by omega)⟩ HNO.out
end Go.Proofs.YtjeklcgfffibpaaGreatDoor

namespace Go.Proofs.YtjeklcgfffibpaaGreatDoor
set_option linter.unusedVariables false

/-- a sum -/
def sumI : Nat → (Nat → Int) → Int
  | 0, _ => 0
  | c + 1, f => sumI c f + f c
theorem sumI_congr {C : Nat} {f g : Nat → Int} (h : ∀ l, l < C → f l = g l) : sumI C f = sumI C g := by
  induction C with
  | zero => rfl
  | succ c ih => rw [sumI, sumI, ih (fun l hl => h l (by omega)), h c (by omega)]
theorem sumI_one {C j : Nat} {f g : Nat → Int} (hj : j < C) (h : ∀ l, l < C → l ≠ j → f l = g l) : sumI C f = sumI C g + (f j - g j) := by
  induction C with
  | zero => omega
  | succ c ih =>
    rw [sumI, sumI]
    by_cases e : j = c
    · subst e
      rw [sumI_congr (f := f) (g := g) (fun l hl => h l (by omega) (by omega))]; omega
    · rw [ih (by omega) (fun l hl hne => h l (by omega) hne), h c (by omega) (fun q => e q.symm)]; omega
theorem sumI_two {C j k : Nat} {f g : Nat → Int} (hj : j < C) (hk : k < C) (hjk : j ≠ k) (h : ∀ l, l < C → l ≠ j → l ≠ k → f l = g l) : sumI C f = sumI C g + (f j - g j) + (f k - g k) := by
  have h1 := sumI_one (f := f) (g := fun l => if l = k then f k else g l) hj (fun l hl hne => by
    show f l = if l = k then f k else g l
    by_cases e : l = k
    · rw [if_pos e, e]
    · rw [if_neg e]; exact h l hl hne e)
  have h2 := sumI_one (f := fun l => if l = k then f k else g l) (g := g) hk (fun l hl hne => by
    show (if l = k then f k else g l) = g l
    rw [if_neg hne])
  simp only [if_neg hjk, if_pos] at h1 h2
  rw [h1, h2]; omega
theorem sumI_mod {m : Int} {C : Nat} {f g : Nat → Int} (h : ∀ l, l < C → m ∣ f l - g l) : m ∣ sumI C f - sumI C g := by
  induction C with
  | zero => simp [sumI]
  | succ c ih =>
    rw [sumI, sumI, show sumI c f + f c - (sumI c g + g c) = (sumI c f - sumI c g) + (f c - g c) by omega]
    exact Int.dvd_add (ih (fun l hl => h l (by omega))) (h c (by omega))
theorem sumI_sub {C : Nat} (f g : Nat → Int) (b : Int) : sumI C (fun l => f l - b * g l) = sumI C f - b * sumI C g := by
  induction C with
  | zero => simp [sumI]
  | succ c ih => simp only [sumI]; rw [ih, Int.mul_add]; omega
theorem sumI_mul {C : Nat} (f : Nat → Int) (b : Int) : sumI C (fun l => b * f l) = b * sumI C f := by
  induction C with
  | zero => simp [sumI]
  | succ c ih => simp only [sumI]; rw [ih, Int.mul_add]
theorem sumI_zero {C : Nat} : sumI C (fun _ => 0) = 0 := by
  induction C with
  | zero => rfl
  | succ c ih => rw [sumI, ih]; rfl
theorem sumI_single {C j : Nat} {f : Nat → Int} (hj : j < C) (h : ∀ l, l < C → l ≠ j → f l = 0) : sumI C f = f j := by
  have := sumI_one (f := f) (g := fun _ => 0) hj h
  rw [sumI_zero] at this
  omega
theorem sumI_mulr {C : Nat} (f : Nat → Int) (b : Int) : sumI C (fun l => f l * b) = sumI C f * b := by
  induction C with
  | zero => simp [sumI]
  | succ c ih => simp only [sumI]; rw [ih, Int.add_mul]
theorem sumI_plus {C : Nat} (f g : Nat → Int) : sumI C (fun l => f l + g l) = sumI C f + sumI C g := by
  induction C with
  | zero => simp [sumI]
  | succ c ih => simp only [sumI]; rw [ih]; omega
theorem sumI_swap (n r : Nat) (F : Nat → Nat → Int) : sumI n (fun i => sumI r (fun k => F i k)) = sumI r (fun k => sumI n (fun i => F i k)) := by
  induction n with
  | zero => simp only [sumI]; rw [sumI_zero]
  | succ n ih => simp only [sumI]; rw [ih, sumI_plus]
end Go.Proofs.YtjeklcgfffibpaaGreatDoor

namespace Go.Proofs.YtjeklcgfffibpaaGreatDoor
set_option linter.unusedVariables false

def skp (k l : Nat) : Nat := if l < k then l else l + 1
def sgn (k : Nat) : Int := if k % 2 = 0 then 1 else -1
theorem sgn_succ (k : Nat) : sgn (k + 1) = - sgn k := by
  unfold sgn
  by_cases h : k % 2 = 0
  · rw [if_pos h, if_neg (by omega)]
  · rw [if_neg h, if_pos (by omega)]; rfl
/-- the determinant of the first rows of f, as many as there are columns -/
def dt : List Nat → (Nat → Nat → Int) → Int
  | [], _ => 1
  | j :: J, f => sumI (J.length + 1) (fun k => sgn k * f k j * dt J (fun l => f (skp k l)))
/-- row k becomes u -/
def fup (f : Nat → Nat → Int) (k : Nat) (u : Nat → Int) : Nat → Nat → Int := fun l => if l = k then u else f l
theorem dt_congr : ∀ {J : List Nat} {f g : Nat → Nat → Int}, (∀ l, l < J.length → ∀ j ∈ J, f l j = g l j) → dt J f = dt J g
  | [], f, g, _ => rfl
  | j :: J, f, g, h => by
    rw [dt, dt]
    refine sumI_congr (fun k hk => ?_)
    rw [h k (by simpa using hk) j (by simp), dt_congr (J := J) (f := fun l => f (skp k l)) (g := fun l => g (skp k l)) (fun l hl i hi => h (skp k l) (by unfold skp; simp only [List.length_cons]; split <;> omega) i (by simp [hi]))]
theorem fup_skp_same (f : Nat → Nat → Int) (k : Nat) (u : Nat → Int) : (fun l => fup f k u (skp k l)) = fun l => f (skp k l) := by
  funext l
  unfold fup
  rw [if_neg (by unfold skp; split <;> omega)]
/-- where row k has gone when row l is struck -/
def usk (l k : Nat) : Nat := if k < l then k else k - 1
theorem fup_skp_ne (f : Nat → Nat → Int) {k l : Nat} (h : l ≠ k) (u : Nat → Int) : (fun i => fup f k u (skp l i)) = fup (fun i => f (skp l i)) (usk l k) u := by
  funext i
  show (if skp l i = k then u else f (skp l i)) = if i = usk l k then u else f (skp l i)
  have e : (skp l i = k) = (i = usk l k) := by
    unfold skp usk
    apply propext
    split <;> split <;> omega
  simp only [e]
theorem sumI_add {C : Nat} (f g : Nat → Int) (c : Int) : sumI C (fun l => f l + c * g l) = sumI C f + c * sumI C g := by
  induction C with
  | zero => simp [sumI]
  | succ n ih => simp only [sumI]; rw [ih, Int.mul_add]; omega
/-- linear in each row -/
theorem dt_lin : ∀ {J : List Nat} {f : Nat → Nat → Int} {k : Nat} (u v : Nat → Int) (c : Int), k < J.length → dt J (fup f k (fun j => u j + c * v j)) = dt J (fup f k u) + c * dt J (fup f k v)
  | [], f, k, u, v, c, h => by simp at h
  | j :: J, f, k, u, v, c, h => by
    rw [dt, dt, dt, ← sumI_add]
    refine sumI_congr (fun l hl => ?_)
    show sgn l * fup f k (fun j => u j + c * v j) l j * dt J (fun i => fup f k (fun j => u j + c * v j) (skp l i)) = sgn l * fup f k u l j * dt J (fun i => fup f k u (skp l i)) + c * (sgn l * fup f k v l j * dt J (fun i => fup f k v (skp l i)))
    by_cases e : l = k
    · subst e
      rw [fup_skp_same, fup_skp_same, fup_skp_same]
      simp only [fup, if_pos]
      generalize dt J (fun i => f (skp l i)) = d
      rw [Int.mul_add, Int.add_mul, Int.mul_left_comm (sgn l) c, Int.mul_assoc c]
    · have hk : usk l k < J.length := by unfold usk; simp only [List.length_cons] at h hl; split <;> omega
      rw [fup_skp_ne f e, fup_skp_ne f e, fup_skp_ne f e, dt_lin u v c hk]
      simp only [fup, if_neg e]
      generalize sgn l * f l j = s
      rw [Int.mul_add, Int.mul_left_comm]
theorem dt_zero {J : List Nat} {f : Nat → Nat → Int} {k : Nat} (h : k < J.length) : dt J (fup f k (fun _ => 0)) = 0 := by
  have h1 := dt_lin (f := f) (fun _ => 0) (fun _ => 0) (-1) h
  have h2 : (fun j : Nat => (0 : Int) + -1 * 0) = fun _ => 0 := by funext; rfl
  rw [h2] at h1
  omega
theorem dt_mul {J : List Nat} {f : Nat → Nat → Int} {k : Nat} (v : Nat → Int) (c : Int) (h : k < J.length) : dt J (fup f k (fun j => c * v j)) = c * dt J (fup f k v) := by
  have h1 := dt_lin (f := f) (fun _ => 0) v c h
  have h2 : (fun j : Nat => (0 : Int) + c * v j) = fun j => c * v j := by funext; simp
  rw [h2, dt_zero h] at h1
  omega
/-- two neighbours that are alike -/
theorem dt_adj : ∀ {J : List Nat} {f : Nat → Nat → Int} {k : Nat}, k + 1 < J.length → (∀ j ∈ J, f k j = f (k + 1) j) → dt J f = 0
  | [], f, k, h, _ => by simp at h
  | j :: J, f, k, h, he => by
    simp only [List.length_cons] at h
    rw [dt]
    have h0 := sumI_two (C := J.length + 1) (j := k) (k := k + 1) (f := fun l => sgn l * f l j * dt J (fun i => f (skp l i))) (g := fun _ => 0) (by omega) (by omega) (by omega) (fun l hl h1 h2 => by
      show sgn l * f l j * dt J (fun i => f (skp l i)) = 0
      have hz : dt J (fun i => f (skp l i)) = 0 := by
        by_cases q : l < k
        · refine dt_adj (J := J) (k := k - 1) (by omega) (fun i hi => ?_)
          show f (skp l (k - 1)) i = f (skp l (k - 1 + 1)) i
          unfold skp
          rw [if_neg (by omega), if_neg (by omega), show k - 1 + 1 = k by omega]
          exact he i (by simp [hi])
        · refine dt_adj (J := J) (k := k) (by omega) (fun i hi => ?_)
          show f (skp l k) i = f (skp l (k + 1)) i
          unfold skp
          rw [if_pos (by omega), if_pos (by omega)]
          exact he i (by simp [hi])
      rw [hz, Int.mul_zero])
    rw [h0, sumI_zero]
    have e1 : dt J (fun i => f (skp (k + 1) i)) = dt J (fun i => f (skp k i)) := dt_congr (fun l hl i hi => by
      show f (skp (k + 1) l) i = f (skp k l) i
      unfold skp
      by_cases q : l < k
      · rw [if_pos q, if_pos (by omega)]
      · by_cases q2 : l = k
        · subst q2
          rw [if_pos (by omega), if_neg (by omega)]
          exact he i (by simp [hi])
        · rw [if_neg (by omega), if_neg (by omega)])
    show 0 + (sgn k * f k j * dt J (fun i => f (skp k i)) - 0) + (sgn (k + 1) * f (k + 1) j * dt J (fun i => f (skp (k + 1) i)) - 0) = 0
    rw [e1, sgn_succ, ← he j (by simp), Int.neg_mul, Int.neg_mul]
    omega
theorem fup_self (f : Nat → Nat → Int) (k : Nat) : fup f k (f k) = f := by
  funext l; unfold fup; split
  · next e => rw [e]
  · rfl
theorem fup_fup (f : Nat → Nat → Int) (k : Nat) (u v : Nat → Int) : fup (fup f k u) k v = fup f k v := by
  funext l; unfold fup; split <;> rfl
theorem fup_comm (f : Nat → Nat → Int) {k l : Nat} (h : k ≠ l) (u v : Nat → Int) : fup (fup f k u) l v = fup (fup f l v) k u := by
  funext i; unfold fup
  by_cases e1 : i = l
  · by_cases e2 : i = k
    · omega
    · rw [if_pos e1, if_neg e2, if_pos e1]
  · rw [if_neg e1]
    by_cases e2 : i = k
    · rw [if_pos e2, if_pos e2]
    · rw [if_neg e2, if_neg e2, if_neg e1]
/-- neighbours change places -/
theorem dt_swap_adj {J : List Nat} {f : Nat → Nat → Int} {k : Nat} (h : k + 1 < J.length) : dt J (fup (fup f k (f (k + 1))) (k + 1) (f k)) = - dt J f := by
  have hk : k < J.length := by omega
  have hne : k ≠ k + 1 := by omega
  generalize hu : f k = u
  generalize hv : f (k + 1) = v
  have z : dt J (fup (fup f k (fun j => u j + 1 * v j)) (k + 1) (fun j => u j + 1 * v j)) = 0 := dt_adj h (fun j _ => by
    simp only [fup, if_neg hne, if_pos])
  have zu : dt J (fup (fup f k u) (k + 1) u) = 0 := dt_adj h (fun j _ => by simp only [fup, if_neg hne, if_pos])
  have zv : dt J (fup (fup f k v) (k + 1) v) = 0 := dt_adj h (fun j _ => by simp only [fup, if_neg hne, if_pos])
  rw [dt_lin u v 1 h, fup_comm f hne, dt_lin u v 1 hk, fup_comm f hne (fun j => u j + 1 * v j), dt_lin u v 1 hk, fup_comm f hne.symm, fup_comm f hne.symm, fup_comm f hne.symm, fup_comm f hne.symm] at z
  rw [zu, zv] at z
  have e : fup (fup f k u) (k + 1) v = f := by rw [← hu, ← hv, fup_self, fup_self]
  rw [e] at z
  omega
/-- two rows that are alike -/
theorem dt_same : ∀ (d : Nat) {J : List Nat} {f : Nat → Nat → Int} {a : Nat}, a + 1 + d < J.length → (∀ j, f a j = f (a + 1 + d) j) → dt J f = 0
  | 0, J, f, a, h, he => dt_adj h (fun j _ => he j)
  | d + 1, J, f, a, h, he => by
    have hs := dt_swap_adj (J := J) (f := f) (k := a + 1 + d) (by omega)
    have hz := dt_same d (J := J) (f := fup (fup f (a + 1 + d) (f (a + 1 + d + 1))) (a + 1 + d + 1) (f (a + 1 + d))) (a := a) (by omega) (fun j => by
      simp only [fup]
      rw [if_neg (by omega), if_neg (by omega), if_neg (by omega), if_pos True.intro]
      exact he j)
    rw [hz] at hs
    omega
theorem dt_alike {J : List Nat} {f : Nat → Nat → Int} {a b : Nat} (ha : a < J.length) (hb : b < J.length) (hab : a ≠ b) (he : ∀ j, f a j = f b j) : dt J f = 0 := by
  rcases Nat.lt_or_ge a b with q | q
  · exact dt_same (b - (a + 1)) (a := a) (by omega) (fun j => by rw [show a + 1 + (b - (a + 1)) = b by omega]; exact he j)
  · exact dt_same (a - (b + 1)) (a := b) (by omega) (fun j => by rw [show b + 1 + (a - (b + 1)) = a by omega]; exact (he j).symm)
/-- a multiple of another row is added -/
theorem dt_addmul {J : List Nat} {f : Nat → Nat → Int} {a b : Nat} (ha : a < J.length) (hb : b < J.length) (hab : a ≠ b) (c : Int) : dt J (fup f b (fun j => f b j + c * f a j)) = dt J f := by
  rw [dt_lin (f b) (f a) c hb, fup_self]
  have : dt J (fup f b (f a)) = 0 := dt_alike ha hb hab (fun j => by simp only [fup, if_neg hab, if_pos])
  rw [this]; omega
/-- congruent rows -/
theorem dt_mod {m : Int} : ∀ {J : List Nat} {f g : Nat → Nat → Int}, (∀ l, l < J.length → ∀ j ∈ J, m ∣ f l j - g l j) → m ∣ dt J f - dt J g
  | [], f, g, _ => by simp [dt]
  | j :: J, f, g, h => by
    rw [dt, dt]
    refine sumI_mod (fun k hk => ?_)
    show m ∣ sgn k * f k j * dt J (fun l => f (skp k l)) - sgn k * g k j * dt J (fun l => g (skp k l))
    have h1 := h k (by simpa using hk) j (by simp)
    have h2 := dt_mod (J := J) (f := fun l => f (skp k l)) (g := fun l => g (skp k l)) (fun l hl i hi => h (skp k l) (by unfold skp; simp only [List.length_cons]; split <;> omega) i (by simp [hi]))
    generalize dt J (fun l => f (skp k l)) = d1 at *
    generalize dt J (fun l => g (skp k l)) = d2 at *
    generalize f k j = a at *
    generalize g k j = b at *
    have e : sgn k * a * d1 - sgn k * b * d2 = sgn k * (a * (d1 - d2) + (a - b) * d2) := by
      rw [Int.mul_add, Int.mul_sub, Int.sub_mul, Int.mul_sub, Int.mul_sub, ← Int.mul_assoc, ← Int.mul_assoc, ← Int.mul_assoc]; omega
    rw [e]
    exact Int.dvd_trans (Int.dvd_add (Int.dvd_trans h2 (Int.dvd_mul_left _ _)) (Int.dvd_trans h1 (Int.dvd_mul_right _ _))) (Int.dvd_mul_left _ _)
end Go.Proofs.YtjeklcgfffibpaaGreatDoor
