/- intmatrix.factors: the walk. -/
/- intmatrix.isMatrix, isSmall, Smith: the walks, for small matrices. -/
/- intmatrix.Smith: the walk, for small matrices. -/
import Derived.Test.YtcjaloddgilnpaaZFap
import Derived.BigRegion
namespace Go.Proofs.Ytcjaloddgilnpaa
open Go.RowKit
set_option linter.unusedVariables false

theorem intInfo : (Try.prog.info? 3).map (fun i => (i.zero, i.size, i.bytes)) = some (some (.int .i64 0), 1, 8) := by kernel_rfl
theorem Mat.rowlen {w : World} {v : Value} {rows : List (List Int)} (h : Mat w v rows) : ∃ A0 c0, v = .slice A0 rows.length c0 := by obtain ⟨A0, c0, e, _⟩ := h; exact ⟨_, _, e⟩
/-- the state of factors -/
structure Fc (R : Nat) (bs : List Nat) (C n db m : Nat) (w0 : World) (cur : List (List Nat)) (D : List Nat) (bs' : List Nat) (w : World) : Prop where
  mu : MU w R bs' C cur
  sub : ∀ b ∈ bs', b ∈ bs
  bel : Below R w0 w
  dia : Arr w db 72 (uc D)
  len : cur.length = n
  lt : Ltm m cur
  cl : Cl C cur
theorem Fc.drewN {R : Nat} {bs : List Nat} {C n db m : Nat} {w0 : World} {cur : List (List Nat)} {D bs' : List Nat} {w : World} (h : Fc R bs C n db m w0 cur D bs' w) (q : Nat) : Fc R bs C n db m w0 cur D bs' (w.drewN q) :=
  ⟨h.mu.drewN q, h.sub, bdrewN h.bel q, h.dia, h.len, h.lt, h.cl⟩
theorem Fc.next {R : Nat} {bs : List Nat} {C n db m : Nat} {w0 : World} {cur cur' : List (List Nat)} {D bs' bs'' : List Nat} {w w' : World} (h : Fc R bs C n db m w0 cur D bs' w) (hb : R ≤ w.heap.size) (hL : ∀ b ∈ R :: bs, R ≤ b) (nk : db ∉ R :: bs)
    (h1 : MU w' R bs'' C cur') (h2 : ∀ b ∈ bs'', b ∈ bs') (h3 : Wr (R :: bs') w w') (hl : cur'.length = n) (hlt : Ltm m cur') (hcl : Cl C cur') : Fc R bs C n db m w0 cur' D bs'' w' :=
  have hs : ∀ x ∈ R :: bs', x ∈ R :: bs := fun x hx => by
    rcases List.mem_cons.1 hx with e | e
    · rw [e]; simp
    · exact List.mem_cons_of_mem _ (h.sub x e)
  ⟨h1, fun b hb => h.sub b (h2 b hb), h.bel.trans (h3.below hb (fun x hx => hL x (hs x hx))), h.dia.wr h3 (fun q => nk (hs _ q)), hl, hlt, hcl⟩
theorem Fc.put {R : Nat} {bs : List Nat} {C n db m : Nat} {w0 : World} {cur : List (List Nat)} {D bs' : List Nat} {w : World} (h : Fc R bs C n db m w0 cur D bs' w) (hb : R ≤ db) (nk : db ∉ R :: bs) (i x : Nat) : Fc R bs C n db m w0 cur (D.set i x) bs' (w.setCell ⟨db, i, none⟩ (.int .u64 (x : Int))) := by
  have o := (Onl.refl db w).setCell i (.int .u64 (x : Int))
  refine ⟨h.mu.keep (o.block R (fun e => nk (by rw [← e]; simp))) (fun b hb => o.block b (fun e => nk (by rw [← e]; exact List.mem_cons_of_mem _ (h.sub b hb)))), h.sub, h.bel.setCell (p := ⟨db, i, none⟩) hb _, ?_, h.len, h.lt, h.cl⟩
  rw [← uc_set]; exact h.dia.set i _

set_option maxHeartbeats 4000000 in
set_option maxRecDepth 100000 in
theorem factors_any (v : Value) (rows : List (List Int)) (C m : Nat) (w : World) (h : Mat w v rows) (hn : rows.length ≤ 1000) (hC : C ≤ 1000) (hCc : C = cols rows) (hc : ∀ r ∈ rows, r.length = C) (hb : ∀ r ∈ rows, ∀ x ∈ r, -9223372036854775807 ≤ x ∧ x ≤ 9223372036854775807) (hm : 0 < m) (hm2 : m ≤ 4611686018427387904) :
    Calls Try.prog 68 #[v, .int .u64 (m : Nat)] w fun e w' => ∃ g, e = .returned (.slice (some ⟨g, 0, none⟩) (min rows.length C) (min rows.length C)) ∧ w.heap.size ≤ g ∧ Arr w' g 3 (nc (facO m C rows (min rows.length C))) ∧ Below w.heap.size w w' := by
  obtain ⟨i1, hi1, hy0, hy1, hy2⟩ := info_parts numInfo
  obtain ⟨i2, hi2, hx0, hx1, hx2⟩ := info_parts intInfo
  have HRS := Lib.hid (residues_any v rows C m w h hn hC hc hb hm hm2)
  have HCO := Lib.hid (fun w' (hb : Below w.heap.size w w') => columns_any v rows w' (h.below hb) hn (fun r hr => by rw [hc r hr]; exact hC))
  rw [← hCc] at HCO
  have hA0 : Ltm m (resF m rows) := by
    intro i j
    unfold ge gr resF
    rw [List.getElem?_map]
    cases hr : rows[i]? with
    | none => simpa [gn] using hm
    | some r =>
      simp only [Option.map_some, Option.getD_some]
      unfold gn resR
      rw [List.getElem?_map]
      cases hx : r[j]? with
      | none => simpa using hm
      | some x => simp only [Option.map_some, Option.getD_some]; exact rs_lt hm x
  obtain ⟨d, hd⟩ : ∃ d, d = min rows.length C := ⟨_, rfl⟩
  obtain ⟨O, hO⟩ : ∃ O, O = facO m C rows d := ⟨_, rfl⟩
  rw [← hd, ← hO]
  have hAl := resF_length m rows
  have HO := Lib.hid (show O = outP m (chI d (dgP m C (resF m rows) d d) d) d from hO)
  obtain ⟨A, hA⟩ : ∃ A, A = resF m rows := ⟨_, rfl⟩
  rw [← hA] at HRS HO hA0 hAl
  obtain ⟨A0, c0, rfl⟩ := h.rowlen
  obtain ⟨n, hnn⟩ : ∃ n, n = rows.length := ⟨_, rfl⟩
  rw [← hnn] at HRS HCO hn hd hAl ⊢
  have hdn : d ≤ n := by omega
  have hdC : d ≤ C := by omega
  have HD := Lib.hid hd
  have HMK := Lib.hid (run_make_one (P := Try.prog) 82 72 i1 (.int .u64 0) Try.underlying82 hi1 hy0 hy1 rfl (by omega) d (by omega))
  have HMI := Lib.hid (run_make_one (P := Try.prog) 22 3 i2 (.int .i64 0) Try.underlying22 hi2 hx0 hx1 rfl (by omega) d (by omega))
  clear h hc hb hA hnn hO hCc hd
  go_enter Try.func68, Try.ntmps68
  go_upto_region 2 with (go_at_call 80; refine HRS.out.mono ?_; rintro e w1 ⟨rfl, bs, hmu, hbs, hbel⟩)
  have HC1 := Lib.hid (HCO.out w1 hbel)
  have hEl : Fc w.heap.size bs C n w1.heap.size m w A (List.replicate d 0) bs (w1.alloc (.cells (rowOf (List.replicate d (Value.int .u64 0))) 72)) :=
    ⟨hmu.alloc _, fun _ q => q, hbel.alloc hbel.size _, by have := Arr.new w1 72 (List.replicate d (Value.int .u64 0)); rw [show uc (List.replicate d 0) = List.replicate d (Value.int .u64 0) by simp [uc]]; exact this, hAl, hA0, hmu.cols⟩
  have nk : w1.heap.size ∉ w.heap.size :: bs := fun q => by
    rcases List.mem_cons.1 q with e | e
    · have := hmu.outer.lt; omega
    · have := hmu.lt _ e; omega
  have HNK := Lib.hid nk
  have HRK := Lib.hid hbel.size
  have HL := Lib.hid (show ∀ b ∈ w.heap.size :: bs, w.heap.size ≤ b from fun b q => by
    rcases List.mem_cons.1 q with e | e
    · omega
    · have := hbs b e; omega)
  have HEL := Lib.hid hEl
  clear nk hbs hbel hmu hA0 hAl hEl HRS HCO
  go_cut [6] (fun s6 wx => s6 = .slice (some ⟨w1.heap.size, 0, none⟩) d d ∧ wx = w1.alloc (.cells (rowOf (List.replicate d (Value.int .u64 0))) 72))
  case first =>
    have e1 : min (n : Int) (C : Int) = (d : Int) := by have := HD.out; omega
    have hmk := HMK.out
    go_upto_region 3 with (go_at_call 79; refine HC1.out.mono ?_; rintro e w' ⟨rfl, rfl⟩)
    go_meet
    exact ⟨rfl, rfl⟩
  case rest =>
    obtain ⟨rfl, hwc⟩ := hcut
    have hF := HEL.out
    rw [← hwc] at hF
    clear hwc HEL HC1 HMK
    generalize w1.heap.size = db at *
    obtain ⟨R, hRR⟩ : ∃ R, R = w.heap.size := ⟨_, rfl⟩
    rw [← hRR] at hF HNK HL HRK ⊢
    have HR := Lib.hid hRR
    clear hRR
    have HAA := Lib.hid (fun k => facA_all hF.lt hF.cl hm k)
    have HAL := Lib.hid hF.len
    go_wp2_with fail
    go_loopg [7, 8, 9, 27] d (fun gk s7 s8 s9 s27 wr => ∃ (k : Nat) (bs' : List Nat), k ≤ d ∧ gk = d - k ∧ s27 = .int .i64 (k : Int) ∧ Fc R bs C n db m w (facA m C A k) (dgP m C A d k) bs' wr)
    case atStart => exact ⟨0, bs, Nat.zero_le _, rfl, rfl, by rw [dgP_zero]; exact hF⟩
    case round =>
      clear hF
      obtain ⟨k, bs', hk, rfl, rfl, hE⟩ := hrel
      obtain ⟨wo, rfl⟩ : ∃ wo : World, wo = wr := ⟨_, rfl⟩
      by_cases hkt : k < d
      · have z1 : (k : Int) < (d : Int) := by omega
        have z2 : (k : Int) < (n : Int) := by omega
        have z3 : (k : Int) < (C : Int) := by omega
        have hkC : k < C := by omega
        have HEND := Lib.hid (fun (bs2 : List Nat) (wx : World) (hx : Fc R bs C n db m w (facA m C A (k + 1)) (dgP m C A d k) bs2 wx) => (show ∃ bk, wx.cell? ⟨R, k, none⟩ = some (.slice (some ⟨bk, 0, none⟩) C C) ∧ wx.cell? ⟨bk, k, none⟩ = some (.int .u64 (ge (facA m C A (k + 1)) k k : Nat)) ∧ ge (facA m C A (k + 1)) k k < m ∧ wx.cell? ⟨db, k, none⟩ = some (.int .u64 ((0 : Nat) : Int)) ∧ wx.frozen? ⟨db, k, none⟩ = false from by
          obtain ⟨bk, hbk, _⟩ := hx.mu.bl (i := k) (by rw [hx.len]; omega)
          refine ⟨bk, hx.mu.cellR hbk, hx.mu.cell hbk hkC, hx.lt k k, ?_, hx.dia.frozen k⟩
          rw [hx.dia.cell, uc_get (by rw [dgP_length]; exact hkt), gn_dgP hkt, if_neg (by omega)]))
        have HPUT := Lib.hid (fun (bs2 : List Nat) (wx : World) (hx : Fc R bs C n db m w (facA m C A (k + 1)) (dgP m C A d k) bs2 wx) => (show Fc R bs C n db m w (facA m C A (k + 1)) (dgP m C A d (k + 1)) bs2 (wx.setCell ⟨db, k, none⟩ (.int .u64 ((Nat.gcd (ge (facA m C A (k + 1)) k k) m : Nat) : Int))) from by
          rw [← dgP_step hkt]
          exact hx.put HRK.out HNK.out k _))
        have HGC := Lib.hid (fun W (hlt : ge (facA m C A (k + 1)) k k < m) => gcdU_any (ge (facA m C A (k + 1)) k k) m W (by omega) (by omega))
        cases hFF : findF (facA m C A k) k C with
        | none =>
          have HFD := Lib.hid (find_none R bs' C (facA m C A k) k wo hE.mu (by rw [hE.len]; exact hn) hC (by omega) hFF)
          rw [hE.len] at HFD
          have hE2 : Fc R bs C n db m w (facA m C A (k + 1)) (dgP m C A d k) bs' wo := by rw [show facA m C A (k + 1) = facA m C A k from facS_none hFF]; exact hE
          obtain ⟨bk, c1, c2, hlt, c3, c4⟩ := HEND.out bs' wo hE2
          have HE2 := Lib.hid hE2
          generalize Nat.gcd (ge (facA m C A (k + 1)) k k) m = gv at *
          generalize ge (facA m C A (k + 1)) k k = vk at *
          clear hE hE2 hFF HEND
          go_wp2_with (first | (go_at_call 81; refine HFD.out.mono ?_; rintro e w' ⟨rfl, rfl⟩) | (go_at_call 87; (with_reducible refine (HGC.out _ hlt).mono ?_); rintro e w' ⟨q, rfl, rfl⟩))
          go_roundg (d - (k + 1))
          case measure => omega
          case rel => exact ⟨k + 1, bs', by omega, rfl, by go_num, HPUT.out _ _ (HE2.out.drewN _)⟩
        | some xy =>
          obtain ⟨x, y⟩ := xy
          have HFD := Lib.hid (find_some R bs' C (facA m C A k) k x y wo hE.mu (by rw [hE.len]; exact hn) hC (by omega) hFF)
          rw [hE.len] at HFD
          have hwk := wk_of_find hFF hE.lt hE.cl hm
          have HW := Lib.hid hwk
          have HSL := Lib.hid (show (elS (facA m C A k) k x y).length = n by rw [elS_length]; exact hE.len)
          have HS1 := Lib.hid (show facA m C A (k + 1) = isoF m k C (isoM k C (elS (facA m C A k) k x y) + 1) (elS (facA m C A k) k x y) from facS_some hFF)
          have HFO := Lib.hid (fun w' (q : Found R bs' C (facA m C A k) k x y wo w') => (show ∃ bs2, Fc R bs C n db m w (elS (facA m C A k) k x y) (dgP m C A d k) bs2 w' from by
            obtain ⟨bs2, h1, h2, h3⟩ := q
            exact ⟨bs2, hE.next (by rw [HR.out]; exact (by have := hE.bel.size; have := HR.out; have := hE.mu.outer.lt; omega)) HL.out HNK.out h1 h2 h3 HSL.out HW.out.lt HW.out.cl⟩))
          clear hE hFF hwk
          go_upto_region 8 with (go_at_call 81; refine HFD.out.mono ?_; rintro e w' ⟨rfl, hfo⟩)
          obtain ⟨bs2, hE2⟩ := HFO.out _ hfo
          have HIS := Lib.hid (isolate_any R bs2 C (elS (facA m C A k) k x y) k m w' hE2.mu (by rw [HSL.out]; exact hn) hC HW.out hm2)
          rw [HSL.out, ← HS1.out] at HIS
          have HNX := Lib.hid (fun w'' bs3 (h1 : MU w'' R bs3 C (facA m C A (k + 1))) (h2 : ∀ b ∈ bs3, b ∈ bs2) (h3 : Wr (R :: bs2) w' w'') => hE2.next (by have := hE2.mu.outer.lt; omega) HL.out HNK.out h1 h2 h3 ((HAA.out (k + 1)).2.2.trans HAL.out) (HAA.out (k + 1)).1 (HAA.out (k + 1)).2.1)
          clear hE2 hfo HFO HFD
          go_upto_region 9 with (go_at_call 86; refine HIS.out.mono ?_; rintro e w'' ⟨rfl, bs3, h1, h2, h3⟩)
          have hE3 := HNX.out _ _ h1 h2 h3
          obtain ⟨bk, c1, c2, hlt, c3, c4⟩ := HEND.out bs3 w'' hE3
          have HE3 := Lib.hid hE3
          generalize Nat.gcd (ge (facA m C A (k + 1)) k k) m = gv at *
          generalize ge (facA m C A (k + 1)) k k = vk at *
          clear h1 h2 h3 hE3 HNX HIS HEND
          go_wp2_with (go_at_call 87; (with_reducible refine (HGC.out _ hlt).mono ?_); rintro e w' ⟨q, rfl, rfl⟩)
          go_roundg (d - (k + 1))
          case measure => omega
          case rel => exact ⟨k + 1, bs3, by omega, rfl, by go_num, HPUT.out _ _ (HE3.out.drewN _)⟩
      · have z1 : ¬ ((k : Int) < (d : Int)) := by omega
        have hkn : k = d := by omega
        have hDD := hE.dia
        rw [hkn] at hDD
        have hBB := hE.bel
        have HDV := Lib.hid (dgP_dvs m C A d)
        obtain ⟨D, hD⟩ : ∃ D, D = dgP m C A d d := ⟨_, rfl⟩
        have HDL := Lib.hid (show D.length = d by rw [hD]; exact dgP_length _ _ _ _ _)
        rw [← hD] at hDD HDV HO
        clear hkn hE hD HAA HAL
        have HD0 := Lib.hid hDD
        have HB0 := Lib.hid hBB
        clear hDD hBB
        go_wp2_with fail
        go_loopg [10, 11, 12, 56] d (fun gk s10 s11 s12 s56 wr => ∃ i : Nat, i ≤ d ∧ gk = d - i ∧ s56 = .int .i64 (i : Int) ∧ Arr wr db 72 (uc (chI d D i)) ∧ Below R w wr)
        case atStart => exact ⟨0, Nat.zero_le _, rfl, rfl, HD0.out, HB0.out⟩
        case round =>
          clear HD0 HB0
          obtain ⟨i, hi, rfl, rfl, hD, hB⟩ := hrel
          obtain ⟨wo, rfl⟩ : ∃ wo : World, wo = wr := ⟨_, rfl⟩
          by_cases hit : i < d
          · have z1 : (i : Int) < (d : Int) := by omega
            have HDI := Lib.hid (show Dvs m (chI d D i) ∧ (chI d D i).length = d from ⟨HDV.out.chI HDL.out i hi, by rw [chI_length]; exact HDL.out⟩)
            have HCI := Lib.hid (show chI d D (i + 1) = chU i (chI d D i) (d - (i + 1)) from rfl)
            obtain ⟨E, hE⟩ : ∃ E, E = chI d D i := ⟨_, rfl⟩
            rw [← hE] at hD HDI HCI
            have HDX := Lib.hid hD
            have HBX := Lib.hid hB
            clear hE hD hB
            go_wp2_with fail
            go_loopg [11, 12] (d - (i + 1)) (fun gk s11 s12 wr => ∃ k : Nat, i + 1 ≤ k ∧ k ≤ d ∧ gk = d - k ∧ s11 = .int .i64 (k : Int) ∧ Arr wr db 72 (uc (chU i E (k - (i + 1)))) ∧ Below R w wr)
            case atStart => exact ⟨i + 1, Nat.le_refl _, by omega, rfl, by go_num, by rw [Nat.sub_self]; exact HDX.out, HBX.out⟩
            case round =>
              clear HDX HBX
              obtain ⟨k, hik, hkd, rfl, rfl, hD, hB⟩ := hrel
              obtain ⟨wp, rfl⟩ : ∃ wp : World, wp = wr := ⟨_, rfl⟩
              by_cases hkt : k < d
              · have z2 : (k : Int) < (d : Int) := by omega
                have hdv : Dvs m (chU i E (k - (i + 1))) := HDI.out.1.chU (by rw [HDI.out.2]; exact hit) _ (by rw [HDI.out.2]; omega)
                have hl : (chU i E (k - (i + 1))).length = d := by rw [chU_length]; exact HDI.out.2
                have HNX := Lib.hid (chU_next (i := i) (k := k) E hik)
                obtain ⟨F, hF⟩ : ∃ F, F = chU i E (k - (i + 1)) := ⟨_, rfl⟩
                rw [← hF] at hD hdv hl HNX
                clear hF
                have c1 := (hD.cell i).trans (uc_get (by omega))
                have c2 := (hD.cell k).trans (uc_get (by omega))
                have f1 := hD.frozen i
                have f2 := hD.frozen k
                have d1 := hdv i (by omega)
                have d2 := hdv k (by omega)
                have p1 : 0 < gn F i := Nat.pos_of_dvd_of_pos d1 hm
                have p2 : 0 < gn F k := Nat.pos_of_dvd_of_pos d2 hm
                have l1 : gn F i ≤ m := Nat.le_of_dvd hm d1
                have l2 : gn F k ≤ m := Nat.le_of_dvd hm d2
                have HGC := Lib.hid (fun q => gcdU_any (gn F i) (gn F k) (wp.drewN q) (by omega) (by omega))
                have hg0 : 0 < Nat.gcd (gn F i) (gn F k) := Nat.gcd_pos_of_pos_left _ p1
                have hlc : gn F i / Nat.gcd (gn F i) (gn F k) * gn F k ≤ m := by rw [div_gcd_mul]; exact Nat.le_of_dvd hm (Nat.lcm_dvd d1 d2)
                have hql : gn F i / Nat.gcd (gn F i) (gn F k) ≤ m := Nat.le_trans (Nat.div_le_self _ _) l1
                have HWR := Lib.hid (fun (W : World) (ha : Arr W db 72 (uc F)) (hb : Below R w W) => (show Arr ((W.setCell ⟨db, i, none⟩ (.int .u64 ((Nat.gcd (gn F i) (gn F k) : Nat) : Int))).setCell ⟨db, k, none⟩ (.int .u64 ((gn F i / Nat.gcd (gn F i) (gn F k) * gn F k : Nat) : Int))) db 72 (uc (chU i E (k + 1 - (i + 1)))) ∧ Below R w ((W.setCell ⟨db, i, none⟩ (.int .u64 ((Nat.gcd (gn F i) (gn F k) : Nat) : Int))).setCell ⟨db, k, none⟩ (.int .u64 ((gn F i / Nat.gcd (gn F i) (gn F k) * gn F k : Nat) : Int))) from by
                  rw [HNX.out]
                  have := (ha.set i (.int .u64 ((Nat.gcd (gn F i) (gn F k) : Nat) : Int))).set k (.int .u64 ((gn F i / Nat.gcd (gn F i) (gn F k) * gn F k : Nat) : Int))
                  rw [uc_set, uc_set] at this
                  exact ⟨this, (hb.setCell (p := ⟨db, i, none⟩) HRK.out _).setCell (p := ⟨db, k, none⟩) HRK.out _⟩))
                have e1 := quo_nat (gn F i) (Nat.gcd (gn F i) (gn F k))
                obtain ⟨P, hP⟩ : ∃ P, P = gn F i / Nat.gcd (gn F i) (gn F k) * gn F k := ⟨_, rfl⟩
                have e2 : ((gn F i / Nat.gcd (gn F i) (gn F k) : Nat) : Int) * ((gn F k : Nat) : Int) = (P : Int) := by rw [hP]; rfl
                rw [← hP] at HWR hlc
                clear hP
                generalize gn F i / Nat.gcd (gn F i) (gn F k) = qq at *
                generalize Nat.gcd (gn F i) (gn F k) = gg at *
                generalize gn F i = v1 at *
                generalize gn F k = v2 at *
                have HDX := Lib.hid hD
                have HBX := Lib.hid hB
                have z3 : ((gg : Int) == 0) = false := by simp; omega
                have z4 : (gg : Int) ≠ 0 := by omega
                have z5 : ¬ (i = k) := by omega
                clear hD hB hdv hl d1 d2
                go_upto_region 17 with fail
                go_quiet ((go_at_call 87; refine (HGC.out _).mono ?_; rintro e w' ⟨q, rfl, rfl⟩; exact ⟨rfl, _, drewN_add _ _ _⟩))
                have hD2 : Arr (wp.drewN nq) db 72 (uc F) := HDX.out
                have hB2 : Below R w (wp.drewN nq) := bdrewN HBX.out _
                have c1' : (wp.drewN nq).cell? ⟨db, i, none⟩ = some (.int .u64 (v1 : Int)) := c1
                have c2' : (wp.drewN nq).cell? ⟨db, k, none⟩ = some (.int .u64 (v2 : Int)) := c2
                have f1' : (wp.drewN nq).frozen? ⟨db, i, none⟩ = false := f1
                have f2' : (wp.drewN nq).frozen? ⟨db, k, none⟩ = false := f2
                generalize wp.drewN nq = W at *
                clear HDX HBX c1 c2 f1 f2 HGC
                go_upto_region 18 with fail
                go_region
                go_wp2_with fail
                go_roundg (d - (k + 1))
                case measure => omega
                case rel => exact ⟨k + 1, by omega, by omega, rfl, by go_num, HWR.out _ (hD2.drew) (hB2.drew)⟩
              · have z2 : ¬ ((k : Int) < (d : Int)) := by omega
                have hkn : k = d := by omega
                have HKN := Lib.hid hkn
                clear hkn
                go_wp2_with fail
                go_roundg (d - (i + 1))
                case measure => omega
                case rel => exact ⟨i + 1, by omega, rfl, by go_num, by rw [HCI.out, ← HKN.out]; exact hD, hB⟩
          · have z1 : ¬ ((i : Int) < (d : Int)) := by omega
            have hin : i = d := by omega
            rw [hin] at hD
            have HFL := Lib.hid (show (chI d D d).length = d ∧ Dvs m (chI d D d) from ⟨by rw [chI_length]; exact HDL.out, HDV.out.chI HDL.out d (Nat.le_refl _)⟩)
            obtain ⟨G, hG⟩ : ∃ G, G = chI d D d := ⟨_, rfl⟩
            rw [← hG] at hD HFL HO
            have hmk := HMI.out
            have lD := hD.lt
            have hW : ∀ W, W = wo.alloc (.cells (rowOf (List.replicate d (Value.int .i64 0))) 3) → Arr W wo.heap.size 3 (nc (outP m G 0)) ∧ Arr W db 72 (uc G) ∧ Below R w W := by
              intro W hW
              subst hW
              refine ⟨?_, hD.alloc _, hB.alloc (by have := HRK.out; omega) _⟩
              rw [outP_zero, HFL.out.1, show nc (List.replicate d 0) = List.replicate d (Value.int .i64 0) by simp [nc]]
              exact Arr.new wo _ _
            have HLB := Lib.hid (show R ≤ wo.heap.size by have := HRK.out; omega)
            have hne : db ≠ wo.heap.size := by omega
            clear hin hG
            go_upto_region 21 with fail
            generalize wo.alloc (.cells (rowOf (List.replicate d (Value.int .i64 0))) 3) = w8 at hW ⊢
            obtain ⟨hL8, hD8, hB8⟩ := hW w8 rfl
            generalize wo.heap.size = lb at *
            clear hmk hW hD hB
            go_wp2_with fail
            go_loopg [14, 15, 100] d (fun gk s14 s15 s100 wr => ∃ x : Nat, x ≤ d ∧ gk = d - x ∧ s100 = .int .i64 (x : Int) ∧ Arr wr lb 3 (nc (outP m G x)) ∧ Arr wr db 72 (uc G) ∧ Below R w wr)
            case atStart => exact ⟨0, Nat.zero_le _, rfl, rfl, hL8, hD8, hB8⟩
            case round =>
              clear hL8 hD8 hB8
              obtain ⟨x, hx, rfl, rfl, hLx, hDx, hBx⟩ := hrel
              by_cases hxt : x < d
              · have z2 : (x : Int) < (d : Int) := by omega
                have c1 := (hDx.cell x).trans (uc_get (by rw [HFL.out.1]; exact hxt))
                have c2 := (hLx.cell x).trans (nc_get (by rw [outP_length, HFL.out.1]; exact hxt))
                have f2 := hLx.frozen x
                have l1 : gn G x ≤ m := Nat.le_of_dvd hm (HFL.out.2 x (by rw [HFL.out.1]; exact hxt))
                by_cases he : gn G x = m
                · have HSK := Lib.hid (outP_skip (show x < G.length by rw [HFL.out.1]; exact hxt) he)
                  have z3 : (((gn G x : Nat) : Int) != (m : Int)) = false := by simp; omega
                  generalize gn G x = vx at *
                  clear he
                  go_wp2_with fail
                  go_roundg (d - (x + 1))
                  case measure => omega
                  case rel => exact ⟨x + 1, by omega, rfl, by go_num, by rw [← HSK.out]; exact hLx, hDx, hBx⟩
                · have HSK := Lib.hid (outP_step (show x < G.length by rw [HFL.out.1]; exact hxt) he)
                  have z3 : (((gn G x : Nat) : Int) != (m : Int)) = true := by simp; omega
                  have HWR := Lib.hid (show Arr (wr.setCell ⟨lb, x, none⟩ (.int .i64 ((gn G x : Nat) : Int))) lb 3 (nc (outP m G (x + 1))) ∧ Arr (wr.setCell ⟨lb, x, none⟩ (.int .i64 ((gn G x : Nat) : Int))) db 72 (uc G) ∧ Below R w (wr.setCell ⟨lb, x, none⟩ (.int .i64 ((gn G x : Nat) : Int))) by
                    rw [← HSK.out, ← nc_set]
                    exact ⟨hLx.set x _, hDx.far (p := ⟨lb, x, none⟩) hne _, hBx.setCell (p := ⟨lb, x, none⟩) HLB.out _⟩)
                  generalize gn G x = vx at *
                  clear he hLx hDx hBx HSK
                  go_wp2_with fail
                  go_roundg (d - (x + 1))
                  case measure => omega
                  case rel => exact ⟨x + 1, by omega, rfl, by go_num, HWR.out⟩
              · have z2 : ¬ ((x : Int) < (d : Int)) := by omega
                have hxn : x = d := by omega
                rw [hxn, ← HO.out] at hLx
                clear hxn
                have hr := HR.out
                clear HR
                go_wp2_with fail
                go_ret
                subst hr
                exact ⟨lb, rfl, HLB.out, hLx, hBx⟩
end Go.Proofs.Ytcjaloddgilnpaa

namespace Go.Proofs.Ytcjaloddgilnpaa
open Go.RowKit
set_option linter.unusedVariables false

set_option maxHeartbeats 1000000 in
theorem isMatrix_any (v : Value) (rows : List (List Int)) (C : Nat) (w : World) (h : Mat w v rows) (hn : rows.length ≤ 64) (hC : C ≤ 64) (hCc : C = cols rows) (hc : ∀ r ∈ rows, r.length = C) :
    Calls Try.prog 65 #[v] w fun e w' => e = .returned (.bool true) ∧ w = w' := by
  have HCO := Lib.hid (columns_any v rows w h (by omega) (fun r hr => by rw [hc r hr]; omega))
  rw [← hCc] at HCO
  have HM := Lib.hid h
  have HCL := Lib.hid hc
  obtain ⟨A0, c0, rfl⟩ := h.rowlen
  obtain ⟨n, hnn⟩ : ∃ n, n = rows.length := ⟨_, rfl⟩
  rw [← hnn] at hn HCO ⊢
  have HNN := Lib.hid hnn
  clear h hc hCc hnn
  go_enter Try.func65, Try.ntmps65
  go_wp2_with fail
  go_loopg [4, 7] n (fun gk s4 s7 wr => ∃ x : Nat, x ≤ n ∧ gk = n - x ∧ s7 = .int .i64 (x : Int) ∧ w = wr)
  case atStart => exact ⟨0, Nat.zero_le _, rfl, rfl, rfl⟩
  case round =>
    obtain ⟨x, hx, rfl, rfl, rfl⟩ := hrel
    by_cases hlt : x < n
    · have z1 : (x : Int) < (n : Int) := by omega
      have z0 : (0 : Int) < (n : Int) := by omega
      obtain ⟨b, o, hA, hb, u, hu, hI⟩ := HM.out.at_ (i := x) (by rw [← HNN.out]; exact hlt)
      obtain ⟨b', o', hA', hb', u', hu', hI'⟩ := HM.out.at_ (i := 0) (by rw [← HNN.out]; omega)
      subst hA
      injection hA' with hA'
      injection hA' with hA1 hA2
      subst hA1 hA2
      have l1 := HCL.out _ (List.getElem_mem (show x < rows.length by rw [← HNN.out]; exact hlt))
      have l2 := HCL.out _ (List.getElem_mem (show 0 < rows.length by rw [← HNN.out]; omega))
      obtain ⟨A2, c2, rfl, _⟩ := hI
      obtain ⟨A3, c3, rfl, _⟩ := hI'
      rw [l1] at hu
      rw [l2, Nat.add_zero] at hu'
      have z2 : ((C : Int) != (C : Int)) = false := by simp
      clear l1 l2
      go_wp2_with fail
      go_roundg (n - (x + 1))
      case measure => omega
      case rel => exact ⟨x + 1, by omega, rfl, by go_num, rfl⟩
    · have z1 : ¬ ((x : Int) < (n : Int)) := by omega
      have z2 : (n : Int) ≤ 64 := by omega
      have z3 : (C : Int) ≤ 64 := by omega
      go_wp2_with (go_at_call 79; refine HCO.out.mono ?_; rintro e w' ⟨rfl, rfl⟩)
      go_ret
      exact ⟨rfl, rfl⟩
/-- the sum of the absolute values -/
def asum (r : List Int) : Nat := (r.map Int.natAbs).sum
theorem asum_take_le (r : List Int) (y : Nat) : asum (r.take y) ≤ asum r := by
  conv => rhs; rw [← List.take_append_drop y r]
  unfold asum; rw [List.map_append, List.sum_append]; omega
theorem asum_succ {r : List Int} {y : Nat} (h : y < r.length) : asum (r.take (y + 1)) = asum (r.take y) + r[y].natAbs := by
  unfold asum; rw [List.take_succ_eq_append_getElem h, List.map_append, List.sum_append]; simp
theorem asum_mem {r : List Int} {x : Int} (h : x ∈ r) : x.natAbs ≤ asum r := by
  induction r with
  | nil => simp at h
  | cons a r ih =>
    unfold asum at ih ⊢
    simp only [List.map_cons, List.sum_cons]
    rcases List.mem_cons.1 h with e | e
    · rw [e]; omega
    · have := ih e; omega
theorem four_pow {b s x : Nat} (hb : b ≤ 4 ^ x) (hs : s ≤ 4) : b * s ≤ 4 ^ (x + 1) := by rw [Nat.pow_succ]; exact Nat.mul_le_mul hb hs
set_option maxHeartbeats 2000000 in
theorem isSmall_any (v : Value) (rows : List (List Int)) (w : World) (h : Mat w v rows) (hn : rows.length ≤ 24) (hl : ∀ r ∈ rows, r.length ≤ 1000) (hs : ∀ r ∈ rows, asum r ≤ 4) :
    Calls Try.prog 66 #[v] w fun e w' => e = .returned (.bool true) ∧ w = w' := by
  have HM := Lib.hid h
  have HS := Lib.hid hs
  have HLL := Lib.hid hl
  obtain ⟨A0, c0, rfl⟩ := h.rowlen
  obtain ⟨n, hnn⟩ : ∃ n, n = rows.length := ⟨_, rfl⟩
  rw [← hnn] at hn ⊢
  have HNN := Lib.hid hnn
  clear h hs hnn hl
  go_enter Try.func66, Try.ntmps66
  go_wp2_with fail
  go_loopg [3, 5, 6, 8, 11] n (fun gk s3 s5 s6 s8 s11 wr => ∃ x b : Nat, x ≤ n ∧ gk = n - x ∧ s11 = .int .i64 (x : Int) ∧ s3 = .int .u64 (b : Int) ∧ 1 ≤ b ∧ Hid (b ≤ 4 ^ x) ∧ w = wr)
  case atStart => exact ⟨0, 1, Nat.zero_le _, rfl, rfl, rfl, by omega, Lib.hid (by simp), rfl⟩
  case round =>
    obtain ⟨x, b, hx, rfl, rfl, rfl, hb1, HB, rfl⟩ := hrel
    by_cases hlt : x < n
    · have z1 : (x : Int) < (n : Int) := by omega
      obtain ⟨bb, o, hA, hb, u, hu, hI⟩ := HM.out.at_ (i := x) (by rw [← HNN.out]; exact hlt)
      subst hA
      have hsum := HS.out _ (List.getElem_mem (show x < rows.length by rw [← HNN.out]; exact hlt))
      have hrl := HLL.out _ (List.getElem_mem (show x < rows.length by rw [← HNN.out]; exact hlt))
      generalize rows[x] = row at *
      have HI := Lib.hid hI
      obtain ⟨A2, c2, rfl, _⟩ := hI
      go_wp2_with fail
      go_loopg [6, 8, 17] row.length (fun gk s6 s8 s17 wr => ∃ y s : Nat, y ≤ row.length ∧ gk = row.length - y ∧ s17 = .int .i64 (y : Int) ∧ s6 = .int .u64 (s : Int) ∧ s ≤ 4 ∧ Hid (s = asum (row.take y)) ∧ w = wr)
      case atStart => exact ⟨0, 0, Nat.zero_le _, rfl, rfl, rfl, by omega, Lib.hid (by simp [asum]), rfl⟩
      case round =>
        obtain ⟨y, s, hy, rfl, rfl, rfl, hs4, HSS, rfl⟩ := hrel
        by_cases hyt : y < row.length
        · have z2 : (y : Int) < (row.length : Int) := by omega
          obtain ⟨b2, o2, rfl, hbl, hcell⟩ := HI.out.at_ hyt
          have hab := Nat.le_trans (asum_mem (List.getElem_mem hyt)) hsum
          have hs5 : s + row[y].natAbs ≤ 4 := by rw [HSS.out, ← asum_succ hyt]; exact Nat.le_trans (asum_take_le _ _) hsum
          have HS2 := Lib.hid (show s + row[y].natAbs = asum (row.take (y + 1)) by rw [asum_succ hyt, HSS.out])
          have HAB := Lib.hid (fun W => abs_any row[y] W (by omega) (by omega))
          generalize row[y].natAbs = ab at *
          generalize row[y] = e at *
          have z3 : ¬ ((1125899906842624 : Int) < (ab : Int)) := by omega
          clear HSS
          go_wp2_with (go_at_call 69; (with_reducible refine (HAB.out _).mono ?_); rintro e w' ⟨rfl, rfl⟩)
          go_roundg (row.length - (y + 1))
          case measure => omega
          case rel => exact ⟨y + 1, s + ab, by omega, rfl, by go_num, by go_num, hs5, HS2, rfl⟩
        · have z2 : ¬ ((y : Int) < (row.length : Int)) := by omega
          obtain ⟨t, ht⟩ : ∃ t, t = max s 1 := ⟨_, rfl⟩
          have ht1 : 1 ≤ t := by omega
          have ht4 : t ≤ 4 := by omega
          have e1 : max (s : Int) 1 = (t : Int) := by omega
          have HBB := Lib.hid (four_pow HB.out ht4)
          have hb24 : b ≤ 4 ^ 23 := Nat.le_trans HB.out (Nat.pow_le_pow_right (by omega) (by omega))
          have hb46 : b ≤ 70368744177664 := hb24
          have hq : 4 ≤ 1125899906842624 / b := by rw [Nat.le_div_iff_mul_le (by omega)]; omega
          have e2 : (1125899906842624 : Int) / (b : Int) = ((1125899906842624 / b : Nat) : Int) := by simp
          have e3 : (b : Int) * (t : Int) = ((b * t : Nat) : Int) := by simp
          have hbt : b * t ≤ 281474976710656 := by
            have := Nat.mul_le_mul hb46 ht4; omega
          have hbt1 : 1 ≤ b * t := Nat.mul_pos (by omega) (by omega)
          generalize 1125899906842624 / b = q at *
          generalize hbtt : b * t = bt at *
          have HBT := Lib.hid hbtt
          have z3 : ¬ ((q : Int) < (t : Int)) := by omega
          have z4 : ((b : Int) == 0) = false := by simp; omega
          clear ht hb24 hbtt
          go_wp2_with fail
          go_roundg (n - (x + 1))
          case measure => omega
          case rel => exact ⟨x + 1, bt, by omega, rfl, by go_num, rfl, hbt1, HBB, rfl⟩
    · have z1 : ¬ ((x : Int) < (n : Int)) := by omega
      go_wp2_with fail
      go_ret
      exact ⟨rfl, rfl⟩
end Go.Proofs.Ytcjaloddgilnpaa

namespace Go.Proofs.Ytcjaloddgilnpaa
open Go.RowKit
set_option linter.unusedVariables false

theorem p61_def : p61 = 2305843009213693951 := rfl
theorem elM_ne {mi v e : Nat} (h1 : 0 < mi) (h2 : mi < 2305843009213693951) (h3 : v ≠ 0) (h4 : v < 2305843009213693951) : elM mi v e ≠ 0 := by
  have hq : mi * v % 2305843009213693951 ≠ 0 := by
    have := p61_mul (a := mi) (b := v) (by rw [p61_def, Nat.mod_eq_of_lt h2]; omega) (by rw [p61_def, Nat.mod_eq_of_lt h4]; exact h3)
    rwa [p61_def] at this
  have hl : mi * v % 2305843009213693951 < 2305843009213693951 := Nat.mod_lt _ (by omega)
  unfold elM
  generalize mi * v % 2305843009213693951 = q at *
  split
  · rw [Nat.zero_add, Nat.mod_eq_of_lt (by omega)]; omega
  · exact hq
theorem elF_ne {C : Nat} : ∀ (f : Nat) (A : List (List Nat)) (k mi : Nat), Ltm 2305843009213693951 A → Cl C A → 0 < mi → mi < 2305843009213693951 → 0 < (elF C f A k mi).2 ∧ (elF C f A k mi).2 < 2305843009213693951
  | 0, A, k, mi, _, _, h1, h2 => ⟨h1, h2⟩
  | f + 1, A, k, mi, hl, hc, h1, h2 => by
    cases h : findF A k C with
    | none => rw [elF_none h]; exact ⟨h1, h2⟩
    | some xy =>
      obtain ⟨x, y⟩ := xy
      rw [elF_some h]
      obtain ⟨q1, q2, q3, q4, _⟩ := findF_some h
      have hs := hl.elS hc (by omega) (show k < A.length by omega) (show k < C by omega) q2 q4
      have hcs := hc.elS (y := y) (show k < A.length by omega) q2
      exact elF_ne f _ _ _ (hs.elN hcs) hcs.elN (Nat.pos_of_ne_zero (elM_ne h1 h2 (elS_pos hc h) (hs k k))) (elM_lt _ _ _)
theorem resF_ltm {m : Nat} (hm : 0 < m) (rows : List (List Int)) : Ltm m (resF m rows) := by
  intro i j
  unfold ge gr resF
  rw [List.getElem?_map]
  cases hr : rows[i]? with
  | none => simpa [gn] using hm
  | some r =>
    simp only [Option.map_some, Option.getD_some]
    unfold gn resR
    rw [List.getElem?_map]
    cases hx : r[j]? with
    | none => simpa using hm
    | some x => simp only [Option.map_some, Option.getD_some]; exact rs_lt hm x
theorem resF_cl {m C : Nat} {rows : List (List Int)} (hc : ∀ r ∈ rows, r.length = C) : Cl C (resF m rows) := by
  intro i hi
  rw [resF_length] at hi
  unfold gr resF
  rw [List.getElem?_map, List.getElem?_eq_getElem hi]
  simp only [Option.map_some, Option.getD_some, resR, List.length_map]
  exact hc _ (List.getElem_mem hi)
/-- twice the minor -/
def smD (C : Nat) (rows : List (List Int)) : Nat := 2 * (minS (elF C (rows.length + 1) (resF 2305843009213693951 rows) 0 1).2).natAbs
theorem minS_bd {mi : Nat} (h1 : 0 < mi) (h2 : mi < 2305843009213693951) : 0 < (minS mi).natAbs ∧ (minS mi).natAbs ≤ 1152921504606846975 := by unfold minS; split <;> omega
theorem smD_bd {C : Nat} {rows : List (List Int)} (hc : ∀ r ∈ rows, r.length = C) : 0 < smD C rows ∧ smD C rows ≤ 2305843009213693950 := by
  obtain ⟨a, b⟩ := elF_ne (C := C) (rows.length + 1) (resF 2305843009213693951 rows) 0 1 (resF_ltm (by omega) rows) (resF_cl hc) (by omega) (by omega)
  obtain ⟨c, d⟩ := minS_bd a b
  unfold smD; omega
set_option maxHeartbeats 2000000 in
theorem Smith_any (v : Value) (rows : List (List Int)) (C : Nat) (w : World) (h : Mat w v rows) (hn : rows.length ≤ 24) (hC : C ≤ 64) (hCc : C = cols rows) (hc : ∀ r ∈ rows, r.length = C) (hs : ∀ r ∈ rows, asum r ≤ 4) :
    Calls Try.prog 42 #[v] w fun e w' => ∃ g, e = .returned (.tuple #[.slice (some ⟨g, 0, none⟩) (min rows.length C) (min rows.length C), .int .i64 0]) ∧ w.heap.size ≤ g ∧ Arr w' g 3 (nc (facO (smD C rows) C rows (min rows.length C))) ∧ Below w.heap.size w w' := by
  have hbd : ∀ r ∈ rows, ∀ x ∈ r, -9223372036854775807 ≤ x ∧ x ≤ 9223372036854775807 := fun r hr x hx => by
    have := asum_mem hx; have := hs r hr; omega
  have H1 := Lib.hid (isMatrix_any v rows C w h (by omega) hC hCc hc)
  have H2 := Lib.hid (isSmall_any v rows w h hn (fun r hr => by rw [hc r hr]; omega) hs)
  have H3 := Lib.hid (eliminate_any v rows C w h (by omega) (by omega) hc hbd)
  obtain ⟨d1, d2⟩ := smD_bd hc
  have H4 := Lib.hid (fun W (hb : Below w.heap.size w W) => factors_any v rows C (smD C rows) W (h.below hb) (by omega) (by omega) hCc hc hbd d1 (by omega))
  have hS : smD C rows = 2 * (minS (elF C (rows.length + 1) (resF 2305843009213693951 rows) 0 1).2).natAbs := rfl
  obtain ⟨A0, c0, rfl⟩ := h.rowlen
  generalize (elF C (rows.length + 1) (resF 2305843009213693951 rows) 0 1).1 = rk at *
  generalize minS (elF C (rows.length + 1) (resF 2305843009213693951 rows) 0 1).2 = mi at *
  generalize smD C rows = D at *
  have H5 := Lib.hid (fun W => abs_any mi W (by omega) (by omega))
  have e1 : 2 * ((mi.natAbs : Nat) : Int) = (D : Int) := by omega
  generalize mi.natAbs = am at *
  clear h hc hs hbd hCc hS
  go_enter Try.func42, Try.ntmps42
  go_upto_region 6 with (first | (go_at_call 65; refine H1.out.mono ?_; rintro e w' ⟨rfl, rfl⟩) | (go_at_call 66; refine H2.out.mono ?_; rintro e w' ⟨rfl, rfl⟩) | (go_at_call 67; refine H3.out.mono ?_; rintro e w' ⟨rfl, hb⟩))
  have H6 := Lib.hid (H4.out w' hb)
  go_wp2_with (first | (go_at_call 69; (with_reducible refine (H5.out _).mono ?_); rintro e w' ⟨rfl, rfl⟩) | (go_at_call 68; refine H6.out.mono ?_; rintro e w' ⟨g, rfl, hg, ha, hb2⟩))
  go_ret2
  exact ⟨g, rfl, Nat.le_trans hb.size hg, ha, hb.trans (hb2.mono hb.size)⟩
end Go.Proofs.Ytcjaloddgilnpaa
