/- unravelref26.Det. -/
/- unravelref26.Smith. -/
import Derived.Test.YtcjaloddgilnpaaZPhi
import Derived.Test.YtcjaloddgilnpaaZNxr
namespace Go.Proofs.Ytcjaloddgilnpaa
open Go.RowKit
set_option linter.unusedVariables false

theorem asum_cons (a : Int) (r : List Int) : asum (a :: r) = a.natAbs + asum r := by simp [asum]
theorem asum_erase (r : List Int) (k : Nat) : asum (r.eraseIdx k) ≤ asum r := by
  induction r generalizing k with
  | nil => simp [asum]
  | cons a r ih =>
    cases k with
    | zero => rw [List.eraseIdx_cons_zero, asum_cons]; omega
    | succ k => rw [List.eraseIdx_cons_succ, asum_cons, asum_cons]; have := ih k; omega
theorem wo_asum {k : Nat} {m : List (List Int)} (h : ∀ r ∈ m, asum r ≤ 4) : ∀ r ∈ wo k m, asum r ≤ 4 := by
  intro r hr
  unfold wo at hr
  obtain ⟨q, hq, rfl⟩ := List.mem_map.1 hr
  exact Nat.le_trans (asum_erase q k) (h q (List.mem_of_mem_tail hq))
theorem sgn_abs (k : Nat) : (sgn k).natAbs = 1 := by unfold sgn; split <;> rfl
/-- the sum so far -/
def dP (n : Nat) (m : List (List Int)) (x : Nat) : Int := sumI x (fun k => sgn k * gi (m.headD []) k * detR n (wo k m))
theorem sumN_gi (r : List Int) : ∀ x, sumN x (fun k => (gi r k).natAbs) ≤ asum r := by
  intro x
  rcases Nat.le_total x r.length with q | q
  · rw [asum_sumN]
    obtain ⟨d, hd⟩ : ∃ d, r.length = x + d := ⟨r.length - x, by omega⟩
    rw [hd]
    clear hd q
    induction d with
    | zero => exact Nat.le_refl _
    | succ d ih => rw [← Nat.add_assoc, sumN]; omega
  · rw [asum_sumN]
    obtain ⟨d, hd⟩ : ∃ d, x = r.length + d := ⟨x - r.length, by omega⟩
    rw [hd]
    clear hd q
    induction d with
    | zero => exact Nat.le_refl _
    | succ d ih =>
      rw [← Nat.add_assoc, sumN]
      have : gi r (r.length + d) = 0 := by unfold gi; rw [List.getElem?_eq_none (by omega)]; rfl
      rw [this]; simpa using ih
theorem detR_bd : ∀ (n : Nat) (m : List (List Int)), (∀ r ∈ m, asum r ≤ 4) → (detR n m).natAbs ≤ 4 ^ n
  | 0, m, _ => by simp [detR]
  | n + 1, m, h => by
    rw [detR]
    refine Nat.le_trans (natAbs_sumI _) ?_
    refine Nat.le_trans (sumN_mono (g := fun k => (gi (m.headD []) k).natAbs * 4 ^ n) (fun k _ => ?_)) ?_
    · rw [Int.natAbs_mul, Int.natAbs_mul, sgn_abs, Nat.one_mul]
      exact Nat.mul_le_mul_left _ (detR_bd n _ (wo_asum h))
    · rw [sumN_mulr, Nat.pow_succ, Nat.mul_comm (4 ^ n)]
      refine Nat.mul_le_mul_right _ (Nat.le_trans (sumN_gi _ _) ?_)
      cases m with
      | nil => simp [asum]
      | cons a m => exact h a (by simp)
theorem dP_bd {n : Nat} {m : List (List Int)} (h : ∀ r ∈ m, asum r ≤ 4) (x : Nat) : (dP n m x).natAbs ≤ 4 ^ (n + 1) := by
  unfold dP
  refine Nat.le_trans (natAbs_sumI _) ?_
  refine Nat.le_trans (sumN_mono (g := fun k => (gi (m.headD []) k).natAbs * 4 ^ n) (fun k _ => ?_)) ?_
  · rw [Int.natAbs_mul, Int.natAbs_mul, sgn_abs, Nat.one_mul]
    exact Nat.mul_le_mul_left _ (detR_bd n _ (wo_asum h))
  · rw [sumN_mulr, Nat.pow_succ, Nat.mul_comm (4 ^ n)]
    refine Nat.mul_le_mul_right _ (Nat.le_trans (sumN_gi _ _) ?_)
    cases m with
    | nil => simp [asum]
    | cons a m => exact h a (by simp)
theorem dP_step (n : Nat) (m : List (List Int)) (x : Nat) : dP n m (x + 1) = dP n m x + sgn x * gi (m.headD []) x * detR n (wo x m) := rfl
theorem sgn_pm (k : Nat) : sgn k = 1 ∨ sgn k = -1 := by unfold sgn; split <;> simp

set_option maxHeartbeats 4000000 in
set_option maxRecDepth 100000 in
theorem det_any : ∀ (n : Nat) (vm : Value) (m : List (List Int)) (w : World), Mat w vm m → Sqr n m → n ≤ 8 → (∀ r ∈ m, asum r ≤ 4) →
    Calls Try.prog 46 #[vm] w fun e w' => e = .returned (.int .i64 (detR n m)) ∧ Below w.heap.size w w'
  | 0, vm, m, w, hM, hq, hn, ha => by
    obtain ⟨A, c, rfl, hc, hx⟩ := hM
    have hl := hq.1
    rw [hl]
    clear hx hq ha hl hc
    go_enter Try.func46, Try.ntmps46
    go_wp2_with fail
    go_ret
    exact ⟨rfl, Below.refl _ _⟩
  | n + 1, vm, m, w, hM, hq, hn, ha => by
    have IH := Lib.hid (fun vm m w h1 h2 h3 => det_any n vm m w h1 h2 (by omega) h3)
    have HM := Lib.hid (fun W (hb : Below w.heap.size w W) => hM.below hb)
    have hl := hq.1
    have h0 : 0 < m.length := by omega
    have HWT := Lib.hid (fun W k (hb : Below w.heap.size w W) (hk : k < n + 1) => without_any vm m k W (hM.below hb) (by omega) (by omega) (fun r hr => by rw [hq.2 r hr]; omega))
    have HSQ := Lib.hid (fun k (hk : k < n + 1) => hq.wo hk)
    have HAS := Lib.hid (fun k => wo_asum (k := k) ha)
    have HBD := Lib.hid (fun x => dP_bd (n := n) ha x)
    have HDB := Lib.hid (fun k => detR_bd n (wo k m) (wo_asum ha))
    have HST := Lib.hid (dP_step n m)
    have HDN := Lib.hid (show detR (n + 1) m = dP n m (n + 1) from rfl)
    have HD0 := Lib.hid (show dP n m 0 = 0 from rfl)
    have hp4 : 4 ^ n ≤ 4 ^ 7 := Nat.pow_le_pow_right (by omega) (by omega)
    have hp5 : 4 ^ (n + 1) ≤ 4 ^ 8 := Nat.pow_le_pow_right (by omega) (by omega)
    have HG0 := Lib.hid (show ∀ k, k < n + 1 → (gi (m.headD []) k).natAbs ≤ 4 from fun k hk => by
      cases m with
      | nil => simp [gi]
      | cons a m =>
        have h1 := ha a (by simp)
        show (gi a k).natAbs ≤ 4
        rcases Nat.lt_or_ge k a.length with q | q
        · have : gi a k = a[k] := by unfold gi; rw [List.getElem?_eq_getElem q]; rfl
          rw [this]
          exact Nat.le_trans (asum_mem (List.getElem_mem q)) h1
        · have : gi a k = 0 := by unfold gi; rw [List.getElem?_eq_none q]; rfl
          rw [this]; simp)
    obtain ⟨A, c, rfl, hc, hx⟩ := hM
    clear hx
    have HHD := Lib.hid (show m.headD [] = m[0] by cases m with | nil => simp at h0 | cons a m => rfl)
    have HRL := Lib.hid (show m[0].length = n + 1 from hq.2 _ (List.getElem_mem h0))
    rw [HDN.out]
    clear hq ha HDN
    generalize dP n m = D at *
    have z0 : ((m.length : Int) == 0) = false := beq_eq_false_iff_ne.2 (by omega)
    go_enter Try.func46, Try.ntmps46
    go_wp2_with fail
    go_loopg [3, 4, 5] (n + 1) (fun gk s3 s4 s5 wr => ∃ k : Nat, k ≤ n + 1 ∧ gk = n + 1 - k ∧ s5 = .int .i64 (k : Int) ∧ s4 = .int .i64 (sgn k) ∧ s3 = .int .i64 (D k) ∧ Below w.heap.size w wr)
    case atStart => exact ⟨0, Nat.zero_le _, rfl, rfl, rfl, by rw [HD0.out], Below.refl _ _⟩
    case round =>
      obtain ⟨k, hk, rfl, rfl, rfl, rfl, hbr⟩ := hrel
      by_cases hlt : k < n + 1
      · have z1 : (k : Int) < (m.length : Int) := by omega
        obtain ⟨b, o, r, cr, rfl, hb2, hu, hI⟩ := mat_at (HM.out wr hbr) h0
        rw [Nat.add_zero] at hu
        have hk0 : k < m[0].length := by rw [HRL.out]; exact hlt
        obtain ⟨br, orr, rfl, hbr2, hcell⟩ := hI.at_ hk0
        have hg : m[0][k] = gi (m.headD []) k := by rw [HHD.out]; unfold gi; rw [List.getElem?_eq_getElem hk0]; rfl
        rw [hg] at hcell
        rw [HRL.out] at hu
        have hgb := HG0.out k hlt
        have HS := Lib.hid (HST.out k)
        have hd1 := HBD.out k
        have hd2 := HBD.out (k + 1)
        have hd3 := HDB.out k
        have hsg := sgn_pm k
        have HSS := Lib.hid (sgn_succ k)
        have hml : m.length ≤ 9 := by omega
        have HSK := Lib.hid (HSQ.out k hlt)
        have HAK := Lib.hid (HAS.out k)
        obtain ⟨W1, hW1⟩ : ∃ W1, W1 = wo k m := ⟨_, rfl⟩
        have HW1 := Lib.hid (fun W (hb : Below w.heap.size w W) => show Calls Try.prog 70 #[.slice (some ⟨b, o, none⟩) m.length c, .int .i64 (k : Nat)] W fun e w' => ∃ v, e = .returned v ∧ Mat w' v W1 ∧ Below W.heap.size W w' from by rw [hW1]; exact HWT.out W k hb hlt)
        rw [← hW1] at HSK HAK HS hd3
        have HDT := Lib.hid (fun v W (hm : Mat W v W1) => IH.out v W1 W hm HSK.out HAK.out)
        generalize detR n W1 = T at *
        generalize gi (m.headD []) k = V at *
        generalize sgn k = sg at *
        generalize D k = d at *
        obtain ⟨d', hd'⟩ : ∃ d', d' = D (k + 1) := ⟨_, rfl⟩
        have HD' := Lib.hid hd'
        rw [← hd'] at HS hd2
        clear hW1 HWT HSQ HAS HSK HAK hd' hI hg
        by_cases hV : V = 0
        · have z2 : (V != 0) = false := by simp [hV]
          have HE := Lib.hid (show d = D (k + 1) by rw [← HD'.out, HS.out, hV]; simp)
          have z3 : ¬ (V ≠ 0) := by simp [hV]
          clear HS HDT HW1
          subst hV
          go_wp2_with fail
          go_roundg (n + 1 - (k + 1))
          case measure => omega
          case rel => exact ⟨k + 1, by omega, rfl, by go_num, by rw [HSS.out], by rw [HE.out], hbr⟩
        · have z2 : (V != 0) = true := by simp [hV]
          obtain ⟨V1, hV1⟩ : ∃ V1, V1 = sg * V := ⟨_, rfl⟩
          obtain ⟨U, hU⟩ : ∃ U, U = V1 * T := ⟨_, rfl⟩
          have qe1 : sg * V = V1 := hV1.symm
          have qe2 : V1 * T = U := hU.symm
          have hv1 : V1.natAbs ≤ 4 := by
            rw [hV1, Int.natAbs_mul]
            rcases hsg with q | q
            · rw [q]; simpa using hgb
            · rw [q]; simpa using hgb
          have hub : U.natAbs ≤ 4 * 4 ^ 7 := by
            rw [hU, Int.natAbs_mul]
            exact Nat.mul_le_mul hv1 (by omega)
          have qe3 : d + U = d' := by rw [HS.out, qe1, qe2]
          have hs1 : sg.natAbs ≤ 1 := by rcases hsg with q | q <;> rw [q] <;> decide
          clear hV1 hU hsg HS hV
          have HWS := Lib.hid (fun (W : World) (hS : Below wr.heap.size wr W) => HW1.out W (hbr.trans (hS.mono hbr.size)))
          have z3 : (0 : Int) < (m.length : Int) := by omega
          have z4 : (k : Int) < ((n : Int) + 1) := by omega
          go_upto_region 8 with fail
          refine wp_region_phi (by kernel_rfl) (by kernel_rfl) (by kernel_rfl) (by kernel_rfl) (by kernel_rfl) (phiT (fun i => ([some (.int .i64 d), some (.int .i64 sg), some (.slice (some ⟨b, o, none⟩) m.length c), some (.pointer (some ⟨b, o, none⟩)), some (.slice (some ⟨br, orr, none⟩) (n + 1) cr), some (.int .i64 (k : Int)), some (.pointer (some ⟨br, orr + k, none⟩)), some (.int .i64 V), some (.int .i64 V1), some (.slice (some ⟨b, o, none⟩) m.length c), some (.int .i64 (k : Int)), none, some (.int .i64 T), some (.int .i64 U), some ((.int .i64 d')), some (.int .i64 d')] : List (Option Value)).getD i none) (fun i v w => (if i = 11 then (fun (v : Value) (w : World) => Mat w v W1) v w else True))) (fun i v w w' h hb => ?_) ⟨?_, ?_, ?_, ?_, ?_, ?_, ?_, ?_, ?_, ?_, ?_, ?_, ?_, ?_, ?_, ?_, trivial⟩ ?_
          · unfold phiT at h ⊢
            split
            · next u hu => rw [hu] at h; exact h
            · next hu =>
              rw [hu] at h
              simp only at h ⊢
              by_cases q11 : i = 11
              · rw [if_pos q11] at h ⊢; exact (show Mat _ _ _ from h).below hb
              · rw [if_neg q11] at h ⊢
                trivial
          · intro x w1 bA hbel hdep hold hb
            have e3 : bA.tmps[3]?.getD undef = .int .i64 d := (hb 3).trans (hold 15 (by decide))
            refine phi_run (.int .i64 d) ?_ rfl
            clear hb hdep hold
            go_simp
          · intro x w1 bA hbel hdep hold hb
            have e4 : bA.tmps[4]?.getD undef = .int .i64 sg := hb 4
            refine phi_run (.int .i64 sg) ?_ rfl
            clear hb hdep hold
            go_simp
          · intro x w1 bA hbel hdep hold hb
            have e0 : bA.tmps[0]?.getD undef = .slice (some ⟨b, o, none⟩) m.length c := hb 0
            refine phi_run (.slice (some ⟨b, o, none⟩) m.length c) ?_ rfl
            clear hb hdep hold
            go_simp
          · intro x w1 bA hbel hdep hold hb
            have e24 : bA.tmps[24]?.getD undef = .slice (some ⟨b, o, none⟩) m.length c := (hb 24).trans (hdep 2 (by decide))
            refine phi_run (.pointer (some ⟨b, o, none⟩)) ?_ rfl
            clear hb hdep hold
            go_simp
          · intro x w1 bA hbel hdep hold hb
            have e25 : bA.tmps[25]?.getD undef = .pointer (some ⟨b, o, none⟩) := (hb 25).trans (hdep 3 (by decide))
            have u1 := (hbel.cell (p := ⟨b, o, none⟩) hb2).trans hu
            refine phi_run (.slice (some ⟨br, orr, none⟩) (n + 1) cr) ?_ rfl
            clear hb hdep hold
            go_simp
          · intro x w1 bA hbel hdep hold hb
            have e5 : bA.tmps[5]?.getD undef = .int .i64 (k : Int) := hb 5
            refine phi_run (.int .i64 (k : Int)) ?_ rfl
            clear hb hdep hold
            go_simp
          · intro x w1 bA hbel hdep hold hb
            have e26 : bA.tmps[26]?.getD undef = .slice (some ⟨br, orr, none⟩) (n + 1) cr := (hb 26).trans (hdep 4 (by decide))
            have e27 : bA.tmps[27]?.getD undef = .int .i64 (k : Int) := (hb 27).trans (hdep 5 (by decide))
            refine phi_run (.pointer (some ⟨br, orr + k, none⟩)) ?_ rfl
            clear hb hdep hold
            go_simp
          · intro x w1 bA hbel hdep hold hb
            have e28 : bA.tmps[28]?.getD undef = .pointer (some ⟨br, orr + k, none⟩) := (hb 28).trans (hdep 6 (by decide))
            have u1 := (hbel.cell (p := ⟨br, orr + k, none⟩) hbr2).trans hcell
            refine phi_run (.int .i64 V) ?_ rfl
            clear hb hdep hold
            go_simp
          · intro x w1 bA hbel hdep hold hb
            have e23 : bA.tmps[23]?.getD undef = .int .i64 sg := (hb 23).trans (hdep 1 (by decide))
            have e29 : bA.tmps[29]?.getD undef = .int .i64 V := (hb 29).trans (hdep 7 (by decide))
            refine phi_run (.int .i64 V1) ?_ rfl
            clear hb hdep hold
            go_simp
            exact IntWalk.i64_in _ (by omega)
          · intro x w1 bA hbel hdep hold hb
            have e0 : bA.tmps[0]?.getD undef = .slice (some ⟨b, o, none⟩) m.length c := hb 0
            refine phi_run (.slice (some ⟨b, o, none⟩) m.length c) ?_ rfl
            clear hb hdep hold
            go_simp
          · intro x w1 bA hbel hdep hold hb
            have e5 : bA.tmps[5]?.getD undef = .int .i64 (k : Int) := hb 5
            refine phi_run (.int .i64 (k : Int)) ?_ rfl
            clear hb hdep hold
            go_simp
          · intro x w1 bA hbel hdep hold hb
            have e31 : bA.tmps[31]?.getD undef = .slice (some ⟨b, o, none⟩) m.length c := (hb 31).trans (hdep 9 (by decide))
            have e32 : bA.tmps[32]?.getD undef = .int .i64 (k : Int) := (hb 32).trans (hdep 10 (by decide))
            refine phi_call ?_ ((HWS.out _ hbel).mono fun e w' ⟨v, he, hm, hb'⟩ => ⟨v, he, hb', hm⟩)
            clear hb hdep hold
            go_simp
          · intro x w1 bA hbel hdep hold hb
            have p33 := hdep 11 (by decide)
            have e33 : bA.tmps[33]?.getD undef = x 11 := hb 33
            generalize x 11 = x33 at p33 e33
            have P33 := Lib.hid (show (fun (v : Value) (w : World) => Mat w v W1) x33 w1 from p33)
            clear p33
            refine phi_call ?_ ((HDT.out _ _ P33.out).mono fun e w' ⟨he, hb'⟩ => ⟨_, he, hb', rfl⟩)
            clear hb hdep hold
            go_simp
          · intro x w1 bA hbel hdep hold hb
            have e30 : bA.tmps[30]?.getD undef = .int .i64 V1 := (hb 30).trans (hdep 8 (by decide))
            have e34 : bA.tmps[34]?.getD undef = .int .i64 T := (hb 34).trans (hdep 12 (by decide))
            refine phi_run (.int .i64 U) ?_ rfl
            clear hb hdep hold
            go_simp
            exact IntWalk.i64_in _ (by omega)
          · intro x w1 bA hbel hdep hold hb
            have e22 : bA.tmps[22]?.getD undef = .int .i64 d := (hb 22).trans (hdep 0 (by decide))
            have e35 : bA.tmps[35]?.getD undef = .int .i64 U := (hb 35).trans (hdep 13 (by decide))
            refine phi_run ((.int .i64 d')) ?_ rfl
            clear hb hdep hold
            go_simp
            exact IntWalk.i64_in _ (by omega)
          · intro x w1 bA hbel hdep hold hb
            have e36 : bA.tmps[36]?.getD undef = (.int .i64 d') := (hb 36).trans (hdep 14 (by decide))
            refine phi_run (.int .i64 d') ?_ rfl
            clear hb hdep hold
            go_simp
          intro x w1 hbel hall
          have x0e : x 0 = .int .i64 d := hall 0 (by decide)
          have x1e : x 1 = .int .i64 sg := hall 1 (by decide)
          have x2e : x 2 = .slice (some ⟨b, o, none⟩) m.length c := hall 2 (by decide)
          have x3e : x 3 = .pointer (some ⟨b, o, none⟩) := hall 3 (by decide)
          have x4e : x 4 = .slice (some ⟨br, orr, none⟩) (n + 1) cr := hall 4 (by decide)
          have x5e : x 5 = .int .i64 (k : Int) := hall 5 (by decide)
          have x6e : x 6 = .pointer (some ⟨br, orr + k, none⟩) := hall 6 (by decide)
          have x7e : x 7 = .int .i64 V := hall 7 (by decide)
          have x8e : x 8 = .int .i64 V1 := hall 8 (by decide)
          have x9e : x 9 = .slice (some ⟨b, o, none⟩) m.length c := hall 9 (by decide)
          have x10e : x 10 = .int .i64 (k : Int) := hall 10 (by decide)
          have p33 := hall 11 (by decide)
          have x12e : x 12 = .int .i64 T := hall 12 (by decide)
          have x13e : x 13 = .int .i64 U := hall 13 (by decide)
          have x14e : x 14 = (.int .i64 d') := hall 14 (by decide)
          have x15e : x 15 = .int .i64 d' := hall 15 (by decide)
          simp only [putAll, dstOf, Act.put, List.map_cons, List.map_nil, List.setIfInBounds_toArray, List.set_cons_succ, List.set_cons_zero, Nat.reduceAdd, x0e, x1e, x2e, x3e, x4e, x5e, x6e, x7e, x8e, x9e, x10e, x12e, x13e, x14e, x15e]
          clear x0e x1e x2e x3e x4e x5e x6e x7e x8e x9e x10e x12e x13e x14e x15e hall
          clear p33
          go_wp2_with fail
          have hb10 := hbr.trans (hbel.mono hbr.size)
          go_roundg (n + 1 - (k + 1))
          case measure => omega
          case rel => exact ⟨k + 1, by omega, rfl, by go_num, by rw [HSS.out], by rw [← HD'.out], hb10⟩
      · have z1 : ¬ ((k : Int) < (m.length : Int)) := by omega
        have hkn : k = n + 1 := by omega
        subst hkn
        go_wp2_with fail
        go_ret
        exact ⟨rfl, hbr⟩
end Go.Proofs.Ytcjaloddgilnpaa

namespace Go.Proofs.Ytcjaloddgilnpaa
open Go.RowKit
set_option linter.unusedVariables false

theorem pick_asum {rows : List (List Int)} {n C r c : Nat} (h : ∀ q ∈ rows, asum q ≤ 4) : ∀ q ∈ pickF rows n C r c, asum q ≤ 4 := by
  intro q hq
  unfold pickF at hq
  obtain ⟨i, _, rfl⟩ := List.mem_map.1 hq
  have key : ∀ row : List Int, asum row ≤ 4 → asum ((sel C c).map (gi row)) ≤ 4 := by
    intro row hr
    have e : asum ((sel C c).map (gi row)) = ((sel C c).map (fun k => (gi row k).natAbs)).sum := by
      unfold asum; rw [List.map_map]; rfl
    rw [e]
    have hnd : (sel C c).Nodup := (List.nodup_range (n := C)).filter _
    exact Nat.le_trans (Nat.le_trans (sum_nodup _ C _ hnd (fun x hx => sel_lt hx)) (sumN_gi row C)) hr
  rcases Nat.lt_or_ge i rows.length with w | w
  · rw [List.getElem?_eq_getElem w]
    exact key _ (h _ (List.getElem_mem w))
  · rw [List.getElem?_eq_none w]
    exact key _ (by simp [asum])
theorem det_le {rows : List (List Int)} {n C k r c : Nat} (h : ∀ q ∈ rows, asum q ≤ 4) (hk : k ≤ 8) : (detR k (pickF rows n C r c)).natAbs ≤ 65536 :=
  Nat.le_trans (detR_bd k _ (pick_asum h)) (Nat.pow_le_pow_right (by omega) hk)
theorem gcd_le2 {a b B : Nat} (ha : a ≤ B) (hb : b ≤ B) : Nat.gcd a b ≤ B := by
  rcases Nat.eq_zero_or_pos a with q | q
  · subst q; rw [Nat.gcd_zero_left]; exact hb
  · exact Nat.le_trans (Nat.le_of_dvd q (Nat.gcd_dvd_left _ _)) ha
theorem gcC_le {rows : List (List Int)} {n C k r g : Nat} (h : ∀ q ∈ rows, asum q ≤ 4) (hk : k ≤ 8) (hg : g ≤ 65536) : ∀ c, gcC rows n C k r g c ≤ 65536
  | 0 => hg
  | c + 1 => by
    rw [gcC]; split
    · exact gcd_le2 (gcC_le h hk hg c) (det_le h hk)
    · exact gcC_le h hk hg c
theorem gcR_le {rows : List (List Int)} {n C k : Nat} (h : ∀ q ∈ rows, asum q ≤ 4) (hk : k ≤ 8) : ∀ r, gcR rows n C k r ≤ 65536
  | 0 => by simp [gcR]
  | r + 1 => by
    rw [gcR]; split
    · exact gcC_le h hk (gcR_le h hk r) _
    · exact gcR_le h hk r
set_option maxHeartbeats 400000 in
set_option maxRecDepth 100000 in
theorem smith26_any (vm : Value) (rows : List (List Int)) (n C d : Nat) (w : World) (hM : Mat w vm rows) (hn : rows.length = n) (hn5 : n ≤ 8) (hC : C ≤ 24) (hd : d = min n C) (hc : ∀ r ∈ rows, r.length = C) (hs : ∀ r ∈ rows, asum r ≤ 4) :
    Calls Try.prog 22 #[vm, .int .i64 (C : Nat)] w fun e w' => ∃ v, e = .returned v ∧ OwnI 3 w.heap.size w' v (zs ((List.range d).map (gn (facO (smD C rows) C rows d)))) ∧ Below w.heap.size w w' := by
  obtain ⟨i0, hi0, hz0, hz1, hz2⟩ := info_parts info_int
  have HM := Lib.hid (fun W (hb : Below w.heap.size w W) => hM.below hb)
  have HPI := Lib.hid (fun W r c (hb : Below w.heap.size w W) (h1 : r < 2 ^ n) (h2 : c < 2 ^ C) => pick_any vm rows C r c W (hM.below hb) (by omega) (by omega) hc (Nat.lt_of_lt_of_le h1 (Nat.le_trans (Nat.pow_le_pow_right (by omega) hn5) (by decide))) (Nat.lt_of_lt_of_le h2 (Nat.le_trans (Nat.pow_le_pow_right (by omega) hC) (by decide))))
  rw [hn] at HPI
  have HDE := Lib.hid (fun v W k r c (h1 : r < 2 ^ n) (h2 : c < 2 ^ C) (hk : k ≤ 8) (b1 : bitN r = k) (b2 : bitN c = k) (hm : Mat W v (pickF rows n C r c)) => det_any k v _ W hm (pickF_sqr (by rw [sel_length n r h1, b1]) (by rw [sel_length C c h2, b2])) hk (pick_asum hs))
  have HDL := Lib.hid (fun k r c (hk : k ≤ 8) => det_le (rows := rows) (n := n) (C := C) (k := k) (r := r) (c := c) hs hk)
  have HCS := Lib.hid (fun k r g c => show gcC rows n C k r g (c + 1) = if bitN c = k then Nat.gcd (gcC rows n C k r g c) (detR k (pickF rows n C r c)).natAbs else gcC rows n C k r g c from rfl)
  have HRS := Lib.hid (fun k r => show gcR rows n C k (r + 1) = if bitN r = k then gcC rows n C k r (gcR rows n C k r) (2 ^ C) else gcR rows n C k r from rfl)
  have HCL := Lib.hid (fun k r g c (hk : k ≤ 8) (hg : g ≤ 65536) => gcC_le (rows := rows) (n := n) (C := C) (k := k) (r := r) (g := g) hs hk hg c)
  have HRL := Lib.hid (fun k r (hk : k ≤ 8) => gcR_le (rows := rows) (n := n) (C := C) (k := k) hs hk r)
  have HSM := Lib.hid (fun k (hk : k < d) => smith_minors hn (by omega) hd hc hs (show k + 1 ≤ d by omega) (fun e => gcR_all (rows := rows) (n := n) (C := C) (k := k + 1) e))
  have HST := Lib.hid (fun k (hk : k < d) => smith_step hn (by omega) hd hc hs hk)
  generalize facO (smD C rows) C rows d = F at *
  obtain ⟨A, ca, rfl, hca, hx⟩ := hM
  rw [hn] at HM HPI hca ⊢
  clear hx hc hs hn
  have HE0 := Lib.hid (show min (n : Int) (C : Int) = (d : Int) by omega)
  have hd8 : d ≤ 8 := by omega
  clear hd
  have hp8 : 2 ^ n ≤ 256 := Nat.le_trans (Nat.pow_le_pow_right (by omega) hn5) (by decide)
  have hp24 : 2 ^ C ≤ 16777216 := Nat.le_trans (Nat.pow_le_pow_right (by omega) hC) (by decide)
  have hp1 : 0 < 2 ^ C := Nat.pow_pos (by omega)
  have s1 : (2 : Int) ^ n = ((2 ^ n : Nat) : Int) := by simp
  have s2 : (2 : Int) ^ C = ((2 ^ C : Nat) : Int) := by simp
  obtain ⟨N2, hN2⟩ : ∃ N, N = 2 ^ n := ⟨_, rfl⟩
  obtain ⟨C2, hC2⟩ : ∃ N, N = 2 ^ C := ⟨_, rfl⟩
  rw [← hN2] at HPI HDE hp8 HSM HST s1
  rw [← hC2] at HPI HDE hp24 HRS s2 hp1
  have e1 : wrap64 ((2 : Int) ^ n) = (N2 : Int) := by rw [s1]; exact IntWalk.wrap64_in _ (by omega)
  have e2 : wrap64 ((2 : Int) ^ C) = (C2 : Int) := by rw [s2]; exact IntWalk.wrap64_in _ (by omega)
  have HZC := Lib.hid (fun k r g => show gcC rows n C k r g 0 = g from rfl)
  have HZR := Lib.hid (fun k => show gcR rows n C k 0 = 0 from rfl)
  have HBI := Lib.hid (fun x W (h : x < 9223372036854775808) => bits_any x W h)
  clear s1 s2 hN2 hC2
  generalize gcR rows n C = GR at *
  generalize gcC rows n C = GC at *
  generalize bitN = BN at *
  generalize pickF rows n C = PK at *
  go_enter Try.func22, Try.ntmps22
  go_wp2_with fail
  go_loopg [5, 6, 7] d (fun gk s5 s6 s7 wr => ∃ x K : Nat, Hid (K = x + 1) ∧ x ≤ d ∧ gk = d - x ∧ s7 = .int .i64 (K : Int) ∧ s6 = .int .i64 (prodN x (gn F) : Int) ∧ OwnI 3 w.heap.size wr s5 (zs ((List.range x).map (gn F))) ∧ Below w.heap.size w wr)
  case atStart => exact ⟨0, 1, Lib.hid rfl, Nat.zero_le _, rfl, rfl, rfl, OwnI.nil _ _ _, Below.refl _ _⟩
  case round =>
    obtain ⟨x, K, HK, hx, rfl, rfl, rfl, hown, hbr⟩ := hrel
    obtain ⟨wq, rfl⟩ : ∃ y, y = wr := ⟨_, rfl⟩
    by_cases hlt : x < d
    · have z1 : (K : Int) ≤ (d : Int) := by have := HK.out; omega
      have hK8 : K ≤ 8 := by have := HK.out; omega
      have e0 := HE0.out
      have hK1 : 1 ≤ K := by have := HK.out; omega
      obtain ⟨A5, c5, rfl⟩ := hown.form
      have HOW := Lib.hid hown
      clear hown
      go_wp2_with fail
      clear e0
      go_loopg [8, 9] N2 (fun gk s8 s9 wr => ∃ r : Nat, r ≤ N2 ∧ gk = N2 - r ∧ s9 = .int .i64 (r : Int) ∧ s8 = .int .i64 (GR K r : Int) ∧ Below wq.heap.size wq wr)
      case atStart => exact ⟨0, Nat.zero_le _, rfl, rfl, by rw [HZR.out]; rfl, Below.refl _ _⟩
      case round =>
        obtain ⟨r, hr, rfl, rfl, rfl, hbx⟩ := hrel
        obtain ⟨wr2, rfl⟩ : ∃ y, y = wr := ⟨_, rfl⟩
        have hgb := HRL.out K r hK8
        have HS := Lib.hid (HRS.out K r)
        by_cases hrt : r < N2
        · have z2 : (r : Int) < (N2 : Int) := by omega
          have HB1 := Lib.hid (fun W => HBI.out r W (by omega))
          generalize hbr1 : BN r = br1 at *
          by_cases hbk : br1 = K
          · subst hbk
            rw [if_pos rfl] at HS
            generalize GR br1 r = g0 at *
            go_wp2_with fail
            try rw [e1]
            go_loopg [8, 10] C2 (fun gk s8 s10 wr => ∃ c : Nat, c ≤ C2 ∧ gk = C2 - c ∧ s10 = .int .i64 (c : Int) ∧ s8 = .int .i64 (GC br1 r g0 c : Int) ∧ Below wr2.heap.size wr2 wr)
            case atStart => exact ⟨0, Nat.zero_le _, rfl, rfl, by rw [HZC.out], Below.refl _ _⟩
            case round =>
              obtain ⟨c, hc, rfl, rfl, rfl, hby⟩ := hrel
              have hgc := HCL.out br1 r g0 c hK8 hgb
              have HSC := Lib.hid (HCS.out br1 r g0 c)
              by_cases hct : c < C2
              · have z3 : (c : Int) < (C2 : Int) := by omega
                have HB2 := Lib.hid (fun W => HBI.out c W (by omega))
                have z4 : ((br1 : Int) == (br1 : Int)) = true := by simp
                obtain ⟨bc, hbc⟩ : ∃ q, q = BN c := ⟨_, rfl⟩
                rw [← hbc] at HB2 HSC
                have hp : (PK r c) = PK r c := rfl
                clear hp
                by_cases hbk2 : bc = br1
                · rw [if_pos hbk2] at HSC
                  have HPC := Lib.hid (fun W (hb : Below w.heap.size w W) => HPI.out W r c hb hrt hct)
                  have HDC := Lib.hid (fun v W hm => HDE.out v W br1 r c hrt hct hK8 hbr1 (hbc.symm.trans hbk2) hm)
                  have hdl := HDL.out br1 r c hK8
                  have z5 : ((bc : Int) == (br1 : Int)) = true := by simp [hbk2]
                  generalize PK r c = PM at *
                  generalize detR br1 PM = T at *
                  have HAB := Lib.hid (fun W => abs26_any T W (by omega) (by omega))
                  have hta : T.natAbs ≤ 65536 := hdl
                  generalize T.natAbs = ta at *
                  generalize GC br1 r g0 c = gc at *
                  have HGC := Lib.hid (fun W => gcd26_any gc ta W (by omega) (by omega))
                  generalize Nat.gcd gc ta = g1 at *
                  have hbw := hbr.trans ((hbx.trans (hby.mono hbx.size)).mono hbr.size)
                  clear hbk2 hbc hbr1 hdl
                  go_wp2_with (first | (go_at_call_of 43 (Value.int .i64 (c : Int)); refine (HB2.out _).mono ?_; rintro e w30 ⟨rfl, rfl⟩) | (go_at_call 43; refine (HB1.out _).mono ?_; rintro e w31 ⟨rfl, rfl⟩) | (go_at_call 47; refine (HPC.out _ hbw).mono ?_; rintro e w32 ⟨v32, rfl, hm32, hb32⟩) | (go_at_call 46; refine (HDC.out _ _ hm32).mono ?_; rintro e w33 ⟨rfl, hb33⟩) | (go_at_call 45; refine (HAB.out _).mono ?_; rintro e w34 ⟨rfl, rfl⟩) | (go_at_call 44; refine (HGC.out _).mono ?_; rintro e w35 ⟨nq, rfl, rfl⟩))
                  go_roundg (C2 - (c + 1))
                  case measure => omega
                  case rel => exact ⟨c + 1, by omega, rfl, by go_num, by rw [HSC.out], bdrewN (hby.trans ((hb32.trans (hb33.mono hb32.size)).mono hby.size)) _⟩
                · rw [if_neg hbk2] at HSC
                  have z5 : ((bc : Int) == (br1 : Int)) = false := beq_eq_false_iff_ne.2 (by omega)
                  clear hbk2 hbc
                  go_wp2_with (first | (go_at_call_of 43 (Value.int .i64 (c : Int)); refine (HB2.out _).mono ?_; rintro e w30 ⟨rfl, rfl⟩) | (go_at_call 43; refine (HB1.out _).mono ?_; rintro e w31 ⟨rfl, rfl⟩))
                  go_roundg (C2 - (c + 1))
                  case measure => omega
                  case rel => exact ⟨c + 1, by omega, rfl, by go_num, by rw [HSC.out], hby⟩
              · have z3 : ¬ ((c : Int) < (C2 : Int)) := by omega
                have hcC : c = C2 := by omega
                have HE := Lib.hid (show GC br1 r g0 c = GR br1 (r + 1) by rw [HS.out, hcC])
                clear hcC
                go_wp2_with fail
                go_roundg (N2 - (r + 1))
                case measure => omega
                case rel => exact ⟨r + 1, by omega, rfl, by go_num, by rw [HE.out], hbx.trans (hby.mono hbx.size)⟩
          · rw [if_neg hbk] at HS
            have z3 : ((br1 : Int) == (K : Int)) = false := beq_eq_false_iff_ne.2 (by omega)
            have z4 : (0 : Int) < (C2 : Int) := Int.ofNat_lt.2 hp1
            go_wp2_with fail
            go_loopg [8, 10] 0 (fun gk s8 s10 wr => gk = 0 ∧ s8 = .int .i64 (GR K r : Int) ∧ s10 = .int .i64 0 ∧ wr = wr2)
            case atStart => exact ⟨rfl, rfl, rfl, rfl⟩
            case round =>
              obtain ⟨rfl, rfl, rfl, rfl⟩ := hrel
              go_wp2_with (go_at_call 43; refine (HB1.out _).mono ?_; rintro e w30 ⟨rfl, rfl⟩)
              go_roundg (N2 - (r + 1))
              case measure => omega
              case rel => exact ⟨r + 1, by omega, rfl, by go_num, by rw [HS.out], hbx⟩
        · have z2 : ¬ ((r : Int) < (N2 : Int)) := by omega
          have hrN : r = N2 := by omega
          have hxk := HK.out
          have HG := Lib.hid (show GR K r = prodN K (gn F) by rw [hrN, hxk]; exact HSM.out x hlt)
          have HG2 := Lib.hid (show (GR K r = 0 → gn F x = 0) ∧ (GR K r ≠ 0 → prodN x (gn F) ≠ 0 ∧ GR K r / prodN x (gn F) = gn F x) by rw [hrN, hxk]; exact HST.out x hlt)
          have HLS := Lib.hid (show zs ((List.range (x + 1)).map (gn F)) = zs ((List.range x).map (gn F)) ++ [(gn F x : Int)] by rw [List.range_succ, List.map_append]; unfold zs; rw [List.map_append]; rfl)
          have hll : (zs ((List.range x).map (gn F))).length ≤ 8 := by rw [zs_length]; simp; omega
          have HO2 := Lib.hid (HOW.out.below hbx (Nat.le_refl _))
          have hbw := hbr.trans (hbx.mono hbr.size)
          have hbz := hbw.size
          generalize zs ((List.range x).map (gn F)) = LL at *
          generalize gn F x = fx at *
          generalize GR K r = g at *
          generalize prodN x (gn F) = P at *
          clear hrN hxk HS
          by_cases hg0 : g = 0
          · have hfx := HG2.out.1 hg0
            have z3 : ((g : Int) == 0) = true := by simp [hg0]
            have HP0 := Lib.hid (show (prodN K (gn F) : Int) = 0 by rw [← HG.out, hg0]; rfl)
            subst hfx
            clear hg0
            go_wp2_with (at_builtin; refine wpList_appI rfl _ _ 22 rfl Try.underlying22 hi0 hz0 hz1 hz2 rfl (HO2.out.alloc _) rfl (Ints.one wr2 3 _) (by simp; omega) (Nat.le_trans hbz (by simp)) ?_; intro v' w1 hown' hb1 hk1)
            have hb2 := (hbw.alloc hbw.size _).trans hb1
            go_roundg (d - (x + 1))
            case measure => omega
            case rel => exact ⟨x + 1, K + 1, Lib.hid (by have := HK.out; omega), by omega, rfl, by go_num, by rw [show x + 1 = K from HK.out.symm, HP0.out], by rw [HLS.out]; exact hown', hb2⟩
          · obtain ⟨hP0, hq⟩ := HG2.out.2 hg0
            have z3 : ((g : Int) == 0) = false := beq_eq_false_iff_ne.2 (by omega)
            have z4 : ((P : Int) == 0) = false := beq_eq_false_iff_ne.2 (by omega)
            have z5 : (P : Int) ≠ 0 := by omega
            have e3 : (g : Int) / (P : Int) = (fx : Int) := by rw [← hq]; simp
            have hfx : fx ≤ g := by rw [← hq]; exact Nat.div_le_self _ _
            clear hq
            go_wp2_with (at_builtin; refine wpList_appI rfl _ _ 22 rfl Try.underlying22 hi0 hz0 hz1 hz2 rfl (HO2.out.alloc _) rfl (Ints.one wr2 3 _) (by simp; omega) (Nat.le_trans hbz (by simp)) ?_; intro v' w1 hown' hb1 hk1)
            have hb2 := (hbw.alloc hbw.size _).trans hb1
            go_roundg (d - (x + 1))
            case measure => omega
            case rel => exact ⟨x + 1, K + 1, Lib.hid (by have := HK.out; omega), by omega, rfl, by go_num, by rw [show x + 1 = K from HK.out.symm, HG.out], by rw [HLS.out]; exact hown', hb2⟩
    · have z1 : ¬ ((K : Int) ≤ (d : Int)) := by have := HK.out; omega
      have hxd : x = d := by omega
      rw [hxd] at hown
      clear hxd
      have e0 := HE0.out
      have HOX := Lib.hid hown
      obtain ⟨A5, c5, rfl⟩ := hown.form
      clear hown
      go_wp2_with fail
      go_ret
      exact ⟨_, rfl, HOX.out, hbr⟩
end Go.Proofs.Ytcjaloddgilnpaa
