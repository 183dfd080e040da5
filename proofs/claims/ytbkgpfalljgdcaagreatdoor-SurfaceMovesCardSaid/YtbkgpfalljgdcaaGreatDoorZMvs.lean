/- polymatrix: formed, columns, full, slices.ContainsFunc at polynomials; Det. -/
/- What Det returns is the determinant: told by values at the positive integers (plain). -/
/- surface.Alexander: plain: the matrix of polynomials of a small matrix of integers. -/
/- laurent.Shift. -/
import Derived.Test.YtbkgpfalljgdcaaGreatDoorZDtm
import Derived.Test.YtbkgpfalljgdcaaGreatDoorZSfp
import Derived.Test.YtbkgpfalljgdcaaGreatDoorZOwn
namespace Go.Proofs.YtbkgpfalljgdcaaGreatDoor
open Go.RowKit
set_option linter.unusedVariables false

set_option maxHeartbeats 1000000 in
theorem columns_any (v : Value) (M : List (List LP)) (w : World) (h : MatQ w v M) (hn : M.length ≤ 1000) (hsq : ∀ r ∈ M, r.length = M.length) :
    Calls Tryz.prog 40 #[v] w fun e w' => e = .returned (.int .i64 (M.length : Int)) ∧ Below w.heap.size w w' := by
  obtain ⟨A, c, rfl⟩ := h.form
  rcases Nat.eq_zero_or_pos M.length with h0 | h0
  · have z1 : ((M.length : Int) == 0) = true := by rw [beq_iff_eq]; omega
    have H0 := Lib.hid h0
    clear h h0 hsq
    generalize M.length = n at *
    go_enter Tryz.func40, Tryz.ntmps40
    go_wp2_with fail
    go_ret
    exact ⟨by rw [H0.out]; rfl, Below.refl _ _⟩
  · have z1 : ((M.length : Int) == 0) = false := by rw [beq_eq_false_iff_ne]; omega
    obtain ⟨b, o, hA, hnm, u, hu, hrow⟩ := h.at_ h0
    clear hnm
    subst hA
    obtain ⟨A1, c1, rfl⟩ := hrow.form
    rw [hsq _ (List.getElem_mem h0)] at hu
    have c1 := hu
    have z2 : (0 : Int) < (M.length : Int) := by omega
    clear hu hrow h h0 hsq
    rw [Nat.add_zero] at c1
    generalize M.length = n at *
    go_enter Tryz.func40, Tryz.ntmps40
    go_wp2_with fail
    go_ret
    exact ⟨rfl, Below.refl _ _⟩
set_option maxHeartbeats 1000000 in
theorem full_any (v : Value) (M : List (List LP)) (w : World) (h : MatQ w v M) (hn : M.length ≤ 64) (hsq : ∀ r ∈ M, r.length = M.length) :
    Calls Tryz.prog 39 #[v] w fun e w' => e = .returned (.bool false) ∧ Below w.heap.size w w' := by
  have HC := Lib.hid (fun W (hb : Below w.heap.size w W) => columns_any v M W (h.below hb) (by omega) hsq)
  obtain ⟨A, c, rfl⟩ := h.form
  clear h hsq
  generalize M.length = n at *
  have z1 : ¬ ((64 : Int) < (n : Int)) := by omega
  go_enter Tryz.func39, Tryz.ntmps39
  go_wp2_with (go_at_call 40; refine (HC.out _ (by first | exact (Below.refl _ _) | exact (Below.refl _ _).drew)).mono ?_; rintro e w' ⟨rfl, hb⟩)
  go_ret
  exact ⟨by simp; omega, hb⟩
set_option maxHeartbeats 1000000 in
theorem formed_any (v : Value) (M : List (List LP)) (w : World) (h : MatQ w v M) (hn : M.length ≤ 1000) (hsq : ∀ r ∈ M, r.length = M.length) :
    Calls Tryz.prog 38 #[v] w fun e w' => e = .returned (.bool true) ∧ Below w.heap.size w w' := by
  have HH := Lib.hid h
  have HSQ := Lib.hid hsq
  obtain ⟨A, c, rfl⟩ := h.form
  obtain ⟨n, hnn⟩ : ∃ n, n = M.length := ⟨_, rfl⟩
  rw [← hnn] at HH HSQ hn ⊢
  have HN := Lib.hid hnn
  clear h hsq hnn
  go_enter Tryz.func38, Tryz.ntmps38
  go_upto_region 2 with fail
  go_loopg [4, 7] n (fun gk s4 s7 wr => ∃ i : Nat, i ≤ n ∧ gk = n - i ∧ s7 = .int .i64 (i : Int) ∧ wr = w)
  case atStart => exact ⟨0, by omega, rfl, rfl, rfl⟩
  case round =>
    obtain ⟨i, hi, rfl, rfl, rfl⟩ := hrel
    by_cases hit : i < n
    · have z1 : (i : Int) < (n : Int) := by omega
      have z3 : (0 : Int) < (n : Int) := by omega
      have hml : i < M.length := by rw [← HN.out]; exact hit
      have hm0 : 0 < M.length := by omega
      obtain ⟨b1, o1, hA, hnm, u, hu, hrow⟩ := HH.out.at_ hml
      obtain ⟨b2, o2, hA2, hnm2, u2, hu2, hrow2⟩ := HH.out.at_ hm0
      clear hnm hnm2
      subst hA
      injection hA2 with hA2
      injection hA2 with e1 e2
      subst e1; subst e2
      obtain ⟨A1, c1', rfl⟩ := hrow.form
      obtain ⟨A2, c2', rfl⟩ := hrow2.form
      rw [HSQ.out _ (List.getElem_mem hml)] at hu
      rw [HSQ.out _ (List.getElem_mem hm0), Nat.add_zero] at hu2
      have c1 := hu
      have c2 := hu2
      have z4 : ((n : Int) != (n : Int)) = false := by simp
      clear hu hu2 hrow hrow2 hml hm0
      go_wp2_with fail
      go_roundg (n - (i + 1))
      case measure => omega
      case rel => exact ⟨i + 1, by omega, rfl, by go_num, rfl⟩
    · have z1 : ¬ ((i : Int) < (n : Int)) := by omega
      go_wp2_with fail
      go_ret
      exact ⟨rfl, Below.refl _ _⟩
set_option maxHeartbeats 2000000 in
set_option maxRecDepth 100000 in
theorem indexBig_any (v : Value) (r : List LP) (w : World) (h : RowQ w v r) (hn : r.length ≤ 1000) :
    Calls Tryz.prog 51 #[v, .func (.func 42) #[] #[]] w fun e w' => e = .returned (.int .i64 (-1)) ∧ Below w.heap.size w w' := by
  have HH := Lib.hid (fun W (hb : Below w.heap.size w W) => h.below hb)
  obtain ⟨A, c, rfl⟩ := h.form
  obtain ⟨n, hnn⟩ : ∃ n, n = r.length := ⟨_, rfl⟩
  rw [← hnn] at HH hn ⊢
  have HN := Lib.hid hnn
  clear h hnn
  go_enter Tryz.func51, Tryz.ntmps51
  go_upto_region 2 with fail
  go_loopg [5, 8] n (fun gk s5 s8 wr => ∃ i : Nat, i ≤ n ∧ gk = n - i ∧ s8 = .int .i64 (i : Int) ∧ Below w.heap.size w wr)
  case atStart => exact ⟨0, by omega, rfl, rfl, Below.refl _ _⟩
  case round =>
    obtain ⟨i, hi, rfl, rfl, hb⟩ := hrel
    obtain ⟨wo, rfl⟩ : ∃ wo : World, wo = wr := ⟨_, rfl⟩
    by_cases hit : i < n
    · have z1 : (i : Int) < (n : Int) := by omega
      have hml : i < r.length := by rw [← HN.out]; exact hit
      obtain ⟨b2, o2, bb, A2, n2, c2, hA1, hnm, q0, q1, hpv⟩ := (HH.out wo hb).at_ hml
      clear hnm
      subst hA1
      generalize r[i] = p at hpv
      have HBG := Lib.hid (Big_any _ _ wo hpv)
      simp only [Option.isNone_some] at HBG
      have HB := Lib.hid hb
      clear hpv hb hml
      go_wp2_with fail
      refine HBG.out.mono ?_
      rintro e w5 ⟨rfl, hb5⟩
      have HB5 := Lib.hid (HB.out.trans (hb5.mono HB.out.size))
      clear q0 q1 hb5 HBG
      go_wp2_with fail
      go_roundg (n - (i + 1))
      case measure => omega
      case rel => exact ⟨i + 1, by omega, rfl, by go_num, HB5.out⟩
    · have z1 : ¬ ((i : Int) < (n : Int)) := by omega
      have HB := Lib.hid hb
      clear hb
      go_wp2_with fail
      go_ret
      exact ⟨rfl, HB.out⟩
set_option maxHeartbeats 1000000 in
theorem containsBig_any (v : Value) (r : List LP) (w : World) (h : RowQ w v r) (hn : r.length ≤ 1000) :
    Calls Tryz.prog 41 #[v, .func (.func 42) #[] #[]] w fun e w' => e = .returned (.bool false) ∧ Below w.heap.size w w' := by
  have HI := Lib.hid (indexBig_any v r w h hn)
  obtain ⟨A, c, rfl⟩ := h.form
  clear h
  generalize r.length = n at *
  go_enter Tryz.func41, Tryz.ntmps41
  go_wp2_with fail
  refine HI.out.mono ?_
  rintro e w5 ⟨rfl, hb5⟩
  go_wp2_with fail
  go_ret
  exact ⟨rfl, hb5⟩
/-- what Det returns: the determinant, or that it is big -/
def DetQ (M : List (List LP)) (w : World) (e : Ending) (w' : World) : Prop :=
  Below w.heap.size w w' ∧ ((∃ v p, e = .returned (.tuple #[v, .int .i64 0]) ∧ PolyV w' v (some p) ∧ ((p = [] ∧ ∃ r ∈ M, (rwS r).2.2 = false) ∨ (NzR M ∧ SmC M ∧ ofP (lowS M) (dtC (tmM M) (degS M).toNat) = some p))) ∨
    (e = .returned (.tuple #[.agg #[.bool false, .slice none 0 0], .int .i64 9]) ∧ NzR M ∧ (¬ SmC M ∨ ofP (lowS M) (dtC (tmM M) (degS M).toNat) = none)))
set_option maxHeartbeats 4000000 in
set_option maxRecDepth 100000 in
theorem Det_any (v : Value) (M : List (List LP)) (w : World) (h : MatQ w v M) (hn : M.length ≤ 64) (hsq : ∀ r ∈ M, r.length = M.length) (hok : ∀ r ∈ M, OkR r) (hdeg : degS M < 131072) (hT : Tb6 w) (hK : cntF (tmM M) ≤ 16) :
    Calls Tryz.prog 28 #[v] w (DetQ M w) := by
  have HFO := Lib.hid (fun W (hb : Below w.heap.size w W) => formed_any v M W (h.below hb) (by omega) hsq)
  have HFU := Lib.hid (fun W (hb : Below w.heap.size w W) => full_any v M W (h.below hb) hn hsq)
  have HCO := Lib.hid (fun W (hb : Below w.heap.size w W) => columns_any v M W (h.below hb) (by omega) hsq)
  have HDE := Lib.hid (fun W (hb : Below w.heap.size w W) => determinant_any v M W (h.below hb) hn hsq hok hdeg (hT.below hb) hK)
  have HM := Lib.hid (fun W (hb : Below w.heap.size w W) => h.below hb)
  have HSQ := Lib.hid hsq
  obtain ⟨A, c, rfl⟩ := h.form
  obtain ⟨n, hnn⟩ : ∃ n, n = M.length := ⟨_, rfl⟩
  rw [← hnn] at HFO HFU HCO HDE HM HSQ hn ⊢
  have HN := Lib.hid hnn
  clear h hsq hok hdeg hT hK hnn
  have hW : ∀ W, W = w.alloc (.cells #[.bool false, .slice none 0 0] 40) → Arr W w.heap.size 40 [.bool false, .slice none 0 0] ∧ Below w.heap.size w W := by
    intro W hW
    subst hW
    exact ⟨Arr.new _ _ [_, _], (Below.refl _ _).alloc (Nat.le_refl _) _⟩
  go_enter Tryz.func28, Tryz.ntmps28
  go_upto_region 1 with fail
  generalize w.alloc (.cells #[.bool false, .slice none 0 0] 40) = w3 at hW ⊢
  obtain ⟨qr, hb3⟩ := hW w3 rfl
  have HQR := Lib.hid (fun W (hb : Below w3.heap.size w3 W) => qr.below hb qr.lt)
  have HB3 := Lib.hid hb3
  clear hW qr hb3
  go_upto_region 3 with (go_at_call 38; refine (HFO.out _ HB3.out).mono ?_; rintro e w4 ⟨rfl, hb4⟩)
  have HB4 := Lib.hid hb4
  clear hb4 HFO
  go_upto_region 5 with (go_at_call 39; refine (HFU.out _ (HB3.out.trans (HB4.out.mono HB3.out.size))).mono ?_; rintro e w5 ⟨rfl, hb5⟩)
  have HB5 := Lib.hid (HB4.out.trans (hb5.mono HB4.out.size))
  clear hb5 HFU HB4
  go_upto_region 7 with (go_at_call 40; refine (HCO.out _ (HB3.out.trans (HB5.out.mono HB3.out.size))).mono ?_; rintro e w6 ⟨rfl, hb6⟩)
  have HB6 := Lib.hid (HB5.out.trans (hb6.mono HB5.out.size))
  clear hb6 HCO HB5
  go_upto_region 8 with fail
  go_loopg [5, 26] n (fun gk s5 s26 wr => ∃ i : Nat, i ≤ n ∧ gk = n - i ∧ s26 = .int .i64 (i : Int) ∧ Below w3.heap.size w3 wr)
  case atStart => exact ⟨0, by omega, rfl, rfl, HB6.out⟩
  case round =>
    clear HB6
    obtain ⟨i, hi, rfl, rfl, hb⟩ := hrel
    obtain ⟨wo, rfl⟩ : ∃ wo : World, wo = wr := ⟨_, rfl⟩
    have HB := Lib.hid hb
    have HBW := Lib.hid (HB3.out.trans (hb.mono HB3.out.size))
    clear hb
    by_cases hit : i < n
    · have z1 : (i : Int) < (n : Int) := by omega
      have hml : i < M.length := by rw [← HN.out]; exact hit
      obtain ⟨b1, o1, hA, hnm, u, hu, hrow⟩ := (HM.out wo HBW.out).at_ hml
      clear hnm
      subst hA
      have HCB := Lib.hid (containsBig_any u M[i] wo hrow (by rw [HSQ.out _ (List.getElem_mem hml)]; omega))
      obtain ⟨A1, c1', rfl⟩ := hrow.form
      have c1 := hu
      generalize M[i] = row at *
      clear hu hrow hml
      go_wp2_with (go_at_call 41; refine HCB.out.mono ?_; rintro e w7 ⟨rfl, hb7⟩; have HB7 := Lib.hid (HB.out.trans (hb7.mono HB.out.size)); clear hb7)
      go_roundg (n - (i + 1))
      case measure => omega
      case rel => exact ⟨i + 1, by omega, rfl, by go_num, HB7.out⟩
    · have z1 : ¬ ((i : Int) < (n : Int)) := by omega
      have HDO := Lib.hid (HDE.out wo HBW.out)
      clear HDE HM
      go_upto_region 13 with fail
      go_wp2_with fail
      refine HDO.out.mono ?_
      rintro e w7 ⟨v7, b7, rfl, hb7, hd⟩
      have HB7 := Lib.hid (HB.out.trans (hb7.mono HB.out.size))
      have HBW7 := Lib.hid (HBW.out.trans (hb7.mono HBW.out.size))
      clear hb7 HDO
      have hcs : (∃ p, b7 = true ∧ PolyV w7 v7 (some p) ∧ ((p = [] ∧ ∃ r ∈ M, (rwS r).2.2 = false) ∨ (NzR M ∧ SmC M ∧ ofP (lowS M) (dtC (tmM M) (degS M).toNat) = some p))) ∨ (b7 = true ∧ PolyV w7 v7 none ∧ NzR M ∧ ofP (lowS M) (dtC (tmM M) (degS M).toNat) = none) ∨ (NzR M ∧ ¬ SmC M ∧ b7 = false ∧ v7 = .agg #[.bool false, .slice none 0 0]) := by
        rcases hd with ⟨h1, hp, hr⟩ | ⟨hz, hs, h1, hp⟩ | h3
        · exact .inl ⟨[], h1, hp, .inl ⟨rfl, hr⟩⟩
        · cases ho : ofP (lowS M) (dtC (tmM M) (degS M).toNat) with
          | none => rw [ho] at hp; exact .inr (.inl ⟨h1, hp, hz, rfl⟩)
          | some p => rw [ho] at hp; exact .inl ⟨p, h1, hp, .inr ⟨hz, hs, rfl⟩⟩
        · exact .inr (.inr h3)
      clear hd
      rcases hcs with ⟨p, rfl, hp, hr⟩ | ⟨rfl, hp, hz, hs⟩ | ⟨hz, hs, rfl, rfl⟩
      · have HR := Lib.hid hr
        obtain ⟨b5, A5, n5, c5, rfl, j5, j6⟩ := hp.parts
        have hal := (Below.refl w7.heap.size w7).alloc (Nat.le_refl _) (.cells #[.bool b5, .slice A5 n5 c5] 40)
        have HP8 := Lib.hid (hp.below hal)
        have HB8 := Lib.hid (HB7.out.trans (hal.mono HB7.out.size))
        have HBW8 := Lib.hid (HBW7.out.trans (hal.mono HBW7.out.size))
        have HT8 := Lib.hid (show Arr (w7.alloc (.cells #[.bool b5, .slice A5 n5 c5] 40)) w7.heap.size 40 [.bool b5, .slice A5 n5 c5] from Arr.new w7 40 [_, _])
        clear hal hp hr j5 j6 HB7 HBW7
        go_upto_region 14 with fail
        generalize w7.alloc (.cells #[.bool b5, .slice A5 n5 c5] 40) = w8 at *
        generalize w7.heap.size = tb at *
        have HBG := Lib.hid (Big_any _ _ w8 HP8.out)
        simp only [Option.isNone_some] at HBG
        have y0 := HT8.out.cell 0
        have y1 := HT8.out.cell 1
        go_upto_region 16 with (go_at_call 42; refine HBG.out.mono ?_; rintro e w9 ⟨rfl, hb9⟩)
        have HT9 := Lib.hid (HT8.out.below hb9 HT8.out.lt)
        have qr := HQR.out _ (HB8.out.trans (hb9.mono HB8.out.size))
        have HBF := Lib.hid (HBW8.out.trans (hb9.mono HBW8.out.size))
        have HP9 := Lib.hid (HP8.out.below hb9)
        clear y0 y1 hb9 HBG HT8 HP8 HB8 HBW8
        have HV9 := Lib.hid (fun u1 u2 => HP9.out.box qr u1 u2)
        have y0 := HT9.out.cell 0
        have y1 := HT9.out.cell 1
        have x0 := qr.cell 0
        have x1 := qr.cell 1
        have f0_ := qr.frozen 0
        have f1_ := qr.frozen 1
        have hres := Lib.hid ((qr.set 0 (.bool b5)).set 1 (.slice A5 n5 c5))
        clear qr
        go_wp2_with fail
        refine bodyPost_ret (v := .tuple #[.agg #[.bool b5, .slice A5 n5 c5], .int .i64 0]) (results_ct Tryz.results28 _ _ w.heap.size 40 _ _ rfl hres.out Tryz.underlying40 rfl info_poly) rfl ?_
        exact ⟨(HBF.out.setCell (p := ⟨w.heap.size, 0, none⟩) (Nat.le_refl _) _).setCell (p := ⟨w.heap.size, 1, none⟩) (Nat.le_refl _) _, .inl ⟨_, p, rfl, HV9.out _ _, HR.out⟩⟩
      · have HZ := Lib.hid hz
        have HS := Lib.hid hs
        obtain ⟨b5, A5, n5, c5, rfl, j5, j6⟩ := hp.parts
        have hal := (Below.refl w7.heap.size w7).alloc (Nat.le_refl _) (.cells #[.bool b5, .slice A5 n5 c5] 40)
        have HP8 := Lib.hid (hp.below hal)
        have HB8 := Lib.hid (HB7.out.trans (hal.mono HB7.out.size))
        have HBW8 := Lib.hid (HBW7.out.trans (hal.mono HBW7.out.size))
        have HT8 := Lib.hid (show Arr (w7.alloc (.cells #[.bool b5, .slice A5 n5 c5] 40)) w7.heap.size 40 [.bool b5, .slice A5 n5 c5] from Arr.new w7 40 [_, _])
        clear hal hp hz hs j5 j6 HB7 HBW7
        go_upto_region 14 with fail
        generalize w7.alloc (.cells #[.bool b5, .slice A5 n5 c5] 40) = w8 at *
        generalize w7.heap.size = tb at *
        have HBG := Lib.hid (Big_any _ _ w8 HP8.out)
        simp only [Option.isNone_none] at HBG
        have y0 := HT8.out.cell 0
        have y1 := HT8.out.cell 1
        go_upto_region 15 with (go_at_call 42; refine HBG.out.mono ?_; rintro e w9 ⟨rfl, hb9⟩)
        have qr := HQR.out _ (HB8.out.trans (hb9.mono HB8.out.size))
        have HBF := Lib.hid (HBW8.out.trans (hb9.mono HBW8.out.size))
        clear y0 y1 hb9 HBG HT8 HP8 HB8 HBW8
        have x0 := qr.cell 0
        have x1 := qr.cell 1
        have f0_ := qr.frozen 0
        have f1_ := qr.frozen 1
        have hres := Lib.hid ((qr.set 0 (.bool false)).set 1 (.slice none 0 0))
        clear qr
        go_wp2_with fail
        refine bodyPost_ret (v := .tuple #[.agg #[.bool false, .slice none 0 0], .int .i64 9]) (results_ct Tryz.results28 _ _ w.heap.size 40 _ _ rfl hres.out Tryz.underlying40 rfl info_poly) rfl ?_
        exact ⟨(HBF.out.setCell (p := ⟨w.heap.size, 0, none⟩) (Nat.le_refl _) _).setCell (p := ⟨w.heap.size, 1, none⟩) (Nat.le_refl _) _, .inr ⟨rfl, HZ.out, .inr HS.out⟩⟩
      · have HZ := Lib.hid hz
        have HS := Lib.hid hs
        have hal := (Below.refl w7.heap.size w7).alloc (Nat.le_refl _) (.cells #[.bool false, .slice none 0 0] 40)
        have qr := HQR.out _ (HB7.out.trans (hal.mono HB7.out.size))
        have HBF := Lib.hid (HBW7.out.trans (hal.mono HBW7.out.size))
        have x0 := qr.cell 0
        have x1 := qr.cell 1
        have f0_ := qr.frozen 0
        have f1_ := qr.frozen 1
        have hres := Lib.hid ((qr.set 0 (.bool false)).set 1 (.slice none 0 0))
        clear qr hal hz hs
        go_wp2_with fail
        refine bodyPost_ret (v := .tuple #[.agg #[.bool false, .slice none 0 0], .int .i64 9]) (results_ct Tryz.results28 _ _ w.heap.size 40 _ _ rfl hres.out Tryz.underlying40 rfl info_poly) rfl ?_
        exact ⟨(HBF.out.setCell (p := ⟨w.heap.size, 0, none⟩) (Nat.le_refl _) _).setCell (p := ⟨w.heap.size, 1, none⟩) (Nat.le_refl _) _, .inr ⟨rfl, HZ.out, .inl HS.out⟩⟩
end Go.Proofs.YtbkgpfalljgdcaaGreatDoor

namespace Go.Proofs.YtbkgpfalljgdcaaGreatDoor
open Go.RowKit
set_option linter.unusedVariables false

/-- the value of x^N times the polynomial -/
def evQ (N : Nat) (x : Int) : LP → Int
  | [] => 0
  | t :: p => t.2 * x ^ (t.1 + N).toNat + evQ N x p
theorem evQ_append (N : Nat) (x : Int) (p q : LP) : evQ N x (p ++ q) = evQ N x p + evQ N x q := by
  induction p with
  | nil => simp [evQ]
  | cons t p ih => rw [List.cons_append, evQ, evQ, ih]; omega
theorem evQ_tmO (N : Nat) (x low : Int) (hl : -(N : Int) ≤ low) : ∀ p : LP, (∀ t ∈ p, low ≤ t.1) → evQ N x p = x ^ (low + N).toNat * ev (toL (tmO low p)) x
  | [], _ => by simp [evQ, tmO, toL, ev]
  | t :: p, h => by
    have ih := evQ_tmO N x low hl p fun s hs => h s (List.mem_cons_of_mem _ hs)
    have h1 := h t (by simp)
    have e : tmO low (t :: p) = ((t.1 - low).toNat, t.2) :: tmO low p := rfl
    rw [evQ, ih, e, toL, ev_ladd, ev_monL, Int.mul_add]
    have e2 : (t.1 + N).toNat = (low + N).toNat + (t.1 - low).toNat := by omega
    rw [e2, Int.pow_add]
    grind
theorem evQ_ofL (N : Nat) (x : Int) : ∀ (cs : List Int) (low : Int), -(N : Int) ≤ low → evQ N x (ofL low cs) = x ^ (low + N).toNat * ev cs x
  | [], low, _ => by simp [evQ, ofL, ev]
  | c :: cs, low, h => by
    have ih := evQ_ofL N x cs (low + 1) (by omega)
    rw [ofL, evQ_append, ih, ev]
    have e2 : (low + 1 + N).toNat = (low + N).toNat + 1 := by omega
    rw [e2, Int.pow_succ]
    split
    · next h0 => rw [h0]; simp only [evQ]; grind
    · simp only [evQ]; grind
theorem monL_get (c : Int) : ∀ (e k : Nat), (monL e c)[k]?.getD 0 = if k = e then c else 0
  | 0, 0 => by simp [monL]
  | 0, k + 1 => by simp [monL]
  | e + 1, 0 => by simp [monL, List.replicate_succ]
  | e + 1, k + 1 => by
    have := monL_get c e k
    unfold monL at this ⊢
    rw [List.replicate_succ, List.cons_append, List.getElem?_cons_succ, this]
    by_cases h : k = e
    · rw [if_pos h, if_pos (by omega)]
    · rw [if_neg h, if_neg (by omega)]
theorem toL_get (low : Int) (k : Nat) : ∀ p : LP, (∀ t ∈ p, low ≤ t.1) → (toL (tmO low p))[k]?.getD 0 = cf p (low + k)
  | [], _ => by simp [tmO, toL, cf]
  | t :: p, h => by
    have ih := toL_get low k p fun s hs => h s (List.mem_cons_of_mem _ hs)
    have h1 := h t (by simp)
    have e : tmO low (t :: p) = ((t.1 - low).toNat, t.2) :: tmO low p := rfl
    rw [e, toL, ladd_get, ih, monL_get, cf_cons]
    by_cases q : t.1 = low + k
    · rw [if_pos q, if_pos (by omega)]
    · rw [if_neg q, if_neg (by omega)]
/-- polynomials with the same values are alike -/
theorem evQ_inj {N : Nat} {p q : LP} (hp : Can p) (hq : Can q) (bp : ∀ t ∈ p, -(N : Int) ≤ t.1) (bq : ∀ t ∈ q, -(N : Int) ≤ t.1) (h : ∀ x : Int, 1 ≤ x → evQ N x p = evQ N x q) : p = q := by
  refine hp.ext hq fun e => ?_
  rcases Int.lt_or_le e (-(N : Int)) with c | c
  · rw [cf_out fun t ht => by have := bp t ht; omega, cf_out fun t ht => by have := bq t ht; omega]
  · have h1 := ev_ext (a := toL (tmO (-(N : Int)) p)) (b := toL (tmO (-(N : Int)) q)) 1 (fun y hy => by
      have a1 := evQ_tmO N y (-(N : Int)) (Int.le_refl _) p bp
      have a2 := evQ_tmO N y (-(N : Int)) (Int.le_refl _) q bq
      rw [show (-(N : Int) + N).toNat = 0 by omega, Int.pow_zero, Int.one_mul] at a1 a2
      rw [← a1, ← a2]; exact h y hy) (e + N).toNat
    rw [toL_get _ _ _ bp, toL_get _ _ _ bq, show -(N : Int) + ((e + N).toNat : Nat) = e by omega] at h1
    exact h1
theorem prodI_skip (c : Nat → Int) : ∀ (n k : Nat), k < n + 1 → prodI (n + 1) c = c k * prodI n (fun l => c (skp k l))
  | 0, k, h => by
    have : k = 0 := by omega
    subst this; simp [prodI]
  | n + 1, k, h => by
    rcases Nat.lt_or_ge k (n + 1) with q | q
    · rw [prodI, prodI_skip c n k q, prodI]
      simp only [skp, if_neg (show ¬ n < k by omega)]
      grind
    · have : k = n + 1 := by omega
      subst this
      have e : ∀ m, m ≤ n + 1 → prodI m (fun l => c (skp (n + 1) l)) = prodI m c := by
        intro m
        induction m with
        | zero => intro _; rfl
        | succ m ih => intro hm; rw [prodI, prodI, ih (by omega)]; simp only [skp, if_pos (show m < n + 1 by omega)]
      rw [e _ (Nat.le_refl _), prodI]; grind
/-- each row is multiplied -/
theorem dt_rows : ∀ (J : List Nat) (f : Nat → Nat → Int) (c : Nat → Int), dt J (fun l j => c l * f l j) = prodI J.length c * dt J f
  | [], f, c => by simp [dt, prodI]
  | j :: J, f, c => by
    rw [dt, dt, List.length_cons, ← sumI_mul]
    refine sumI_congr fun k hk => ?_
    have h := dt_rows J (fun l => f (skp k l)) (fun l => c (skp k l))
    show sgn k * (c k * f k j) * dt J (fun l j => c (skp k l) * f (skp k l) j) = _
    rw [h, prodI_skip c J.length k hk]
    grind
/-- the determinant's value, each entry times x^B -/
def detE (B : Nat) (M : List (List LP)) (x : Int) : Int := dt (List.range' 0 M.length) (fun l j => evQ B x ((M[l]?.getD [])[j]?.getD []))
theorem foldS_found : ∀ (r : List LP) (s : Int × Int × Bool), (r.foldl stS s).2.2 = true ↔ s.2.2 = true ∨ ∃ p ∈ r, p.length ≠ 0
  | [], s => by simp
  | p :: r, s => by
    rw [List.foldl_cons, foldS_found r (stS s p)]
    unfold stS
    by_cases h : p.length = 0
    · rw [if_pos h]
      constructor
      · rintro (h1 | ⟨q, hq, h1⟩)
        · exact .inl h1
        · exact .inr ⟨q, List.mem_cons_of_mem _ hq, h1⟩
      · rintro (h1 | ⟨q, hq, h1⟩)
        · exact .inl h1
        · rcases List.mem_cons.1 hq with e | e
          · subst e; exact absurd h h1
          · exact .inr ⟨q, e, h1⟩
    · rw [if_neg h]
      constructor
      · intro _; exact .inr ⟨p, by simp, h⟩
      · intro _; left; split <;> rfl
theorem rwS_found (r : List LP) : (rwS r).2.2 = true ↔ ∃ p ∈ r, p.length ≠ 0 := by
  have := foldS_found r (0, 0, false)
  simpa [rwS] using this
/-- the least exponent is one of an entry's -/
theorem foldS_low : ∀ (r : List LP) (s : Int × Int × Bool) (b : Int), (∀ p ∈ r, ∀ t ∈ p, b ≤ t.1) → (s.2.2 = true → b ≤ s.1) → (r.foldl stS s).2.2 = true → b ≤ (r.foldl stS s).1
  | [], s, b, _, hs, h => hs h
  | p :: r, s, b, hr, hs, h => by
    rw [List.foldl_cons] at h ⊢
    refine foldS_low r (stS s p) b (fun q hq => hr q (List.mem_cons_of_mem _ hq)) (fun h1 => ?_) h
    have hl : p.length ≠ 0 → b ≤ lowL p := fun h0 => by
      rw [lowL_0 (by omega)]; exact hr p (by simp) _ (List.getElem_mem _)
    unfold stS at h1 ⊢
    by_cases h0 : p.length = 0
    · rw [if_pos h0] at h1 ⊢; exact hs h1
    · rw [if_neg h0] at h1 ⊢
      have := hl h0
      by_cases h2 : s.2.2 = true
      · rw [if_pos h2]; have := hs h2; simp only; omega
      · rw [if_neg h2]; exact this
theorem rwS_low {r : List LP} {b : Int} (h : ∀ p ∈ r, ∀ t ∈ p, b ≤ t.1) (hf : (rwS r).2.2 = true) : b ≤ (rwS r).1 := foldS_low r (0, 0, false) b h (fun h => by simp at h) hf
/-- bounds from below -/
def Lo (B : Nat) (M : List (List LP)) : Prop := ∀ r ∈ M, ∀ p ∈ r, ∀ t ∈ p, -(B : Int) ≤ t.1
theorem lowS_prod {B : Nat} (x : Int) : ∀ (M : List (List LP)), (∀ r ∈ M, -(B : Int) ≤ (rwS r).1) → ∀ k, k ≤ M.length → -((k * B : Nat) : Int) ≤ (M.take k).foldl (fun a r => a + (rwS r).1) 0 ∧ prodI k (fun l => x ^ ((rwS (M[l]?.getD [])).1 + B).toNat) = x ^ ((M.take k).foldl (fun a r => a + (rwS r).1) 0 + ((k * B : Nat) : Int)).toNat := by
  intro M h k
  induction k with
  | zero => intro _; simp [prodI]
  | succ k ih =>
    intro hk
    obtain ⟨i1, i2⟩ := ih (by omega)
    have hkm : k < M.length := by omega
    have h1 := h _ (List.getElem_mem hkm)
    rw [fold_take hkm, prodI, i2, List.getElem?_eq_getElem hkm, Option.getD_some, ← Int.pow_add]
    have e : (((k + 1) * B : Nat) : Int) = ((k * B : Nat) : Int) + B := by rw [Nat.add_mul]; omega
    rw [e]
    refine ⟨by omega, ?_⟩
    congr 1
    omega
theorem detE_tm {B : Nat} {M : List (List LP)} (x : Int) (hsq : ∀ r ∈ M, r.length = M.length) (hok : ∀ r ∈ M, OkR r) (hB : Lo B M) (hnz : NzR M) :
    -((M.length * B : Nat) : Int) ≤ lowS M ∧ detE B M x = x ^ (lowS M + ((M.length * B : Nat) : Int)).toNat * ev (dtM (tmM M)) x := by
  rcases Nat.eq_zero_or_pos M.length with h0 | h0
  · have e : M = [] := List.eq_nil_of_length_eq_zero h0
    subst e
    simp [lowS, detE, dtM, tmM, dtL, dt, ev]
  have hl : ∀ r ∈ M, -(B : Int) ≤ (rwS r).1 := fun r hr => by
    rcases hnz r hr with h | h
    · exact rwS_low (hB r hr) h
    · omega
  obtain ⟨p1, p2⟩ := lowS_prod x M hl M.length (Nat.le_refl _)
  rw [List.take_length] at p1 p2
  refine ⟨p1, ?_⟩
  show _ = x ^ (M.foldl (fun a r => a + (rwS r).1) 0 + ((M.length * B : Nat) : Int)).toNat * _
  rw [← p2]
  unfold dtM detE
  rw [ev_dtL, show (tmM M).length = M.length by simp [tmM]]
  have hr := dt_rows (List.range' 0 M.length) (fun l j => ev (entL (tmM M) l j) x) (fun l => x ^ ((rwS (M[l]?.getD [])).1 + B).toNat)
  rw [List.length_range'] at hr
  rw [← hr]
  refine dt_congr fun l hll j hj => ?_
  rw [List.length_range'] at hll
  unfold entL
  rw [tmM_get M l j hll, List.getElem?_eq_getElem hll, Option.getD_some]
  have hrm := List.getElem_mem hll
  cases hq : M[l][j]? with
  | none => simp [evQ, tmO, toL, ev]
  | some p =>
    rw [Option.getD_some]
    have hp := List.mem_of_getElem? hq
    exact evQ_tmO B x _ (hl _ hrm) p (rwS_ge (hok _ hrm) p hp)
theorem dt_row0 {J : List Nat} {f : Nat → Nat → Int} {k : Nat} (hk : k < J.length) (h : ∀ j ∈ J, f k j = 0) : dt J f = 0 := by
  rw [← dt_zero (f := f) hk]
  refine dt_congr fun l hl j hj => ?_
  unfold fup
  by_cases e : l = k
  · subst e; rw [if_pos rfl, h j hj]
  · rw [if_neg e]
theorem detE_zero {B : Nat} {M : List (List LP)} (x : Int) (hsq : ∀ r ∈ M, r.length = M.length) (h : ∃ r ∈ M, (rwS r).2.2 = false) : detE B M x = 0 := by
  obtain ⟨r, hr, h0⟩ := h
  obtain ⟨k, hk, rfl⟩ := List.getElem_of_mem hr
  unfold detE
  refine dt_row0 (k := k) (by rw [List.length_range']; exact hk) fun j hj => ?_
  rw [List.getElem?_eq_getElem hk, Option.getD_some]
  cases hq : M[k][j]? with
  | none => rfl
  | some p =>
    have hp := List.mem_of_getElem? hq
    have : p.length = 0 := by
      rcases Nat.eq_zero_or_pos p.length with q | q
      · exact q
      · have := (rwS_found M[k]).2 ⟨p, hp, by omega⟩
        rw [h0] at this; cases this
    rw [List.eq_nil_of_length_eq_zero this]; rfl
theorem ev_dtC {m : List (List (List TE))} {deg : Nat} (h : (dtM m).length ≤ deg + 1) (x : Int) : ev (dtC m deg) x = ev (dtM m) x := by
  rw [ev_sum x _ (deg + 1) h, ev_sum x (dtC m deg) (deg + 1) (by simp [dtC])]
  refine sumI_congr fun k hk => ?_
  congr 1
  unfold dtC
  rw [List.getElem?_map, List.getElem?_range hk]; rfl
theorem cf_ofL (e : Int) : ∀ (cs : List Int) (low : Int), low ≤ e → cf (ofL low cs) e = cs[(e - low).toNat]?.getD 0
  | [], low, h => by simp [ofL, cf]
  | c :: cs, low, h => by
    rw [ofL, cf_append]
    rcases Int.lt_or_eq_of_le h with q | q
    · rw [cf_ofL e cs (low + 1) (by omega)]
      have e1 : (e - low).toNat = (e - (low + 1)).toNat + 1 := by omega
      rw [e1, List.getElem?_cons_succ]
      split
      · simp [cf]
      · rw [cf_one]; simp only; rw [if_neg (by omega)]; omega
    · subst q
      have : cf (ofL (low + 1) cs) low = 0 := cf_out fun t ht => by have := (ofL_ge _ _ t ht).1; omega
      rw [this]
      simp only [Int.sub_self, Int.toNat_zero, List.getElem?_cons_zero, Option.getD_some]
      split
      · next h0 => simp [cf, h0]
      · rw [cf_one]; simp
theorem ofB_iff : ∀ (cs : List Int) (low : Int), ofB low cs = true ↔ ∀ t ∈ ofL low cs, (-1125899906842624 ≤ t.2 ∧ t.2 ≤ 1125899906842624) ∧ -1048576 ≤ t.1 ∧ t.1 ≤ 1048576
  | [], low => by simp [ofB, ofL]
  | c :: cs, low => by
    rw [ofB, Bool.and_eq_true, ofB_iff cs (low + 1), ofL]
    by_cases h : c = 0
    · simp [h]
    · simp [h]
/-- what Det returns is the determinant; it is found if it lies within the limits -/
def DetV (B : Nat) (M : List (List LP)) (w : World) (e : Ending) (w' : World) : Prop :=
  Below w.heap.size w w' ∧ ((∃ v p, e = .returned (.tuple #[v, .int .i64 0]) ∧ PolyV w' v (some p) ∧ Can p ∧ Lim p ∧ (∀ t ∈ p, -((M.length * B : Nat) : Int) ≤ t.1) ∧ ∀ x, 1 ≤ x → evQ (M.length * B) x p = detE B M x) ∨
    (e = .returned (.tuple #[.agg #[.bool false, .slice none 0 0], .int .i64 9]) ∧ ∀ D, Can D → Lim D → (∀ t ∈ D, -((M.length * B : Nat) : Int) ≤ t.1) → (∀ x, 1 ≤ x → evQ (M.length * B) x D = detE B M x) → False))
theorem DetQ.v {B : Nat} {M : List (List LP)} {w w' : World} {e : Ending} (h : DetQ M w e w') (hn : M.length ≤ 64) (hsq : ∀ r ∈ M, r.length = M.length) (hok : ∀ r ∈ M, OkR r) (hdeg : degS M < 131072) (hB : Lo B M) : DetV B M w e w' := by
  refine ⟨h.1, ?_⟩
  have hdg0 : 0 ≤ degS M := by have := degS_sum M 0 hok; unfold degS; omega
  have hmt := (tmM_mt (dg := (degS M).toNat) hn hsq hok (by omega) (by omega)).1
  have main : NzR M → (∀ t ∈ ofL (lowS M) (dtC (tmM M) (degS M).toNat), -((M.length * B : Nat) : Int) ≤ t.1) ∧ ∀ x, evQ (M.length * B) x (ofL (lowS M) (dtC (tmM M) (degS M).toNat)) = detE B M x := fun hz => by
    have h1 := fun x => detE_tm x hsq hok hB hz
    refine ⟨fun t ht => by have := (ofL_ge _ _ t ht).1; have := (h1 0).1; omega, fun x => ?_⟩
    rw [evQ_ofL _ _ _ _ (h1 x).1, (h1 x).2, ev_dtC hmt.len]
  rcases h.2 with ⟨v, p, he, hv, hp⟩ | ⟨he, hz, hp⟩
  · left
    refine ⟨v, p, he, hv, ?_⟩
    rcases hp with ⟨rfl, h0⟩ | ⟨hz, hs, ho⟩
    · exact ⟨Can.nil, Lim.nil, fun t h => by simp at h, fun x _ => by rw [detE_zero x hsq h0]; rfl⟩
    · unfold ofP at ho
      split at ho
      · next hob =>
        injection ho with ho
        subst ho
        exact ⟨ofL_can _ _, ofL_lim hob, (main hz).1, fun x _ => (main hz).2 x⟩
      · cases ho
  · right
    refine ⟨he, fun D hc hL hlo hx => ?_⟩
    obtain ⟨m1, m2⟩ := main hz
    have e : D = ofL (lowS M) (dtC (tmM M) (degS M).toNat) := evQ_inj hc (ofL_can _ _) hlo m1 fun x hx1 => (hx x hx1).trans (m2 x).symm
    rcases hp with hp | hp
    · refine hp fun k => ?_
      rcases Nat.lt_or_ge k ((degS M).toNat + 1) with q | q
      · have h1 := cf_ofL (lowS M + k) (dtC (tmM M) (degS M).toNat) (lowS M) (by omega)
        rw [← e] at h1
        have h2 : (dtC (tmM M) (degS M).toNat)[(lowS M + k - lowS M).toNat]?.getD 0 = (dtM (tmM M))[k]?.getD 0 := by
          rw [show (lowS M + (k : Int) - lowS M).toNat = k by omega]
          unfold dtC
          rw [List.getElem?_map, List.getElem?_range q]; rfl
        rw [h2] at h1
        have := hL.cf hc (lowS M + k)
        rw [← h1]; omega
      · rw [List.getElem?_eq_none (by have := hmt.len; omega)]; simp
    · unfold ofP at hp
      split at hp
      · cases hp
      · next hob =>
        refine hob ((ofB_iff _ _).2 fun t ht => ?_)
        rw [← e] at ht
        exact ⟨hL.co t ht, hL.ex t ht⟩
end Go.Proofs.YtbkgpfalljgdcaaGreatDoor

namespace Go.Proofs.YtbkgpfalljgdcaaGreatDoor
open Go.RowKit
set_option linter.unusedVariables false

def gm (m : List (List Int)) (i j : Nat) : Int := (m[i]?.getD [])[j]?.getD 0
def alE (m : List (List Int)) (i j : Nat) : LP := ofL 0 [gm m i j, -gm m j i]
def alR (m : List (List Int)) (i : Nat) : List LP := (List.range m.length).map (alE m i)
def alM (m : List (List Int)) : List (List LP) := (List.range m.length).map (alR m)
theorem alM_length (m : List (List Int)) : (alM m).length = m.length := by simp [alM]
theorem alR_length (m : List (List Int)) (i : Nat) : (alR m i).length = m.length := by simp [alR]
theorem alM_get {m : List (List Int)} {i : Nat} (h : i < m.length) : (alM m)[i]? = some (alR m i) := by
  unfold alM; rw [List.getElem?_map, List.getElem?_range h]; rfl
theorem alR_get {m : List (List Int)} {i j : Nat} (h : j < m.length) : (alR m i)[j]? = some (alE m i j) := by
  unfold alR; rw [List.getElem?_map, List.getElem?_range h]; rfl
theorem alR_take {m : List (List Int)} {i j : Nat} (h : j < m.length) : (alR m i).take (j + 1) = (alR m i).take j ++ [alE m i j] := by
  rw [List.take_succ_eq_append_getElem (by rw [alR_length]; exact h)]
  congr 2
  have := alR_get (i := i) h
  rw [List.getElem?_eq_getElem (by rw [alR_length]; exact h)] at this
  injection this
theorem gm_small {m : List (List Int)} (h : smM m = true) (i j : Nat) : -1125899906842624 ≤ gm m i j ∧ gm m i j ≤ 1125899906842624 := by
  unfold gm
  cases hi : m[i]? with
  | none => simp
  | some r =>
    rw [Option.getD_some]
    cases hj : r[j]? with
    | none => simp
    | some x =>
      have h1 := List.all_eq_true.1 h r (List.mem_of_getElem? hi)
      exact of_decide_eq_true (List.all_eq_true.1 h1 x (List.mem_of_getElem? hj))
theorem alE_terms {m : List (List Int)} (h : smM m = true) (i j : Nat) : ofB 0 [gm m i j, -gm m j i] = true ∧ (∀ t ∈ alE m i j, 0 ≤ t.1 ∧ t.1 ≤ 1) ∧ absS (tmO 0 (alE m i j)) ≤ 2 * 1125899906842624 := by
  have h1 := gm_small h i j
  have h2 := gm_small h j i
  unfold alE
  generalize gm m i j = a at *
  generalize gm m j i = b at *
  refine ⟨?_, fun t ht => ?_, ?_⟩
  · simp [ofB]; omega
  · simp only [ofL] at ht
    rcases List.mem_append.1 ht with q | q
    · split at q
      · simp at q
      · rw [List.mem_singleton.1 q]; exact ⟨Int.le_refl _, by show (0 : Int) ≤ 1; omega⟩
    · rcases List.mem_append.1 q with q | q
      · split at q
        · simp at q
        · rw [List.mem_singleton.1 q]; exact ⟨by show (0 : Int) ≤ 0 + 1; omega, Int.le_refl _⟩
      · simp at q
  · simp only [ofL]
    by_cases ha : a = 0
    · by_cases hb : -b = 0
      · simp [ha, hb, tmO, absS]
      · simp [ha, hb, tmO, absS]; omega
    · by_cases hb : -b = 0
      · simp [ha, hb, tmO, absS]; omega
      · simp [ha, hb, tmO, absS]; omega
theorem alE_ok {m : List (List Int)} (h : smM m = true) (i j : Nat) : Can (alE m i j) ∧ Lim (alE m i j) := ⟨ofL_can _ _, ofL_lim (alE_terms h i j).1⟩
theorem alM_mem {m : List (List Int)} {r : List LP} (h : r ∈ alM m) : ∃ i, i < m.length ∧ r = alR m i := by
  obtain ⟨i, hi, rfl⟩ := List.mem_map.1 h
  exact ⟨i, List.mem_range.1 hi, rfl⟩
theorem alR_mem {m : List (List Int)} {i : Nat} {p : LP} (h : p ∈ alR m i) : ∃ j, j < m.length ∧ p = alE m i j := by
  obtain ⟨j, hj, rfl⟩ := List.mem_map.1 h
  exact ⟨j, List.mem_range.1 hj, rfl⟩
theorem foldS_in {a b : Int} : ∀ (r : List LP) (s : Int × Int × Bool), (∀ p ∈ r, ∀ t ∈ p, a ≤ t.1 ∧ t.1 ≤ b) → a ≤ s.1 → s.2.1 ≤ b → a ≤ (r.foldl stS s).1 ∧ (r.foldl stS s).2.1 ≤ b
  | [], s, _, h1, h2 => ⟨h1, h2⟩
  | p :: r, s, h, h1, h2 => by
    rw [List.foldl_cons]
    have h3 : p.length ≠ 0 → a ≤ lowL p ∧ highL p ≤ b := fun h0 => by
      rw [lowL_0 (by omega), highL_0 (by omega)]
      exact ⟨(h p (by simp) _ (List.getElem_mem _)).1, (h p (by simp) _ (List.getElem_mem _)).2⟩
    refine foldS_in r _ (fun q hq => h q (List.mem_cons_of_mem _ hq)) ?_ ?_
    · unfold stS
      split
      · exact h1
      · next h0 =>
        have := h3 h0
        split
        · simp only; omega
        · exact this.1
    · unfold stS
      split
      · exact h2
      · next h0 =>
        have := h3 h0
        split
        · simp only; omega
        · exact this.2
theorem sumN_le (n c : Nat) (f : Nat → Nat) (h : ∀ l, l < n → f l ≤ c) : sumN n f ≤ n * c := by
  induction n with
  | zero => simp [sumN]
  | succ n ih => rw [sumN, Nat.add_mul]; have := ih fun l hl => h l (by omega); have := h n (by omega); omega
/-- degrees that are at most 1 in each row -/
theorem degS_le {M : List (List LP)} {c : Nat} (hok : ∀ r ∈ M, OkR r) (h : ∀ r ∈ M, ∀ p ∈ r, ∀ t ∈ p, 0 ≤ t.1 ∧ t.1 ≤ (c : Int)) : degS M ≤ (M.length * c : Nat) := by
  have h1 := degS_sum M 0 hok
  have h2 := sumN_le M.length c (fun l => rdg (M[l]?.getD [])) (fun l hl => by
    rw [List.getElem?_eq_getElem hl, Option.getD_some]
    have := foldS_in (a := 0) (b := (c : Int)) M[l] (0, 0, false) (h _ (List.getElem_mem hl)) (Int.le_refl _) (by simp)
    unfold rdg rwS
    omega)
  unfold degS
  omega
/-- the number of fields by the bits of the rows -/
theorem cntF_le {m : List (List (List TE))} {b k : Nat} (hb : 1 ≤ b ∧ b ≤ 61) (h : ∀ r ∈ m, absR r < 2 ^ b) (hk : (max (b * m.length) 50 + 1) / 60 + 1 ≤ k) : cntF m ≤ (k : Int) := by
  have h1 : ∀ (l : List (List (List TE))) (a : Int), (∀ r ∈ l, absR r < 2 ^ b) → l.foldl (fun a r => a + rowBits r) a ≤ a + (b * l.length : Nat) := by
    intro l
    induction l with
    | nil => intro a _; simp
    | cons r l ih =>
      intro a hl
      rw [List.foldl_cons]
      have h2 := ih (a + rowBits r) fun q hq => hl q (List.mem_cons_of_mem _ hq)
      have h3 := hl r (by simp)
      have h4 := rowW_sum r 0 (by omega) (by omega)
      have h5 : 2 ^ b ≤ 2 ^ 61 := Nat.pow_le_pow_right (by omega) hb.2
      have h6 : rowBits r ≤ (b : Int) := by
        unfold rowBits
        rw [if_neg (by omega)]
        have e : (rowW 0 r).toNat = absR r := by omega
        rw [e]
        have := Lib.bitLen_le (absR r) b (by omega) h3
        omega
      have e : b * (r :: l).length = b * l.length + b := by rw [List.length_cons, Nat.mul_add, Nat.mul_one]
      omega
  have h2 := h1 m 0 h
  unfold cntF wgtB
  omega
theorem alM_facts {m : List (List Int)} (h : smM m = true) (hn : m.length ≤ 13) :
    (∀ r ∈ alM m, r.length = (alM m).length) ∧ (∀ r ∈ alM m, OkR r) ∧ degS (alM m) < 131072 ∧ cntF (tmM (alM m)) ≤ 16 ∧ Lo 0 (alM m) := by
  have hex : ∀ r ∈ alM m, ∀ p ∈ r, (∀ t ∈ p, 0 ≤ t.1 ∧ t.1 ≤ 1) ∧ Can p ∧ Lim p := fun r hr p hp => by
    obtain ⟨i, _, rfl⟩ := alM_mem hr
    obtain ⟨j, _, rfl⟩ := alR_mem hp
    exact ⟨(alE_terms h i j).2.1, alE_ok h i j⟩
  have hok : ∀ r ∈ alM m, OkR r := fun r hr p hp => (hex r hr p hp).2
  refine ⟨fun r hr => ?_, hok, ?_, ?_, fun r hr p hp t ht => by have := (hex r hr p hp).1 t ht; omega⟩
  · obtain ⟨i, _, rfl⟩ := alM_mem hr
    rw [alR_length, alM_length]
  · have := degS_le (c := 1) hok fun r hr p hp t ht => (hex r hr p hp).1 t ht
    rw [alM_length] at this
    omega
  · refine cntF_le (k := 16) (b := 55) (by omega) (fun r hr => ?_) (by
      have : (tmM (alM m)).length = m.length := by simp [tmM, alM]
      rw [this]; omega)
    obtain ⟨q, hq, rfl⟩ := List.mem_map.1 hr
    obtain ⟨i, _, rfl⟩ := alM_mem hq
    unfold absR
    have h1 := sum_le_mul (((alR m i).map (tmO (rwS (alR m i)).1)).map absS) (2 * 1125899906842624) (fun x hx => by
      obtain ⟨l, hl, rfl⟩ := List.mem_map.1 hx
      obtain ⟨p, hp, rfl⟩ := List.mem_map.1 hl
      obtain ⟨j, _, rfl⟩ := alR_mem hp
      have h2 := (alE_terms h i j).2.2
      have e : ∀ (a b : Int) (p : LP), absS (tmO a p) = absS (tmO b p) := fun a b p => by simp only [absS, tmO, List.map_map]; rfl
      rw [e _ 0]; exact h2)
    rw [List.length_map, List.length_map, alR_length] at h1
    have h3 : m.length * (2 * 1125899906842624) ≤ 13 * (2 * 1125899906842624) := Nat.mul_le_mul_right _ hn
    omega
theorem MatI.gmc {w : World} {v : Value} {m : List (List Int)} (h : MatI w v m) (hsq : sqM m = true) {i j : Nat} (hi : i < m.length) (hj : j < m.length) : ∃ A c b o A2 c2 b2 o2, v = .slice A m.length c ∧ A = some ⟨b, o, none⟩ ∧ w.cell? ⟨b, o + i, none⟩ = some (.slice A2 m.length c2) ∧ A2 = some ⟨b2, o2, none⟩ ∧ w.cell? ⟨b2, o2 + j, none⟩ = some (.int .i64 (gm m i j)) := by
  obtain ⟨A, c, rfl⟩ := h.form
  obtain ⟨b, o, rfl, -, u, hu, hrow⟩ := h.at_ hi
  have hl : m[i].length = m.length := of_decide_eq_true (List.all_eq_true.1 hsq _ (List.getElem_mem hi))
  obtain ⟨A2, c2, rfl, hc, hx⟩ := hrow
  have hji : j < m[i].length := by omega
  obtain ⟨b2, o2, rfl, hcell⟩ := hx j _ (List.getElem?_eq_getElem hji)
  refine ⟨_, c, b, o, _, c2, b2, o2, rfl, rfl, by rw [← hl]; exact hu, rfl, ?_⟩
  unfold gm
  rw [List.getElem?_eq_getElem hi, Option.getD_some, List.getElem?_eq_getElem hji]; exact hcell
end Go.Proofs.YtbkgpfalljgdcaaGreatDoor

namespace Go.Proofs.YtbkgpfalljgdcaaGreatDoor
open Go.RowKit
set_option linter.unusedVariables false

set_option maxHeartbeats 1000000 in
theorem clo_shift (bb : Nat) (n : Int) (w : World) (hn : -2097152 ≤ n ∧ n ≤ 2097152) (hb : bb < w.heap.size) (hc : w.cell? ⟨bb, 0, none⟩ = some (.int .i64 n)) : CloM 62 (.pointer (some ⟨bb, 0, none⟩)) (fun e => e + n) w where
  eg := enters_of Tryz.func62 (by kernel_rfl) rfl
  ca := fun e W hbw h1 h2 => by
    have y0 := (hbw.cell (p := ⟨bb, 0, none⟩) hb).trans hc
    clear hc hbw
    go_enter Tryz.func62, Tryz.ntmps62
    go_wp2_with fail
    go_ret
    exact ⟨rfl, rfl⟩
  mono := fun a b h => by omega
  bd := fun e h1 h2 => by omega
set_option maxHeartbeats 1000000 in
set_option maxRecDepth 100000 in
theorem Shift_any (vp : Value) (p : Pol) (n : Int) (w : World) (hp : PolyV w vp p) (okp : okP p) (hn : -2097152 ≤ n ∧ n ≤ 2097152) :
    Calls Tryz.prog 48 #[vp, .int .i64 n] w fun e w' => ∃ v, e = .returned v ∧ PolyV w' v (movP (fun e => e + n) p) ∧ Below w.heap.size w w' := by
  have HPV := Lib.hid (fun W (hb : Below w.heap.size w W) => hp.below hb)
  obtain ⟨b1, A, n1, c, rfl, j1, j2⟩ := hp.parts
  clear hp j1 j2
  have hW : ∀ W, W = (((w.alloc (.cells #[.bool b1, .slice A n1 c] 40)).alloc (.cells #[.int .i64 n] 3)).alloc (.cells #[.bool false, .slice none 0 0] 40)) → Arr W w.heap.size 40 [.bool b1, .slice A n1 c] ∧ Arr W (w.heap.size + 1) 3 [.int .i64 n] ∧ Arr W (w.heap.size + 2) 40 [.bool false, .slice none 0 0] ∧ Below w.heap.size w W ∧ W.heap.size = w.heap.size + 3 := by
    intro W hW
    subst hW
    exact ⟨((Arr.new _ _ [_, _]).alloc _).alloc _, (Arr.newAt (w.alloc _) _ [_] _ (by simp)).alloc _, Arr.newAt ((w.alloc _).alloc _) _ [_, _] _ (by simp), (((Below.refl _ _).alloc (Nat.le_refl _) _).alloc (by simp) _).alloc (by simp <;> omega) _, by simp⟩
  go_enter Tryz.func48, Tryz.ntmps48
  go_upto_region 1 with fail
  generalize (((w.alloc (.cells #[.bool b1, .slice A n1 c] 40)).alloc (.cells #[.int .i64 n] 3)).alloc (.cells #[.bool false, .slice none 0 0] 40)) = w3 at hW ⊢
  obtain ⟨qp, qn, qr, hb3, hs3⟩ := hW w3 rfl
  clear hW
  have y0 := qp.cell 0
  have y1 := qp.cell 1
  have x0 := qn.cell 0
  have HWI := Lib.hid (within_any n 2097152 w3 (by omega) (by omega))
  rw [show wiB n 2097152 = true from wiB_iff.2 hn] at HWI
  have HM := Lib.hid (moved_any 62 (.pointer (some ⟨w.heap.size + 1, 0, none⟩)) (fun e => e + n) (.agg #[.bool b1, .slice A n1 c]) p w3 (clo_shift (w.heap.size + 1) n w3 hn (by omega) x0) (HPV.out w3 hb3) okp)
  have HQ := Lib.hid qr
  have HB := Lib.hid hb3
  clear hs3 hb3 qp qn qr
  go_wp2_with fail
  refine HWI.out.mono ?_
  rintro e w4 ⟨rfl, rfl⟩
  clear HWI
  go_wp2_with fail
  refine HM.out.mono ?_
  rintro e w4 ⟨v, rfl, hv, hb4⟩
  have q4 := HQ.out.below hb4 HQ.out.lt
  have HB4 := Lib.hid (HB.out.trans (hb4.mono HB.out.size))
  have HV := Lib.hid (fun u1 u2 => hv.box q4 u1 u2)
  obtain ⟨b5, A5, n5, c5, rfl, j5, j6⟩ := hv.parts
  clear j5 j6
  have x0 := q4.cell 0
  have x1 := q4.cell 1
  have f0 := q4.frozen 0
  have f1 := q4.frozen 1
  have hres := Lib.hid ((q4.set 0 (.bool b5)).set 1 (.slice A5 n5 c5))
  clear hv hb4 HM q4 y0 y1
  go_wp2_with fail
  refine bodyPost_ret (v := .agg #[.bool b5, .slice A5 n5 c5]) (results_c Tryz.results48 _ _ (w.heap.size + 2) 40 _ _ rfl hres.out Tryz.underlying40 rfl info_poly) rfl ?_
  exact ⟨_, rfl, HV.out _ _, (HB4.out.setCell (p := ⟨w.heap.size + 2, 0, none⟩) (by simp) _).setCell (p := ⟨w.heap.size + 2, 1, none⟩) (by simp) _⟩
end Go.Proofs.YtbkgpfalljgdcaaGreatDoor
