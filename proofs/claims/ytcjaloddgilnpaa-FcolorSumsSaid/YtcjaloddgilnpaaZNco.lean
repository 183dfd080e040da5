/- FcolorCounts returns true. -/
import Derived.Test.YtcjaloddgilnpaaZNcl
namespace Go.Proofs.Ytcjaloddgilnpaa
open Go.RowKit
set_option linter.unusedVariables false

theorem cntP_prod {l : List Nat} {m : Nat} : ∀ {x a : Nat}, cntP l m x = some a → a = prodN x (fun j => Nat.gcd (gn l j) m)
  | 0, a, h => by injection h with h; exact h.symm
  | x + 1, a, h => by
    cases hx : cntP l m x with
    | none => rw [cntP, hx] at h; cases h
    | some b =>
      rw [cntP_step hx] at h
      split at h
      · cases h
      · injection h with h
        rw [← h, cntP_prod hx]; rfl
theorem cntP_small {l : List Nat} {m : Nat} (hm : 0 < m) : ∀ {x : Nat}, prodN x (fun j => Nat.gcd (gn l j) m) ≤ 1125899906842624 → cntP l m x = some (prodN x (fun j => Nat.gcd (gn l j) m))
  | 0, _ => rfl
  | x + 1, h => by
    rw [prodN] at h
    have hg : 0 < Nat.gcd (gn l x) m := Nat.gcd_pos_of_pos_right _ hm
    have h1 := Nat.le_mul_of_pos_right (prodN x (fun j => Nat.gcd (gn l j) m)) hg
    have h2 := cntP_small hm (x := x) (Nat.le_trans h1 h)
    rw [cntP_step h2, if_neg (Nat.not_lt.2 ((Nat.le_div_iff_mul_le hg).2 h))]; rfl
theorem prodN_pos {n : Nat} {f : Nat → Nat} (h : ∀ j, j < n → 0 < f j) : 0 < prodN n f := by
  induction n with
  | zero => simp [prodN]
  | succ n ih => rw [prodN]; exact Nat.mul_pos (ih (fun j hj => h j (by omega))) (h n (by omega))
theorem prod_le_pow {l : List Nat} {m : Nat} (hm : 0 < m) (n : Nat) : prodN n (fun j => Nat.gcd (gn l j) m) ≤ m ^ n := by
  rw [← prodN_const]
  exact prodN_mono (fun j _ => Nat.le_of_dvd hm (Nat.gcd_dvd_right _ _))
/-- what the law wants of what Count returns -/
structure CntK (S M : List Int) (L : Int) (m nv ev : Nat) : Prop where
  two : (ev = 9 ∧ nv = 0) ∨ ev = 0
  big : 3000 < pwF m (colN M L) → ev = 0 → m ≤ nv ∧ nv % m = 0
  small : ¬ 3000 < pwF m (colN M L) → ev = 0 ∧ m ^ colN M L ≤ 3000 ∧ (0 < colN M L → nv = nCol S M L m (m ^ colN M L)) ∧ (colN M L = 0 → nv = 1)
theorem cntK_of {S M : List Int} {L : Int} {m nv ev : Nat} (k : Ok S M L) (hn : S.length ≤ 14) (hm : 1 ≤ m) (h : (cntP (invL S M L) m (colN M L) = none ∧ nv = 0 ∧ ev = 9) ∨ (cntP (invL S M L) m (colN M L) = some nv ∧ ev = 0)) : CntK S M L m nv ev := by
  refine ⟨?_, fun h1 h2 => ?_, fun h1 => ?_⟩
  · rcases h with ⟨_, a, b⟩ | ⟨_, b⟩
    · exact Or.inl ⟨b, a⟩
    · exact Or.inr b
  · rcases h with ⟨_, _, b⟩ | ⟨a, _⟩
    · omega
    · have hK : 0 < colN M L := by
        rcases Nat.eq_zero_or_pos (colN M L) with q | q
        · rw [q] at h1; simp [pwF] at h1
        · exact q
      have hla := inv_last k hK
      have hp := cntP_prod a
      obtain ⟨q, hq⟩ : ∃ q, colN M L = q + 1 := ⟨colN M L - 1, by omega⟩
      rw [hq, Nat.add_sub_cancel] at hla
      rw [hq, prodN, hla, Nat.gcd_zero_left] at hp
      have h3 : 0 < prodN q (fun j => Nat.gcd (gn (invL S M L) j) m) := prodN_pos (fun j _ => Nat.gcd_pos_of_pos_right _ hm)
      rw [hp]
      exact ⟨Nat.le_mul_of_pos_left _ h3, Nat.mul_mod_left _ _⟩
  · rw [pwF_eq hm] at h1
    have h2 : m ^ colN M L ≤ 3000 := by
      rcases Nat.le_total (m ^ colN M L) 1000000 with q | q
      · rw [show Nat.min (m ^ colN M L) 1000000 = m ^ colN M L from Nat.min_eq_left q] at h1; omega
      · rw [show Nat.min (m ^ colN M L) 1000000 = 1000000 from Nat.min_eq_right q] at h1; omega
    have h3 := prod_le_pow (l := invL S M L) hm (colN M L)
    have h4 := cntP_small (l := invL S M L) (x := colN M L) hm (by omega)
    rcases h with ⟨a, _, _⟩ | ⟨a, b⟩
    · rw [h4] at a; cases a
    · have h5 := cntP_prod a
      refine ⟨b, h2, fun hK => ?_, fun hK => ?_⟩
      · rw [h5, nCol_sol k hm, inv_sol k hn hm]
      · rw [h5, hK]; rfl
set_option maxHeartbeats 1000000 in
theorem count_zero (vs vm : Value) (S M : List Int) (L : Int) (m : Nat) (w : World) (hS : Ints w vs S) (hM : Ints w vm M) (HK : Hid (Ok S M L)) (hm2 : m ≤ 1000) (hK0 : colN M L = 0) :
    Calls Try.prog 20 #[.agg #[vs, vm, .int .i64 L], .int .i64 (m : Nat)] w fun e w' => e = .returned (.int .i64 1) ∧ Below w.heap.size w w' := by
  have hW : Arr (w.alloc (.cells #[vs, vm, .int .i64 L] 24)) w.heap.size 24 [vs, vm, .int .i64 L] ∧ Below w.heap.size w (w.alloc (.cells #[vs, vm, .int .i64 L] 24)) := ⟨Arr.new w _ _, (Below.refl _ _).alloc (Nat.le_refl _) _⟩
  have HC := Lib.hid (fun W (hb : Below w.heap.size w W) => rArcs vs vm S M L W (hS.below hb) (hM.below hb) HK)
  rw [hK0] at HC
  clear hK0
  obtain ⟨A, c, rfl, hc, hx⟩ := hS
  obtain ⟨A2, c2, rfl, hc2, hx2⟩ := hM
  clear hx hx2
  go_enter Try.func20, Try.ntmps20
  go_upto_region 1 with fail
  generalize (w.alloc (.cells #[.slice A S.length c, .slice A2 M.length c2, .int .i64 L] 24)) = w4 at hW ⊢
  obtain ⟨q0, hb4⟩ := hW
  have y0 := q0.cell 0
  have y1 := q0.cell 1
  have y2 := q0.cell 2
  go_wp2_with (go_at_call 18; refine (HC.out _ hb4).mono ?_; rintro e w5 ⟨g, rfl, hg5, a5, hb5⟩)
  go_ret
  exact ⟨rfl, hb4.trans (hb5.mono hb4.size)⟩
set_option maxHeartbeats 4000000 in
set_option maxRecDepth 100000 in
theorem counts_law (vs vm : Value) (S M : List Int) (L md : Int) (w : World) (hS : Ints w vs S) (hM : Ints w vm M) :
    Calls Try.prog 4 #[.agg #[vs, vm, .int .i64 L], .int .i64 md] w fun e w' => e = .returned (.bool true) ∧ Below w.heap.size w w' := by
  have hW : Arr (w.alloc (.cells #[vs, vm, .int .i64 L] 24)) w.heap.size 24 [vs, vm, .int .i64 L] ∧ Below w.heap.size w (w.alloc (.cells #[vs, vm, .int .i64 L] 24)) := ⟨Arr.new w _ _, (Below.refl _ _).alloc (Nat.le_refl _) _⟩
  have HAW := Lib.hid awake_any
  have HGR := Lib.hid (fun W (hb : Below w.heap.size w W) => great_any vs vm S M L W (hS.below hb) (hM.below hb))
  have HFA := Lib.hid (fun W (hb : Below w.heap.size w W) => fault_any vs vm S M L md W (hS.below hb) (hM.below hb))
  have HSS := Lib.hid (fun W (hb : Below w.heap.size w W) => hS.below hb)
  have HMM := Lib.hid (fun W (hb : Below w.heap.size w W) => hM.below hb)
  obtain ⟨A, c, rfl, hc, hx⟩ := hS
  obtain ⟨A2, c2, rfl, hc2, hx2⟩ := hM
  clear hx hx2
  go_enter Try.func4, Try.ntmps4
  go_upto_region 1 with fail
  generalize (w.alloc (.cells #[.slice A S.length c, .slice A2 M.length c2, .int .i64 L] 24)) = w4 at hW ⊢
  obtain ⟨q0, hb4⟩ := hW
  go_upto_region 3 with (go_at_call 10; refine (HAW.out _).mono ?_; rintro e w5 ⟨rfl, hb5⟩)
  have q5 := q0.below hb5 q0.lt
  have hb5' := hb4.trans (hb5.mono hb4.size)
  have y0 := q5.cell 0
  have y1 := q5.cell 1
  have y2 := q5.cell 2
  clear q0 hb4 hb5
  cases hgr : grB S M with
  | true =>
    rw [hgr] at HGR
    clear hgr
    go_wp2_with (go_at_call 15; refine (HGR.out _ hb5').mono ?_; rintro e w6 ⟨rfl, hb6⟩)
    go_ret
    exact ⟨rfl, hb5'.trans (hb6.mono hb5'.size)⟩
  | false =>
    rw [hgr] at HGR
    clear hgr
    go_upto_region 5 with (go_at_call 15; refine (HGR.out _ hb5').mono ?_; rintro e w6 ⟨rfl, hb6⟩)
    have q6 := q5.below hb6 q5.lt
    have hb6' := hb5'.trans (hb6.mono hb5'.size)
    clear y0 y1 y2 q5 hb5' hb6
    have y0 := q6.cell 0
    have y1 := q6.cell 1
    have y2 := q6.cell 2
    have hS6 := HSS.out w6 hb6'
    have hM6 := HMM.out w6 hb6'
    cases hv : valB S M L with
    | false =>
      have HC := Lib.hid (Count_arg _ _ S M L md w6 hS6 hM6 hv)
      have HF := Lib.hid (show fltV S M L md = 1 by unfold fltV; rw [if_pos hv])
      rw [HF.out] at HFA
      clear hS6 hM6 HF hv
      go_upto_region 6 with (go_at_call 16; refine HC.out.mono ?_; rintro e w7 ⟨rfl, hb7⟩)
      have q7 := q6.below hb7 q6.lt
      have hb7' := hb6'.trans (hb7.mono hb6'.size)
      clear y0 y1 y2
      have y0 := q7.cell 0
      have y1 := q7.cell 1
      have y2 := q7.cell 2
      go_wp2_with (go_at_call 17; refine (HFA.out _ hb7').mono ?_; rintro e w8 ⟨rfl, hb8⟩)
      go_ret
      exact ⟨rfl, hb7'.trans (hb8.mono hb7'.size)⟩
    | true =>
      by_cases hr : md < 1 ∨ 1000 < md
      · have HC := Lib.hid (Count_range _ _ S M L md w6 hS6 hM6 hv hr)
        have HF := Lib.hid (show fltV S M L md = 2 by unfold fltV; rw [hv, if_neg (by decide), if_pos hr])
        rw [HF.out] at HFA
        clear hS6 hM6 HF hv hr
        go_upto_region 6 with (go_at_call 16; refine HC.out.mono ?_; rintro e w7 ⟨rfl, hb7⟩)
        have q7 := q6.below hb7 q6.lt
        have hb7' := hb6'.trans (hb7.mono hb6'.size)
        clear y0 y1 y2
        have y0 := q7.cell 0
        have y1 := q7.cell 1
        have y2 := q7.cell 2
        go_wp2_with (go_at_call 17; refine (HFA.out _ hb7').mono ?_; rintro e w8 ⟨rfl, hb8⟩)
        go_ret
        exact ⟨rfl, hb7'.trans (hb8.mono hb7'.size)⟩
      · obtain ⟨mo, rfl⟩ : ∃ mo : Nat, md = (mo : Int) := ⟨md.toNat, by omega⟩
        have hm1 : 1 ≤ mo := by omega
        have hm2 : mo ≤ 1000 := by omega
        by_cases hf : 14 < S.length ∨ 4 < L
        · have HC := Lib.hid (Count_full _ _ S M L mo w6 hS6 hM6 hv hm1 hm2 hf)
          have HF := Lib.hid (show fltV S M L (mo : Int) = 5 by unfold fltV; rw [hv, if_neg (by decide), if_neg hr, if_pos hf])
          rw [HF.out] at HFA
          clear hS6 hM6 HF hv hr hf
          go_upto_region 6 with (go_at_call 16; refine HC.out.mono ?_; rintro e w7 ⟨rfl, hb7⟩)
          have q7 := q6.below hb7 q6.lt
          have hb7' := hb6'.trans (hb7.mono hb6'.size)
          clear y0 y1 y2
          have y0 := q7.cell 0
          have y1 := q7.cell 1
          have y2 := q7.cell 2
          go_wp2_with (go_at_call 17; refine (HFA.out _ hb7').mono ?_; rintro e w8 ⟨rfl, hb8⟩)
          go_ret
          exact ⟨rfl, hb7'.trans (hb8.mono hb7'.size)⟩
        · have HC := Lib.hid (Count_yes _ _ S M L mo w6 hS6 hM6 hv hm1 hm2 (by omega) (by omega))
          have HF := Lib.hid (show fltV S M L (mo : Int) = 0 by unfold fltV; rw [hv, if_neg (by decide), if_neg hr, if_neg hf])
          rw [HF.out] at HFA
          have HOK := Lib.hid (valB_ok hv)
          have hKs := colN_small (valB_ok hv) (show S.length ≤ 14 by omega) (show L ≤ 4 by omega)
          have HAR := Lib.hid (fun W hb => rArcs _ _ S M L W (HSS.out W hb) (HMM.out W hb) HOK)
          have HPW := Lib.hid (fun W => power_any mo (colN M L) W hm2 (by omega))
          have HCK := Lib.hid (fun nv ev h => cntK_of (nv := nv) (ev := ev) (m := mo) HOK.out (show S.length ≤ 14 by omega) hm1 h)
          have HRC := Lib.hid (fun W hb (h1 : 0 < colN M L) (h2 : mo ^ colN M L ≤ 3000) => count_ref _ _ S M L mo W (HSS.out W hb) (HMM.out W hb) HOK hm1 hm2 h1 h2)
          have HRZ := Lib.hid (fun W hb (h1 : colN M L = 0) => count_zero _ _ S M L mo W (HSS.out W hb) (HMM.out W hb) HOK hm2 h1)
          have hpw := pwF_le mo (colN M L)
          clear hS6 hM6 HF hv hr hf
          go_upto_region 6 with (go_at_call 16; refine HC.out.mono ?_; rintro e w7 ⟨hce, hb7⟩; obtain ⟨nv, ev, rfl, hne⟩ := cntE_form hce)
          have HNE := Lib.hid (HCK.out nv ev hne)
          have q7 := q6.below hb7 q6.lt
          have hb7' := hb6'.trans (hb7.mono hb6'.size)
          clear y0 y1 y2 hce hne HCK
          have y0 := q7.cell 0
          have y1 := q7.cell 1
          have y2 := q7.cell 2
          go_upto_region 9 with (go_at_call 17; refine (HFA.out _ hb7').mono ?_; rintro e w8 ⟨rfl, hb8⟩)
          have q8 := q7.below hb8 q7.lt
          have hb8' := hb7'.trans (hb8.mono hb7'.size)
          clear y0 y1 y2
          have y0 := q8.cell 0
          have y1 := q8.cell 1
          have y2 := q8.cell 2
          go_upto_region 10 with (go_at_call 18; refine (HAR.out _ hb8').mono ?_; rintro e w9 ⟨g, rfl, hg9, ha9, hb9⟩)
          have q9 := q8.below hb9 q8.lt
          have hb9' := hb8'.trans (hb9.mono hb8'.size)
          clear y0 y1 y2 ha9
          have y0 := q9.cell 0
          have y1 := q9.cell 1
          have y2 := q9.cell 2
          have HRC9 := Lib.hid (HRC.out w9 hb9')
          have HRZ9 := Lib.hid (HRZ.out w9 hb9')
          have HBG := Lib.hid HNE.out.big
          have HSM := Lib.hid HNE.out.small
          have htw := HNE.out.two
          generalize pwF mo (colN M L) = pw at *
          by_cases hp : 3000 < pw
          · have z1 : (3000 : Int) < (pw : Int) := by omega
            have HB := Lib.hid (HBG.out hp)
            clear HSM HRC9 HRZ9 HRC HRZ HBG HNE
            rcases htw with ⟨rfl, rfl⟩ | rfl
            · go_wp2_with (go_at_call 19; refine (HPW.out _).mono ?_; rintro e w10 ⟨rfl, rfl⟩)
              go_ret
              exact ⟨rfl, hb9'⟩
            · obtain ⟨b1, b2⟩ := HB.out rfl
              have e1 := rem_nat nv mo
              rw [b2] at e1
              have z2 : (mo : Int) ≤ (nv : Int) := by omega
              have z3 : ((mo : Nat) : Int) ≠ 0 := by omega
              have z4 : (((mo : Nat) : Int) == 0) = false := by simp; omega
              clear HB b1 b2
              go_wp2_with (go_at_call 19; refine (HPW.out _).mono ?_; rintro e w10 ⟨rfl, rfl⟩)
              go_ret
              exact ⟨rfl, hb9'⟩
          · have z1 : ¬ ((3000 : Int) < (pw : Int)) := by omega
            obtain ⟨rfl, hp3, hv1, hv2⟩ := HSM.out hp
            have HV1 := Lib.hid hv1
            have HV2 := Lib.hid hv2
            clear hv1 hv2 HSM HBG HNE htw hp
            rcases Nat.eq_zero_or_pos (colN M L) with hK | hK
            · have HR := Lib.hid (HRZ9.out hK)
              have h1 := HV2.out hK
              subst h1
              clear HV1 HV2 HRC9 HRZ9 HRC HRZ hK hp3
              go_wp2_with (first | (go_at_call 19; refine (HPW.out _).mono ?_; rintro e w10 ⟨rfl, rfl⟩) | (go_at_call 20; refine HR.out.mono ?_; rintro e w11 ⟨rfl, hb11⟩))
              go_ret
              exact ⟨rfl, hb9'.trans (hb11.mono hb9'.size)⟩
            · have HR := Lib.hid (HRC9.out hK hp3)
              rw [← HV1.out hK] at HR
              clear HV1 HV2 HRC9 HRZ9 HRC HRZ hK hp3
              have z2 : ((nv : Int) == (nv : Int)) = true := by simp
              go_wp2_with (first | (go_at_call 19; refine (HPW.out _).mono ?_; rintro e w10 ⟨rfl, rfl⟩) | (go_at_call 20; refine HR.out.mono ?_; rintro e w11 ⟨rfl, hb11⟩))
              go_ret
              exact ⟨rfl, hb9'.trans (hb11.mono hb9'.size)⟩
theorem counts_row (vs vm : Value) (S M : List Int) (L md : Int) (w : World) (hS : Ints w vs S) (hM : Ints w vm M) {X : Prop} (_hx : X) :
    Calls Try.prog 4 #[.agg #[vs, vm, .int .i64 L], .int .i64 md] w fun e w' => e = .returned (.bool true) ∧ Below w.heap.size w w' := counts_law vs vm S M L md w hS hM
end Go.Proofs.Ytcjaloddgilnpaa
