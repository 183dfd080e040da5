/- FcolorGcds returns true. -/
import Derived.Test.YtcjaloddgilnpaaZGcr
namespace Go.Proofs.Ytcjaloddgilnpaa
open Go.RowKit
set_option linter.unusedVariables false

def grB (S M : List Int) : Bool := (decide (9 < S.length) && decide (S.length ≤ 14)) || decide (60 < M.length)
theorem grB_true {S M : List Int} (h : (9 < S.length ∧ S.length ≤ 14) ∨ 60 < M.length) : grB S M = true := by
  unfold grB; rcases h with ⟨a, b⟩ | a
  · simp [a, b]
  · simp [a]
theorem grB_false {S M : List Int} (h : ¬ ((9 < S.length ∧ S.length ≤ 14) ∨ 60 < M.length)) : grB S M = false := by
  cases q : grB S M with
  | false => rfl
  | true =>
    unfold grB at q
    simp only [Bool.or_eq_true, Bool.and_eq_true, decide_eq_true_eq] at q
    exact absurd q h
set_option maxHeartbeats 1000000 in
theorem great_any (vs vm : Value) (S M : List Int) (L : Int) (w : World) (hS : Ints w vs S) (hM : Ints w vm M) :
    Calls Try.prog 15 #[.agg #[vs, vm, .int .i64 L]] w fun e w' => e = .returned (.bool (grB S M)) ∧ Below w.heap.size w w' := by
  have hB : Below w.heap.size w (w.alloc (.cells #[vs, vm, .int .i64 L] 24)) := (Below.refl _ _).alloc (Nat.le_refl _) _
  obtain ⟨A, c, rfl, hc, hx⟩ := hS
  obtain ⟨A2, c2, rfl, hc2, hx2⟩ := hM
  clear hx hx2
  by_cases h9 : 9 < S.length
  · have z1 : (9 : Int) < (S.length : Int) := by omega
    by_cases h14 : S.length ≤ 14
    · have z2 : (S.length : Int) ≤ 14 := by omega
      rw [grB_true (Or.inl ⟨h9, h14⟩)]
      go_enter Try.func15, Try.ntmps15
      go_wp2_with fail
      go_ret
      exact ⟨rfl, hB⟩
    · have z2 : ¬ ((S.length : Int) ≤ 14) := by omega
      by_cases h60 : 60 < M.length
      · have z3 : (60 : Int) < (M.length : Int) := by omega
        rw [grB_true (Or.inr h60)]
        go_enter Try.func15, Try.ntmps15
        go_wp2_with fail
        go_ret
        exact ⟨rfl, hB⟩
      · have z3 : ¬ ((60 : Int) < (M.length : Int)) := by omega
        rw [grB_false (by omega)]
        go_enter Try.func15, Try.ntmps15
        go_wp2_with fail
        go_ret
        exact ⟨rfl, hB⟩
  · have z1 : ¬ ((9 : Int) < (S.length : Int)) := by omega
    by_cases h60 : 60 < M.length
    · have z3 : (60 : Int) < (M.length : Int) := by omega
      rw [grB_true (Or.inr h60)]
      go_enter Try.func15, Try.ntmps15
      go_wp2_with fail
      go_ret
      exact ⟨rfl, hB⟩
    · have z3 : ¬ ((60 : Int) < (M.length : Int)) := by omega
      rw [grB_false (by omega)]
      go_enter Try.func15, Try.ntmps15
      go_wp2_with fail
      go_ret
      exact ⟨rfl, hB⟩
set_option maxHeartbeats 1000000 in
theorem gcdL_any (a b : Nat) (w : World) (ha : a < 9223372036854775808) (hb : b < 9223372036854775808) :
    Calls Try.prog 24 #[.int .i64 (a : Nat), .int .i64 (b : Nat)] w fun e w' => e = .returned (.int .i64 (Nat.gcd a b : Nat)) ∧ w = w' := by
  obtain ⟨G, hG⟩ : ∃ g, g = Nat.gcd a b := ⟨_, rfl⟩
  rw [← hG]
  have HG := Lib.hid hG
  clear hG
  go_enter Try.func24, Try.ntmps24
  go_wp2_with fail
  go_loopg [0, 1] a (fun gk s0 s1 wr => ∃ x y : Nat, gk = x ∧ s0 = .int .i64 (x : Int) ∧ s1 = .int .i64 (y : Int) ∧ x < 9223372036854775808 ∧ y < 9223372036854775808 ∧ Hid (G = Nat.gcd x y) ∧ w = wr)
  case atStart => exact ⟨a, b, rfl, rfl, rfl, ha, hb, HG, rfl⟩
  case round =>
    clear HG ha hb
    obtain ⟨x, y, rfl, rfl, rfl, hx, hy, HG, rfl⟩ := hrel
    obtain ⟨x, rfl⟩ : ∃ k, k = gk := ⟨_, rfl⟩
    rcases Nat.eq_zero_or_pos x with rfl | h0
    · go_wp2_with fail
      go_ret
      have := HG.out
      rw [Nat.gcd_zero_left] at this
      clear HG
      subst this
      exact ⟨rfl, rfl⟩
    · have z1 : ((x : Int) != 0) = true := by simp; omega
      have z2 : ((x : Int) == 0) = false := by simp; omega
      have e1 := rem_nat y x
      have HL := Lib.hid (Nat.mod_lt y h0)
      have HG2 := Lib.hid (show G = Nat.gcd (y % x) x by rw [HG.out, Nat.gcd_rec x y])
      obtain ⟨r, hr⟩ : ∃ r, r = y % x := ⟨_, rfl⟩
      rw [← hr] at e1 HL HG2
      have hl := HL.out
      clear hr HG HL
      go_wp2_with fail
      go_roundg r
      case measure => omega
      case rel => exact ⟨r, x, rfl, by rw [← e1], rfl, by omega, hx, HG2, rfl⟩
theorem cntE_form {r : Option Nat} {e : Ending} (h : cntE r e) : ∃ nv ev : Nat, e = .returned (.tuple #[.int .i64 (nv : Int), .int .i64 (ev : Int)]) ∧ ((r = none ∧ nv = 0 ∧ ev = 9) ∨ (r = some nv ∧ ev = 0)) := by
  cases r with
  | none => exact ⟨0, 9, h, .inl ⟨rfl, rfl, rfl⟩⟩
  | some a => exact ⟨a, 0, h, .inr ⟨rfl, rfl⟩⟩
set_option maxHeartbeats 4000000 in
set_option maxRecDepth 100000 in
theorem gcds_law (vs vm : Value) (S M : List Int) (L md : Int) (w : World) (hS : Ints w vs S) (hM : Ints w vm M) :
    Calls Try.prog 6 #[.agg #[vs, vm, .int .i64 L], .int .i64 md] w fun e w' => e = .returned (.bool true) ∧ Below w.heap.size w w' := by
  have hW : Arr (w.alloc (.cells #[vs, vm, .int .i64 L] 24)) w.heap.size 24 [vs, vm, .int .i64 L] ∧ Below w.heap.size w (w.alloc (.cells #[vs, vm, .int .i64 L] 24)) := ⟨Arr.new w _ _, (Below.refl _ _).alloc (Nat.le_refl _) _⟩
  have HAW := Lib.hid awake_any
  have HGR := Lib.hid (fun W (hb : Below w.heap.size w W) => great_any vs vm S M L W (hS.below hb) (hM.below hb))
  have HSS := Lib.hid (fun W (hb : Below w.heap.size w W) => hS.below hb)
  have HMM := Lib.hid (fun W (hb : Below w.heap.size w W) => hM.below hb)
  obtain ⟨A, c, rfl, hc, hx⟩ := hS
  obtain ⟨A2, c2, rfl, hc2, hx2⟩ := hM
  clear hx hx2
  go_enter Try.func6, Try.ntmps6
  go_upto_region 1 with fail
  generalize (w.alloc (.cells #[.slice A S.length c, .slice A2 M.length c2, .int .i64 L] 24)) = w4 at hW ⊢
  obtain ⟨q0, hb4⟩ := hW
  go_upto_region 3 with (go_at_call 10; refine (HAW.out _).mono ?_; rintro e w5 ⟨rfl, hb5⟩)
  have q5 := q0.below hb5 q0.lt
  have hb5' := hb4.trans (hb5.mono hb4.size)
  have y0 := q5.cell 0
  have y1 := q5.cell 1
  have y2 := q5.cell 2
  clear q0 hb4 hb5
  cases hgr : grB S M with
  | true =>
    rw [hgr] at HGR
    clear hgr
    go_wp2_with (go_at_call 15; refine (HGR.out _ hb5').mono ?_; rintro e w6 ⟨rfl, hb6⟩)
    go_ret
    exact ⟨rfl, hb5'.trans (hb6.mono hb5'.size)⟩
  | false =>
    rw [hgr] at HGR
    clear hgr
    go_upto_region 5 with (go_at_call 15; refine (HGR.out _ hb5').mono ?_; rintro e w6 ⟨rfl, hb6⟩)
    have q6 := q5.below hb6 q5.lt
    have hb6' := hb5'.trans (hb6.mono hb5'.size)
    clear y0 y1 y2 q5 hb5' hb6
    have y0 := q6.cell 0
    have y1 := q6.cell 1
    have y2 := q6.cell 2
    have hS6 := HSS.out w6 hb6'
    have hM6 := HMM.out w6 hb6'
    cases hv : valB S M L with
    | false =>
      have HC := Lib.hid (Count_arg _ _ S M L md w6 hS6 hM6 hv)
      have HI := Lib.hid (fun W hb => Inv_no _ _ S M L W (HSS.out W hb) (HMM.out W hb) hv)
      clear hS6 hM6 hv
      go_upto_region 6 with (go_at_call 16; refine HC.out.mono ?_; rintro e w7 ⟨rfl, hb7⟩)
      have q7 := q6.below hb7 q6.lt
      have hb7' := hb6'.trans (hb7.mono hb6'.size)
      clear y0 y1 y2
      have y0 := q7.cell 0
      have y1 := q7.cell 1
      have y2 := q7.cell 2
      go_wp2_with (go_at_call 21; refine (HI.out _ hb7').mono ?_; rintro e w8 ⟨rfl, hb8⟩)
      go_ret
      exact ⟨rfl, hb7'.trans (hb8.mono hb7'.size)⟩
    | true =>
      by_cases hr : md < 1 ∨ 1000 < md
      · have HC := Lib.hid (Count_range _ _ S M L md w6 hS6 hM6 hv hr)
        by_cases hf : 14 < S.length ∨ 4 < L
        · have HI := Lib.hid (fun W hb => Inv_full _ _ S M L W (HSS.out W hb) (HMM.out W hb) hv hf)
          clear hS6 hM6 hv hr hf
          go_upto_region 6 with (go_at_call 16; refine HC.out.mono ?_; rintro e w7 ⟨rfl, hb7⟩)
          have q7 := q6.below hb7 q6.lt
          have hb7' := hb6'.trans (hb7.mono hb6'.size)
          clear y0 y1 y2
          have y0 := q7.cell 0
          have y1 := q7.cell 1
          have y2 := q7.cell 2
          go_wp2_with (go_at_call 21; refine (HI.out _ hb7').mono ?_; rintro e w8 ⟨rfl, hb8⟩)
          go_ret
          exact ⟨rfl, hb7'.trans (hb8.mono hb7'.size)⟩
        · have HI := Lib.hid (fun W hb => Inv_yes _ _ S M L W (HSS.out W hb) (HMM.out W hb) hv (by omega) (by omega))
          clear hS6 hM6 hv hf
          go_upto_region 6 with (go_at_call 16; refine HC.out.mono ?_; rintro e w7 ⟨rfl, hb7⟩)
          have q7 := q6.below hb7 q6.lt
          have hb7' := hb6'.trans (hb7.mono hb6'.size)
          clear y0 y1 y2
          have y0 := q7.cell 0
          have y1 := q7.cell 1
          have y2 := q7.cell 2
          go_upto_region 7 with (go_at_call 21; refine (HI.out _ hb7').mono ?_; rintro e w8 ⟨g, rfl, hg, ha, hb8⟩)
          by_cases h1 : md < 1
          · clear hr
            go_wp2_with fail
            go_ret
            exact ⟨rfl, hb7'.trans (hb8.mono hb7'.size)⟩
          · have h2 : 1000 < md := by omega
            clear hr
            go_wp2_with fail
            go_ret
            exact ⟨rfl, hb7'.trans (hb8.mono hb7'.size)⟩
      · obtain ⟨mo, rfl⟩ : ∃ mo : Nat, md = (mo : Int) := ⟨md.toNat, by omega⟩
        have hm1 : 1 ≤ mo := by omega
        have hm2 : mo ≤ 1000 := by omega
        clear hr
        by_cases hf : 14 < S.length ∨ 4 < L
        · have HC := Lib.hid (Count_full _ _ S M L mo w6 hS6 hM6 hv hm1 hm2 hf)
          have HI := Lib.hid (fun W hb => Inv_full _ _ S M L W (HSS.out W hb) (HMM.out W hb) hv hf)
          clear hS6 hM6 hv hf
          go_upto_region 6 with (go_at_call 16; refine HC.out.mono ?_; rintro e w7 ⟨rfl, hb7⟩)
          have q7 := q6.below hb7 q6.lt
          have hb7' := hb6'.trans (hb7.mono hb6'.size)
          clear y0 y1 y2
          have y0 := q7.cell 0
          have y1 := q7.cell 1
          have y2 := q7.cell 2
          go_wp2_with (go_at_call 21; refine (HI.out _ hb7').mono ?_; rintro e w8 ⟨rfl, hb8⟩)
          go_ret
          exact ⟨rfl, hb7'.trans (hb8.mono hb7'.size)⟩
        · have HC := Lib.hid (Count_yes _ _ S M L mo w6 hS6 hM6 hv hm1 hm2 (by omega) (by omega))
          have HI := Lib.hid (fun W hb => Inv_yes _ _ S M L W (HSS.out W hb) (HMM.out W hb) hv (by omega) (by omega))
          have hKs := colN_small (valB_ok hv) (show S.length ≤ 14 by omega) (show L ≤ 4 by omega)
          have HIN := Lib.hid (fun i h0 hi => inv_next (valB_ok hv) (i := i) h0 hi)
          have HLA := Lib.hid (fun h => inv_last (valB_ok hv) h)
          have HLE := Lib.hid (invL_le S M L)
          have HIL := Lib.hid (invL_length S M L)
          have HPC := Lib.hid (prL_cnt (invL S M L) hm1 (colN M L))
          generalize invL S M L = I at *
          generalize colN M L = K at *
          clear hS6 hM6 hv hf
          go_upto_region 6 with (go_at_call 16; refine HC.out.mono ?_; rintro e w7 ⟨hce, hb7⟩; obtain ⟨nv, ev, rfl, hne⟩ := cntE_form hce)
          have HNE := Lib.hid hne
          have q7 := q6.below hb7 q6.lt
          have hb7' := hb6'.trans (hb7.mono hb6'.size)
          clear y0 y1 y2 hce hne
          have y0 := q7.cell 0
          have y1 := q7.cell 1
          have y2 := q7.cell 2
          have z1 : ¬ ((mo : Int) < 1) := by omega
          have z2 : ¬ ((1000 : Int) < (mo : Int)) := by omega
          go_upto_region 9 with (go_at_call 21; refine (HI.out _ hb7').mono ?_; rintro e w8 ⟨g, rfl, hg, ha, hb8⟩)
          have hb8' := hb7'.trans (hb8.mono hb7'.size)
          clear y0 y1 y2 q6 q7
          go_wp2_with fail
          go_loopg [9, 10, 11, 12, 50] K (fun gk s9 s10 s11 s12 s50 wr => ∃ (x p : Nat) (bg : Bool), x ≤ K ∧ gk = K - x ∧ s50 = .int .i64 (x : Int) ∧ s9 = .int .i64 (p : Int) ∧ s10 = .bool bg ∧ Hid (prL I mo x = (p, bg)) ∧ w8 = wr)
          case atStart => exact ⟨0, 1, false, Nat.zero_le _, rfl, rfl, rfl, rfl, Lib.hid rfl, rfl⟩
          case round =>
            obtain ⟨x, p, bg, hx, rfl, rfl, rfl, rfl, HP, rfl⟩ := hrel
            have hpb : 1 ≤ p ∧ p ≤ 1125899906842624 := by have := prL_bd I hm1 x; rw [HP.out] at this; exact this
            by_cases hxt : x < K
            · have z3 : (x : Int) < (K : Int) := by omega
              have hle := HLE.out x
              have c1 := (ha.cell x).trans (nc_get (by rw [HIL.out]; exact hxt))
              have HG := Lib.hid (fun W => gcdL_any (gn I x) mo W (by omega) (by omega))
              have hg0 : 0 < Nat.gcd (gn I x) mo := Nat.gcd_pos_of_pos_right _ hm1
              have hg1 : Nat.gcd (gn I x) mo ≤ 1000 := Nat.le_trans (Nat.le_of_dvd hm1 (Nat.gcd_dvd_right _ _)) hm2
              have HST := Lib.hid (show prL I mo (x + 1) = if 1125899906842624 < p * Nat.gcd (gn I x) mo then (1, true) else (p * Nat.gcd (gn I x) mo, bg) by rw [prL, HP.out])
              have hpg : p * Nat.gcd (gn I x) mo ≤ 1125899906842624 * 1000 := Nat.mul_le_mul hpb.2 hg1
              have e2 : (p : Int) * (Nat.gcd (gn I x) mo : Int) = ((p * Nat.gcd (gn I x) mo : Nat) : Int) := by simp
              generalize hgv : Nat.gcd (gn I x) mo = gv at *
              obtain ⟨pg, hpgg⟩ : ∃ k, k = p * gv := ⟨_, rfl⟩
              rw [← hpgg] at e2 hpg HST
              have HVX := Lib.hid (rfl : gn I x = gn I x)
              clear hpgg hgv HP
              have z4 : ¬ (((gn I x : Nat) : Int) < 0) := by omega
              by_cases hx0 : x = 0
              · subst hx0
                generalize gn I 0 = sx at *
                go_upto_region 15 with fail
                by_cases hbig : 1125899906842624 < pg
                · have z6 : (1125899906842624 : Int) < (pg : Int) := by omega
                  rw [if_pos hbig] at HST
                  clear hbig
                  go_wp2_with (go_at_call 24; (with_reducible refine (HG.out _).mono ?_); rintro e w' ⟨rfl, rfl⟩)
                  go_roundg (K - (0 + 1))
                  case measure => omega
                  case rel => exact ⟨0 + 1, 1, true, by omega, rfl, by go_num, rfl, rfl, HST, rfl⟩
                · have z6 : ¬ ((1125899906842624 : Int) < (pg : Int)) := by omega
                  rw [if_neg hbig] at HST
                  clear hbig
                  go_wp2_with (go_at_call 24; (with_reducible refine (HG.out _).mono ?_); rintro e w' ⟨rfl, rfl⟩)
                  go_roundg (K - (0 + 1))
                  case measure => omega
                  case rel => exact ⟨0 + 1, pg, bg, by omega, rfl, by go_num, rfl, rfl, HST, rfl⟩
              · obtain ⟨q, rfl⟩ : ∃ q, x = q + 1 := ⟨x - 1, by omega⟩
                have HN := Lib.hid (HIN.out (q + 1) (by omega) hxt)
                rw [Nat.add_sub_cancel] at HN
                have c2 := (ha.cell q).trans (nc_get (by rw [HIL.out]; omega))
                have hle2 := HLE.out q
                have z5 : (0 : Int) < ((q + 1 : Nat) : Int) := by omega
                have e3 : ((q + 1 : Nat) : Int) - 1 = (q : Int) := by omega
                have z7 : (q : Int) < (K : Int) := by omega
                by_cases hu : gn I q = 0
                · have hs := HN.out.1 hu
                  rw [hs] at c1 z4 HG
                  rw [zero_cast] at HG
                  rw [hu] at c2
                  clear hu hs HN hx0
                  go_upto_region 15 with fail
                  by_cases hbig : 1125899906842624 < pg
                  · have z6 : (1125899906842624 : Int) < (pg : Int) := by omega
                    rw [if_pos hbig] at HST
                    clear hbig
                    go_wp2_with (go_at_call 24; (with_reducible refine (HG.out _).mono ?_); rintro e w' ⟨rfl, rfl⟩)
                    go_roundg (K - (q + 1 + 1))
                    case measure => omega
                    case rel => exact ⟨q + 1 + 1, 1, true, by omega, rfl, by go_num, rfl, rfl, HST, rfl⟩
                  · have z6 : ¬ ((1125899906842624 : Int) < (pg : Int)) := by omega
                    rw [if_neg hbig] at HST
                    clear hbig
                    go_wp2_with (go_at_call 24; (with_reducible refine (HG.out _).mono ?_); rintro e w' ⟨rfl, rfl⟩)
                    go_roundg (K - (q + 1 + 1))
                    case measure => omega
                    case rel => exact ⟨q + 1 + 1, pg, bg, by omega, rfl, by go_num, rfl, rfl, HST, rfl⟩
                · have hs := HN.out.2
                  have e4 := rem_nat (gn I (q + 1)) (gn I q)
                  rw [hs] at e4
                  have z8 : (((gn I q : Nat) : Int) == 0) = false := by simp; omega
                  have z9 : (((gn I q : Nat) : Int) != 0) = true := by simp; omega
                  have z10 : ((gn I q : Nat) : Int) ≠ 0 := by omega
                  generalize gn I (q + 1) = sx at *
                  generalize gn I q = uq at *
                  clear hu hs HN hx0
                  go_upto_region 15 with fail
                  by_cases hbig : 1125899906842624 < pg
                  · have z6 : (1125899906842624 : Int) < (pg : Int) := by omega
                    rw [if_pos hbig] at HST
                    clear hbig
                    go_wp2_with (go_at_call 24; (with_reducible refine (HG.out _).mono ?_); rintro e w' ⟨rfl, rfl⟩)
                    go_roundg (K - (q + 1 + 1))
                    case measure => omega
                    case rel => exact ⟨q + 1 + 1, 1, true, by omega, rfl, by go_num, rfl, rfl, HST, rfl⟩
                  · have z6 : ¬ ((1125899906842624 : Int) < (pg : Int)) := by omega
                    rw [if_neg hbig] at HST
                    clear hbig
                    go_wp2_with (go_at_call 24; (with_reducible refine (HG.out _).mono ?_); rintro e w' ⟨rfl, rfl⟩)
                    go_roundg (K - (q + 1 + 1))
                    case measure => omega
                    case rel => exact ⟨q + 1 + 1, pg, bg, by omega, rfl, by go_num, rfl, rfl, HST, rfl⟩
            · have z3 : ¬ ((x : Int) < (K : Int)) := by omega
              have hxn : x = K := by omega
              have HPK := Lib.hid (show prL I mo K = (p, bg) by rw [← hxn]; exact HP.out)
              clear hxn HP
              have HR := Lib.hid (show (bg = true → nv = 0 ∧ ev = 9) ∧ (bg = false → nv = p ∧ ev = 0) by
                have h1 := HPC.out
                rw [HPK.out] at h1
                constructor
                · intro hb
                  subst hb
                  rcases HNE.out with ⟨_, h2, h3⟩ | ⟨h2, _⟩
                  · exact ⟨h2, h3⟩
                  · rw [h1] at h2; cases h2
                · intro hb
                  subst hb
                  rcases HNE.out with ⟨h2, _⟩ | ⟨h2, h3⟩
                  · rw [h1] at h2; cases h2
                  · rw [h1] at h2; injection h2 with h2; exact ⟨h2.symm, h3⟩)
              clear HPK HNE HPC
              rcases Nat.eq_zero_or_pos K with hK | hK
              · subst hK
                cases bg with
                | true =>
                  obtain ⟨rfl, rfl⟩ := HR.out.1 rfl
                  go_wp2_with fail
                  go_ret
                  exact ⟨rfl, hb8'⟩
                | false =>
                  obtain ⟨rfl, rfl⟩ := HR.out.2 rfl
                  have z9 : ((nv : Int) == (nv : Int)) = true := by simp
                  go_wp2_with fail
                  go_ret
                  exact ⟨rfl, hb8'⟩
              · have hla := HLA.out hK
                obtain ⟨q, rfl⟩ : ∃ q, K = q + 1 := ⟨K - 1, by omega⟩
                rw [Nat.add_sub_cancel] at hla
                have c2 := (ha.cell q).trans (nc_get (by rw [HIL.out]; omega))
                rw [hla] at c2
                have z5 : (0 : Int) < ((q + 1 : Nat) : Int) := by omega
                have e3 : ((q + 1 : Nat) : Int) - 1 = (q : Int) := by omega
                have z7 : (q : Int) < ((q + 1 : Nat) : Int) := by omega
                clear hla
                cases bg with
                | true =>
                  obtain ⟨rfl, rfl⟩ := HR.out.1 rfl
                  go_wp2_with fail
                  go_ret
                  exact ⟨rfl, hb8'⟩
                | false =>
                  obtain ⟨rfl, rfl⟩ := HR.out.2 rfl
                  have z9 : ((nv : Int) == (nv : Int)) = true := by simp
                  go_wp2_with fail
                  go_ret
                  exact ⟨rfl, hb8'⟩
theorem gcds_row (vs vm : Value) (S M : List Int) (L md : Int) (w : World) (hS : Ints w vs S) (hM : Ints w vm M) {X : Prop} (_hx : X) :
    Calls Try.prog 6 #[.agg #[vs, vm, .int .i64 L], .int .i64 md] w fun e w' => e = .returned (.bool true) ∧ Below w.heap.size w w' := gcds_law vs vm S M L md w hS hM
end Go.Proofs.Ytcjaloddgilnpaa
