/- The reference's wide integers: product. -/
import Derived.Test.YtlbihllmpbhhcaaDoorRwd
import Derived.Deep.DeepCutAuto
import Derived.Deep.Cut
namespace Go.Proofs.YtlbihllmpbhhcaaDoor
open Go.RowKit
set_option linter.unusedVariables false

theorem sgb {σ b : Int} {d D : Nat} (hs : σ = 1 ∨ σ = -1) (hd : d ≤ D) (hb : -1125899906842624 ≤ b ∧ b ≤ 1125899906842624) : -((D * 1125899906842624 : Nat) : Int) ≤ σ * (d : Int) * b ∧ σ * (d : Int) * b ≤ ((D * 1125899906842624 : Nat) : Int) := by
  have h1 : (σ * (d : Int) * b).natAbs = d * b.natAbs := by
    rw [Int.natAbs_mul, Int.natAbs_mul]
    rcases hs with rfl | rfl <;> simp
  have h2 : d * b.natAbs ≤ D * 1125899906842624 := Nat.mul_le_mul hd (by omega)
  omega
theorem pwb {p : Int} {j J : Nat} (hp : -1152921504606846976 ≤ p ∧ p ≤ 1152921504606846976) (hj : j ≤ J) (hJ : J ≤ 50) : -1298074214633706907132624082305024 ≤ p * (2 : Int) ^ j ∧ p * (2 : Int) ^ j ≤ 1298074214633706907132624082305024 := by
  have h1 : (p * (2 : Int) ^ j).natAbs = p.natAbs * 2 ^ j := by
    rw [Int.natAbs_mul, Int.natAbs_pow]; rfl
  have h2 : p.natAbs * 2 ^ j ≤ 1152921504606846976 * 2 ^ 50 := Nat.mul_le_mul (by omega) (Nat.pow_le_pow_right (by omega) (by omega))
  omega
theorem sgl (σ b : Int) (A k : Nat) : σ * ((low A (k + 1) : Nat) : Int) * b = σ * ((low A k : Nat) : Int) * b + σ * ((dig A k : Nat) : Int) * b * (2 : Int) ^ (10 * k) := by
  rw [low_succ, ← two_pow10, Int.natCast_add, Int.natCast_mul, Int.natCast_pow, Int.mul_add, Int.add_mul]
  congr 1
  show σ * (((dig A k : Nat) : Int) * (2 : Int) ^ (10 * k)) * b = _
  rw [Int.mul_assoc, Int.mul_assoc, Int.mul_assoc, Int.mul_assoc, Int.mul_comm b]
set_option maxHeartbeats 1000000 in
theorem rprod_any (a b : Int) (w : World) (ha : -1152921504606846975 ≤ a ∧ a ≤ 1152921504606846975) (hb : -1125899906842624 ≤ b ∧ b ≤ 1125899906842624) :
    Calls Tryd.prog 67 #[.int .i64 a, .int .i64 b] w fun e w' => e = .returned (.agg #[.int .i64 (nh (a * b)), .int .i64 (nl (a * b))]) ∧ Below w.heap.size w w' := by
  have hW : ∀ W, W = ((w.alloc (.cells #[.int .i64 0, .int .i64 0] 114)).alloc (.cells #[.int .i64 0, .int .i64 0] 114)) → Arr W w.heap.size 114 [.int .i64 0, .int .i64 0] ∧ Arr W (w.heap.size + 1) 114 [.int .i64 0, .int .i64 0] ∧ Below w.heap.size w W := by
    intro W hW
    subst hW
    exact ⟨(Arr.new _ _ [_, _]).alloc _, Arr.newAt (w.alloc _) _ [_, _] _ (by simp), ((Below.refl _ _).alloc (Nat.le_refl _) _).alloc (by simp) _⟩
  obtain ⟨σ, A, hσ, hA, hab⟩ : ∃ (σ : Int) (A : Nat), (a < 0 ∧ σ = -1 ∧ -a = (A : Int) ∨ ¬ a < 0 ∧ σ = 1 ∧ a = (A : Int)) ∧ A < 1152921504606846976 ∧ a * b = σ * (A : Int) * b := by
    by_cases h : a < 0
    · exact ⟨-1, a.natAbs, .inl ⟨h, rfl, by omega⟩, by omega, by rw [show (-1 : Int) * (a.natAbs : Int) = a by omega]⟩
    · exact ⟨1, a.natAbs, .inr ⟨h, rfl, by omega⟩, by omega, by rw [show (1 : Int) * (a.natAbs : Int) = a by omega]⟩
  have HAB := Lib.hid hab
  have HS := Lib.hid hσ
  clear hab
  go_enter Tryd.func67, Tryd.ntmps67
  go_upto_if 12 with fail
  go_cut [0, 5] (fun s0 s5 wx => s0 = .int .i64 (A : Int) ∧ s5 = .int .i64 σ ∧ wx = w.alloc (.cells #[.int .i64 0, .int .i64 0] 114))
  case first =>
    rcases hσ with ⟨h1, h2, h3⟩ | ⟨h1, h2, h3⟩
    · subst h2
      go_wp2_with fail
      go_meet
      case rel => exact ⟨rfl, rfl, rfl⟩
    · subst h2
      have h4 := Lib.hid h3
      clear h3
      go_wp2_with fail
      go_meet
      case rel => exact ⟨by rw [h4.out], rfl, rfl⟩
  case rest =>
    obtain ⟨rfl, rfl, rfl⟩ := hcut
    clear hσ
    go_upto_region 5 with fail
    generalize ((w.alloc (.cells #[.int .i64 0, .int .i64 0] 114)).alloc (.cells #[.int .i64 0, .int .i64 0] 114)) = w3 at hW ⊢
    have HST := Lib.hid (hW w3 rfl)
    clear hW
    go_wp2_with fail
    go_loopg [7, 8, 9, 10] 6 (fun gk s7 s8 s9 s10 wr => ∃ k : Nat, k ≤ 6 ∧ gk = 6 - k ∧ s7 = .int .i64 ((10 * k : Nat) : Int) ∧ Hid (Arr wr (w.heap.size + 1) 114 [.int .i64 (nh (σ * ((low A k : Nat) : Int) * b)), .int .i64 (nl (σ * ((low A k : Nat) : Int) * b))] ∧ Arr wr w.heap.size 114 [.int .i64 0, .int .i64 0] ∧ Below w.heap.size w wr))
    case atStart => exact ⟨0, by omega, rfl, rfl, Lib.hid ⟨by rw [low_0, Int.natCast_zero, Int.mul_zero, Int.zero_mul]; exact HST.out.2.1, HST.out.1, HST.out.2.2⟩⟩
    case round =>
      clear HST
      obtain ⟨k, hk, rfl, rfl, HR⟩ := hrel
      by_cases hlt : k < 6
      · have z1 : ((10 * k : Nat) : Int) < 60 := by omega
        go_upto_region 9 with fail
        have hs1 : σ = 1 ∨ σ = -1 := by rcases HS.out with ⟨_, h, _⟩ | ⟨_, h, _⟩; exact .inr h; exact .inl h
        have hd1 : dig A k ≤ 1023 := by have := dig_lt A k; omega
        have hpb := sgb hs1 hd1 hb
        have hdb : -1023 ≤ σ * ((dig A k : Nat) : Int) ∧ σ * ((dig A k : Nat) : Int) ≤ 1023 := by rcases hs1 with h | h <;> rw [h] <;> omega
        have e1 : ((A : Int) / 2 ^ (10 * k)).tmod 1024 = ((dig A k : Nat) : Int) := by
          rw [Int.tmod_eq_emod_of_nonneg (Int.ediv_nonneg (by omega) (Int.pow_nonneg (by omega)))]
          exact shr_dig A k
        rw [e1]
        have e2 : wrap64 (σ * ((dig A k : Nat) : Int)) = σ * ((dig A k : Nat) : Int) := IntWalk.wrap64_in _ (by omega)
        rw [e2]
        have e3 : wrap64 (σ * ((dig A k : Nat) : Int) * b) = σ * ((dig A k : Nat) : Int) * b := IntWalk.wrap64_in _ (by omega)
        rw [e3]
        clear e1 e2 e3
        have HSL := Lib.hid (sgl σ b A k)
        have hlb := sgb (d := low A k) (D := 1152921504606846975) hs1 (by have := low_le A k; omega) hb
        obtain ⟨pc, hpc⟩ : ∃ p, p = σ * ((dig A k : Nat) : Int) * b := ⟨_, rfl⟩
        obtain ⟨S, hS⟩ : ∃ p, p = σ * ((low A k : Nat) : Int) * b := ⟨_, rfl⟩
        obtain ⟨S', hS'⟩ : ∃ p, p = σ * ((low A (k + 1) : Nat) : Int) * b := ⟨_, rfl⟩
        rw [← hpc] at HSL hpb ⊢
        rw [← hS] at HSL HR hlb
        rw [← hS'] at HSL
        have HS' := Lib.hid hS'
        clear hpc hS hS' hs1 hd1 hdb
        have htm := tmod_bd pc
        have htd := tdiv_bd (p := pc) (B := 1152921504606846976) (by omega) (by omega)
        have HPW := Lib.hid (piece_nw pc)
        have HN := Lib.hid (fun W => norm_any 0 (pc.tmod 1125899906842624) W (by omega) (by omega))
        rw [show (0 : Int) * 1125899906842624 + pc.tmod 1125899906842624 = pc.tmod 1125899906842624 by omega] at HN
        have hn0 := nh_bd (x := pc.tmod 1125899906842624) (B := 1) (by omega)
        have hb1 := nl_bd (pc.tmod 1125899906842624)
        obtain ⟨tm, htm2⟩ : ∃ t, t = pc.tmod 1125899906842624 := ⟨_, rfl⟩
        obtain ⟨td, htd2⟩ : ∃ t, t = pc.tdiv 1125899906842624 := ⟨_, rfl⟩
        rw [← htm2] at htm HPW HN hn0 hb1
        rw [← htd2] at htd HPW
        have e1 : pc.tmod 1125899906842624 = tm := htm2.symm
        have e2 : pc.tdiv 1125899906842624 = td := htd2.symm
        clear htm2 htd2
        go_wp2_with fail
        refine (HN.out _).mono ?_
        rintro e w4 ⟨rfl, hb4⟩
        have HR4 := Lib.hid (And.intro (HR.out.1.below hb4 HR.out.1.lt) (And.intro (HR.out.2.1.below hb4 HR.out.2.1.lt) (HR.out.2.2.trans (hb4.mono HR.out.2.2.size))))
        clear HN HR
        have hW5 : ∀ (c1 c2 : Int) W, W = w4.alloc (.cells #[.int .i64 c1, .int .i64 c2] 114) → Arr W w4.heap.size 114 [.int .i64 c1, .int .i64 c2] ∧ Below w4.heap.size w4 W := by
          intro c1 c2 W hW
          subst hW
          exact ⟨Arr.new _ _ [_, _], (Below.refl _ _).alloc (Nat.le_refl _) _⟩
        replace hW5 := hW5 (nh tm) (nl tm)
        generalize nh tm = h0 at *
        generalize nl tm = l0 at *
        go_upto_region 10 with fail
        generalize (w4.alloc (.cells #[.int .i64 h0, .int .i64 l0] 114)) = w5 at hW5 ⊢
        obtain ⟨q9, hb5⟩ := hW5 w5 rfl
        have HR5 := Lib.hid (And.intro (HR4.out.1.below hb5 HR4.out.1.lt) (And.intro (HR4.out.2.1.below hb5 HR4.out.2.1.lt) (HR4.out.2.2.trans (hb5.mono HR4.out.2.2.size))))
        have hlt4 := HR4.out.1.lt
        have hsz4 := HR4.out.2.2.size
        obtain ⟨g9, hg9⟩ : ∃ g, g = w4.heap.size := ⟨_, rfl⟩
        rw [← hg9] at q9 hlt4 hsz4 ⊢
        have y0 := q9.cell 0
        have f0 := q9.frozen 0
        have HG := Lib.hid (show w.heap.size + 2 ≤ g9 by omega)
        have HQ9 := Lib.hid (q9.set 0 (.int .i64 (h0 + td)))
        have HR6 := Lib.hid (And.intro (HR5.out.1.far (p := ⟨g9, 0, none⟩) (show w.heap.size + 1 ≠ g9 by omega) (.int .i64 (h0 + td))) (And.intro (HR5.out.2.1.far (p := ⟨g9, 0, none⟩) (show w.heap.size ≠ g9 by omega) (.int .i64 (h0 + td))) (HR5.out.2.2.setCell (p := ⟨g9, 0, none⟩) hsz4 (.int .i64 (h0 + td)))))
        clear hW5 q9 hb5 HR4 HR5 hg9 hlt4
        go_upto_region 11 with fail
        generalize (w5.setCell ⟨g9, 0, none⟩ (.int .i64 (h0 + td))) = w6 at HQ9 HR6 ⊢
        clear y0 f0
        have HST := Lib.hid (show Arr w6 g9 114 [.int .i64 (nh (pc * (2 : Int) ^ 0)), .int .i64 (nl (pc * (2 : Int) ^ 0))] ∧ Arr w6 (w.heap.size + 1) 114 [.int .i64 (nh S), .int .i64 (nl S)] ∧ Arr w6 w.heap.size 114 [.int .i64 0, .int .i64 0] ∧ Below w.heap.size w w6 from ⟨by
          rw [Int.pow_zero, Int.mul_one, HPW.out.1, HPW.out.2, Int.add_comm td h0]; exact HQ9.out, HR6.out⟩)
        clear HQ9 HR6 HPW e1 e2 htm htd hn0 hb1
        go_wp2_with fail
        go_loopg [10] (10 * k) (fun gk s10 wr => ∃ j : Nat, j ≤ 10 * k ∧ gk = 10 * k - j ∧ s10 = .int .i64 (j : Int) ∧ Hid (Arr wr g9 114 [.int .i64 (nh (pc * (2 : Int) ^ j)), .int .i64 (nl (pc * (2 : Int) ^ j))] ∧ Arr wr (w.heap.size + 1) 114 [.int .i64 (nh S), .int .i64 (nl S)] ∧ Arr wr w.heap.size 114 [.int .i64 0, .int .i64 0] ∧ Below w.heap.size w wr))
        case atStart => exact ⟨0, Nat.zero_le _, rfl, rfl, HST⟩
        case round =>
          clear HST
          obtain ⟨j, hj, rfl, rfl, HR⟩ := hrel
          by_cases hltj : j < 10 * k
          · have z2 : (j : Int) < ((10 * k : Nat) : Int) := by omega
            have hp2 := pwb (p := pc) (j := j) (J := 50) (by omega) (by omega) (by omega)
            have HP := Lib.hid (fun W => rplus_any (pc * (2 : Int) ^ j) (pc * (2 : Int) ^ j) W hp2 hp2)
            rw [show pc * (2 : Int) ^ j + pc * (2 : Int) ^ j = pc * (2 : Int) ^ (j + 1) by rw [Int.pow_succ, ← Int.mul_assoc]; omega] at HP
            have HQ := Lib.hid HR.out.1
            have HRR := Lib.hid HR.out.2
            have y0 := HR.out.1.cell 0
            have y1 := HR.out.1.cell 1
            clear HR hp2
            generalize nh (pc * (2 : Int) ^ j) = a1 at *
            generalize nl (pc * (2 : Int) ^ j) = a2 at *
            obtain ⟨a5, ha5⟩ : ∃ z, z = nh (pc * (2 : Int) ^ (j + 1)) := ⟨_, rfl⟩
            obtain ⟨a6, ha6⟩ : ∃ z, z = nl (pc * (2 : Int) ^ (j + 1)) := ⟨_, rfl⟩
            rw [← ha5, ← ha6] at HP
            have H5 := Lib.hid ha5
            have H6 := Lib.hid ha6
            clear ha5 ha6
            go_wp2_with fail
            refine (HP.out _).mono ?_
            rintro e w7 ⟨rfl, hb7⟩
            have q7 := HQ.out.below hb7 HQ.out.lt
            have HR7 := Lib.hid (And.intro (HRR.out.1.below hb7 HRR.out.1.lt) (And.intro (HRR.out.2.1.below hb7 HRR.out.2.1.lt) (HRR.out.2.2.trans (hb7.mono HRR.out.2.2.size))))
            clear y0 y1 hb7 HP HQ HRR
            have y0 := q7.cell 0
            have y1 := q7.cell 1
            have f0 := q7.frozen 0
            have f1 := q7.frozen 1
            have HG9 := HG.out
            have HN := Lib.hid (show Arr ((w7.setCell ⟨g9, 0, none⟩ (.int .i64 a5)).setCell ⟨g9, 1, none⟩ (.int .i64 a6)) g9 114 [.int .i64 (nh (pc * (2 : Int) ^ (j + 1))), .int .i64 (nl (pc * (2 : Int) ^ (j + 1)))] ∧ Arr ((w7.setCell ⟨g9, 0, none⟩ (.int .i64 a5)).setCell ⟨g9, 1, none⟩ (.int .i64 a6)) (w.heap.size + 1) 114 [.int .i64 (nh S), .int .i64 (nl S)] ∧ Arr ((w7.setCell ⟨g9, 0, none⟩ (.int .i64 a5)).setCell ⟨g9, 1, none⟩ (.int .i64 a6)) w.heap.size 114 [.int .i64 0, .int .i64 0] ∧ Below w.heap.size w ((w7.setCell ⟨g9, 0, none⟩ (.int .i64 a5)).setCell ⟨g9, 1, none⟩ (.int .i64 a6)) from
              ⟨by rw [← H5.out, ← H6.out]; exact (q7.set 0 _).set 1 _, HR7.out.1.far2 (by omega), HR7.out.2.1.far2 (by omega), (HR7.out.2.2.setCell (p := ⟨g9, 0, none⟩) (by show w.heap.size ≤ g9; omega) _).setCell (p := ⟨g9, 1, none⟩) (by show w.heap.size ≤ g9; omega) _⟩)
            clear q7 HR7 HG9
            go_wp2_with fail
            go_roundg (10 * k - (j + 1))
            case measure => omega
            case rel => exact ⟨j + 1, by omega, rfl, by go_num, HN⟩
          · have z2 : ¬ (j : Int) < ((10 * k : Nat) : Int) := by omega
            obtain rfl : j = 10 * k := by omega
            have hp2 := pwb (p := pc) (j := 10 * k) (J := 50) (by omega) (by omega) (by omega)
            have HP := Lib.hid (fun W => rplus_any S (pc * (2 : Int) ^ (10 * k)) W (by omega) hp2)
            rw [← HSL.out] at HP
            have HQ9 := Lib.hid HR.out.1
            have HQS := Lib.hid HR.out.2.1
            have HRR := Lib.hid HR.out.2.2
            have y0 := HR.out.1.cell 0
            have y1 := HR.out.1.cell 1
            have y2 := HR.out.2.1.cell 0
            have y3 := HR.out.2.1.cell 1
            clear HR hp2 hlb
            generalize nh (pc * (2 : Int) ^ (10 * k)) = a1 at *
            generalize nl (pc * (2 : Int) ^ (10 * k)) = a2 at *
            generalize nh S = a3 at *
            generalize nl S = a4 at *
            obtain ⟨a5, ha5⟩ : ∃ z, z = nh S' := ⟨_, rfl⟩
            obtain ⟨a6, ha6⟩ : ∃ z, z = nl S' := ⟨_, rfl⟩
            rw [← ha5, ← ha6] at HP
            have H5 := Lib.hid ha5
            have H6 := Lib.hid ha6
            clear ha5 ha6 HSL
            go_wp2_with fail
            refine (HP.out _).mono ?_
            rintro e w7 ⟨rfl, hb7⟩
            have q7 := HQS.out.below hb7 HQS.out.lt
            have HR7 := Lib.hid (And.intro (HRR.out.1.below hb7 HRR.out.1.lt) (HRR.out.2.trans (hb7.mono HRR.out.2.size)))
            clear y0 y1 y2 y3 hb7 HP HQ9 HQS HRR
            have y0 := q7.cell 0
            have y1 := q7.cell 1
            have f0 := q7.frozen 0
            have f1 := q7.frozen 1
            have HN := Lib.hid (show Arr ((w7.setCell ⟨w.heap.size + 1, 0, none⟩ (.int .i64 a5)).setCell ⟨w.heap.size + 1, 1, none⟩ (.int .i64 a6)) (w.heap.size + 1) 114 [.int .i64 (nh (σ * ((low A (k + 1) : Nat) : Int) * b)), .int .i64 (nl (σ * ((low A (k + 1) : Nat) : Int) * b))] ∧ Arr ((w7.setCell ⟨w.heap.size + 1, 0, none⟩ (.int .i64 a5)).setCell ⟨w.heap.size + 1, 1, none⟩ (.int .i64 a6)) w.heap.size 114 [.int .i64 0, .int .i64 0] ∧ Below w.heap.size w ((w7.setCell ⟨w.heap.size + 1, 0, none⟩ (.int .i64 a5)).setCell ⟨w.heap.size + 1, 1, none⟩ (.int .i64 a6)) from
              ⟨by rw [← HS'.out, ← H5.out, ← H6.out]; exact (q7.set 0 _).set 1 _, HR7.out.1.far2 (by omega), (HR7.out.2.setCell (p := ⟨w.heap.size + 1, 0, none⟩) (by show w.heap.size ≤ w.heap.size + 1; omega) _).setCell (p := ⟨w.heap.size + 1, 1, none⟩) (by show w.heap.size ≤ w.heap.size + 1; omega) _⟩)
            clear q7 HR7
            go_wp2_with fail
            go_roundg (6 - (k + 1))
            case measure => omega
            case rel => exact ⟨k + 1, by omega, rfl, by go_num, HN⟩
      · have z1 : ¬ ((10 * k : Nat) : Int) < 60 := by omega
        obtain rfl : k = 6 := by omega
        have HE := Lib.hid (show σ * ((low A 6 : Nat) : Int) * b = a * b by rw [low_6 hA, HAB.out])
        have HB := Lib.hid HR.out.2.2
        have q1 := HR.out.1
        rw [HE.out] at q1
        have q0 := HR.out.2.1
        have y0 := q1.cell 0
        have y1 := q1.cell 1
        have x0 := q0.cell 0
        have x1 := q0.cell 1
        have f0 := q0.frozen 0
        have f1 := q0.frozen 1
        obtain ⟨a5, ha5⟩ : ∃ z, z = nh (a * b) := ⟨_, rfl⟩
        obtain ⟨a6, ha6⟩ : ∃ z, z = nl (a * b) := ⟨_, rfl⟩
        rw [← ha5] at y0
        rw [← ha6] at y1
        have H5 := Lib.hid ha5
        have H6 := Lib.hid ha6
        have hres := Lib.hid ((q0.set 0 (.int .i64 a5)).set 1 (.int .i64 a6))
        clear HR q0 q1 ha5 ha6 HE HAB HS
        go_wp2_with fail
        refine bodyPost_ret (v := .agg #[.int .i64 a5, .int .i64 a6]) (results_c Tryd.results67 _ _ w.heap.size 114 _ _ rfl hres.out Tryd.underlying114 rfl info_rw) rfl ?_
        exact ⟨by rw [H5.out, H6.out], (HB.out.setCell (p := ⟨w.heap.size, 0, none⟩) (Nat.le_refl _) _).setCell (p := ⟨w.heap.size, 1, none⟩) (Nat.le_refl _) _⟩
end Go.Proofs.YtlbihllmpbhhcaaDoor
