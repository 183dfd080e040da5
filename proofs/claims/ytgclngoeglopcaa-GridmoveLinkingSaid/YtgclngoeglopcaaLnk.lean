/- linking of the statements of chapter 43. -/
import Derived.Test.YtgclngoeglopcaaLnp
import Derived.Test.YtgclngoeglopcaaCrs
import Derived.Deep.QuietTactic
namespace Go.Proofs.Ytgclngoeglopcaa
open Go.RowKit
set_option linter.unusedVariables false

set_option maxRecDepth 100000 in
set_option maxHeartbeats 8000000 in
theorem linking_any (vx vo : Value) (X O : List Int) (w : World) (hX : Ints w vx X) (hO : Ints w vo O) (hv : Vd X O) :
    Calls Try.prog 23 #[.agg #[vx, vo]] w fun e w' => e = .returned (.int .i64 (lkI X O)) ∧ Below w.heap.size w w' := by
  have h40 := hv.most
  have h2 := hv.two
  obtain ⟨i0, hi0, hz0, hz1, hz2⟩ := info_parts info_int
  have hmk := fun W => run_make_one (P := Try.prog) 22 3 i0 (.int .i64 0) Try.underlying22 hi0 hz0 hz1 rfl (by rw [hz2]; decide) X.length (by omega) W
  clear hi0 hz0 hz1 hz2
  have HL := Lib.hid hv.len
  have lO : O.length ≤ 40 := by have := HL.out; omega
  have HV := Lib.hid hv
  have HP := Lib.hid (fC_perm hv)
  clear hv
  have hX0 := hX
  have hO0 := hO
  obtain ⟨A, c, rfl, hc, hh⟩ := hX
  obtain ⟨A', c', rfl, hc', hh'⟩ := hO
  clear hh hh'
  go_enter Try.func23, Try.ntmps23
  go_wp2_with fail
  have hW : Arr ((w.alloc (.cells #[.slice A X.length c, .slice A' O.length c'] 24)).alloc (.cells (rowOf (List.replicate X.length (Value.int .i64 0))) 3)) (w.heap.size + 1) 3 (labs X.length (fun _ => 0)) ∧ Arr ((w.alloc (.cells #[.slice A X.length c, .slice A' O.length c'] 24)).alloc (.cells (rowOf (List.replicate X.length (Value.int .i64 0))) 3)) w.heap.size 24 [.slice A X.length c, .slice A' O.length c'] ∧ Below w.heap.size w ((w.alloc (.cells #[.slice A X.length c, .slice A' O.length c'] 24)).alloc (.cells (rowOf (List.replicate X.length (Value.int .i64 0))) 3)) :=
    ⟨by rw [labs_zero]; exact Arr.newAt _ _ _ _ (by simp), (Arr.new _ _ [_, _]).alloc _, ((Below.refl _ _).alloc (Nat.le_refl _) _).alloc (by simp) _⟩
  generalize ((w.alloc (.cells #[.slice A X.length c, .slice A' O.length c'] 24)).alloc (.cells (rowOf (List.replicate X.length (Value.int .i64 0))) 3)) = w4 at hW ⊢
  obtain ⟨s0, b0, hbw⟩ := hW
  clear hmk
  obtain ⟨B, hBe⟩ : ∃ B, B = w.heap.size + 1 := ⟨_, rfl⟩
  rw [← hBe] at s0 ⊢
  have hBw : w.heap.size < B := by omega
  clear hBe
  go_loopg [22] X.length (fun gk s22 wr => ∃ k : Nat, k ≤ X.length ∧ gk = X.length - k ∧ s22 = .int .i64 (k : Int) ∧ Arr wr B 3 (labs X.length (fun j => if j < k then -1 else 0)) ∧ Arr wr w.heap.size 24 [.slice A X.length c, .slice A' O.length c'] ∧ Below w.heap.size w wr)
  case atStart => exact ⟨0, Nat.zero_le _, rfl, rfl, by rw [labs_congr (T := fun _ => 0) (fun j _ => by simp)]; exact s0, b0, hbw⟩
  case round =>
    clear s0 b0 hbw
    obtain ⟨k, hk, rfl, rfl, s0, b0, hbr⟩ := hrel
    by_cases hlt : k < X.length
    · have z0 := (s0.cell k).trans (labs_get hlt)
      have z1 := s0.frozen k
      have u1 : (k : Int) < (X.length : Int) := by omega
      have s1 := s0.set k (.int .i64 (-1))
      rw [labs_set, labs_congr (T := fun j => if j < k + 1 then -1 else 0) (fun j _ => by unfold updI; by_cases e : j = k <;> simp [e]; by_cases h : j < k <;> simp [h] <;> omega)] at s1
      go_wp2_with fail
      go_roundg (X.length - (k + 1))
      case measure => omega
      case rel => exact ⟨k + 1, by omega, rfl, by go_num, s1, b0.far (p := ⟨B, k, none⟩) (by show w.heap.size ≠ B; omega) _, hbr.setCell (by show w.heap.size ≤ B; omega) _⟩
    · have hk2 : k = X.length := by omega
      have u1 : ¬ (k : Int) < (X.length : Int) := by omega
      have s1 : Arr wr B 3 (labs X.length (fun _ => -1)) := by rw [hk2, labs_congr (T := fun _ => -1) (fun j hj => by simp [hj])] at s0; exact s0
      clear hk2 s0
      obtain ⟨wo, rfl⟩ : ∃ wo : World, wo = wr := ⟨_, rfl⟩
      go_wp2_with fail
      go_loopg [30] X.length (fun gk s30 wi => ∃ (k : Nat) (S : Nat → Int), k ≤ X.length ∧ gk = X.length - k ∧ s30 = .int .i64 (k : Int) ∧ Arr wi B 3 (labs X.length (S)) ∧ Arr wi w.heap.size 24 [.slice A X.length c, .slice A' O.length c'] ∧ Below w.heap.size w wi ∧ Hid (Lb (fC X O) X.length k S))
      case atStart => exact ⟨0, fun _ => -1, Nat.zero_le _, rfl, rfl, s1, b0, hbr, Lb.start⟩
      case round =>
        clear s1 b0 hbr
        obtain ⟨k, S, hk, rfl, rfl, s0, b0, hbr, HB⟩ := hrel
        by_cases hlt : k < X.length
        · have v1 : (k : Int) < (X.length : Int) := by omega
          by_cases hsk : 0 ≤ S k
          · have z0 := (s0.cell k).trans (labs_get hlt)
            have HB' := Lib.hid (HB.out.skip HP.out hlt hsk)
            have v2 : ¬ S k < 0 := by omega
            generalize S k = sk at *
            go_wp2_with fail
            obtain ⟨wo2, rfl⟩ : ∃ wo2 : World, wo2 = wr := ⟨_, rfl⟩
            go_loopg [7] 0 (fun g0 s7 wi => g0 = 0 ∧ s7 = .int .i64 (k : Int) ∧ wi = wo2)
            case atStart => exact ⟨rfl, rfl, rfl⟩
            case round =>
              obtain ⟨rfl, rfl, rfl⟩ := hrel
              go_wp2_with fail
              go_roundg (X.length - (k + 1))
              case measure => omega
              case rel => exact ⟨k + 1, S, by omega, rfl, by go_num, s0, b0, hbr, HB'⟩
          · have hsk' : S k < 0 := by omega
            have HSK := Lib.hid hsk'
            clear hsk hsk'
            obtain ⟨wo2, rfl⟩ : ∃ wo2 : World, wo2 = wr := ⟨_, rfl⟩
            go_wp2_with fail
            go_loopg [7] X.length (fun g0 s7 wi => ∃ (t : Nat) (T : Nat → Int), t ≤ X.length ∧ g0 = X.length - t ∧ s7 = .int .i64 (itr (fC X O) t k : Int) ∧ Arr wi B 3 (labs X.length (T)) ∧ Arr wi w.heap.size 24 [.slice A X.length c, .slice A' O.length c'] ∧ Below w.heap.size w wi ∧ Hid (Ll (fC X O) X.length k t S T))
            case atStart => exact ⟨0, S, Nat.zero_le _, rfl, rfl, s0, b0, hbr, Ll.start HB.out⟩
            case round =>
              clear s0 b0 hbr
              obtain ⟨t, T, ht, rfl, rfl, s0, b0, hbr, HI⟩ := hrel
              have hi := HP.out.itr_lt hlt t
              have z0 := (s0.cell (itr (fC X O) t k)).trans (labs_get hi)
              have zf := s0.frozen (itr (fC X O) t k)
              by_cases hT : 0 ≤ T (itr (fC X O) t k)
              · have HB' := Lib.hid (HI.out.done HP.out hlt HB.out HSK.out hT)
                generalize itr (fC X O) t k = i at *
                have v3 : (i : Int) < (X.length : Int) := by omega
                have v4 : ¬ T i < 0 := by omega
                generalize T i = ti at *
                go_wp2_with fail
                go_roundg (X.length - (k + 1))
                case measure => omega
                case rel => exact ⟨k + 1, T, by omega, rfl, by go_num, s0, b0, hbr, HB'⟩
              · obtain ⟨hm, hle⟩ := HI.out.step HP.out hlt HB.out HSK.out (by omega)
                have HI' := Lib.hid hm
                have hiO : itr (fC X O) t k < O.length := by have := HL.out; omega
                obtain ⟨b2, o2, rfl, hb2, hc2⟩ := hO0.at_ hiO
                rw [← gt_get hiO] at hc2
                have hr := HV.out.oX hi
                have hfs := fC_spec HV.out hi
                have HF := Lib.hid hfs.2
                have hfl := hfs.1
                have hnx := Lib.hid (show itr (fC X O) (t + 1) k = fC X O (itr (fC X O) t k) from rfl)
                clear hm hfs
                generalize hti : T (itr (fC X O) t k) = ti at *
                have v4 : ti < 0 := by omega
                clear hT hti
                rw [hnx.out.symm] at HF hfl
                generalize hNX : itr (fC X O) (t + 1) k = nx at *
                have HNX := Lib.hid hNX
                clear hNX
                generalize itr (fC X O) t k = i at *
                generalize gt O i = r at *
                obtain ⟨r, rfl⟩ := Int.eq_ofNat_of_zero_le hr.1
                have v3 : (i : Int) < (X.length : Int) := by omega
                have v5 : (i : Int) < (O.length : Int) := by omega
                have hbi' : Below w.heap.size w (wr.setCell ⟨B, i, none⟩ (.int .i64 (k : Int))) := hbr.setCell (by show w.heap.size ≤ B; omega) _
                have b0' : Arr (wr.setCell ⟨B, i, none⟩ (.int .i64 (k : Int))) w.heap.size 24 [.slice A X.length c, .slice (some ⟨b2, o2, none⟩) O.length c'] := b0.far (p := ⟨B, i, none⟩) (by show w.heap.size ≠ B; omega) _
                have s0' : Arr (wr.setCell ⟨B, i, none⟩ (.int .i64 (k : Int))) B 3 (labs X.length (updI T i k)) := by rw [← labs_set]; exact s0.set i _
                have x2 := (hbi'.cell (p := ⟨b2, o2 + i, none⟩) hb2).trans hc2
                have x0 := b0'.cell 0
                have x1 := b0'.cell 1
                have HIX := Lib.hid (fun n => index_pm (.slice A X.length c) X r nx ((wr.setCell ⟨B, i, none⟩ (.int .i64 (k : Int))).drewN n) ((hX0.below hbi').drewN n) (by omega) HV.out.pX hfl HF.out)
                clear hc2
                go_wp2_with fail
                generalize wr.setCell ⟨B, i, none⟩ (.int .i64 (k : Int)) = w9 at *
                go_quiet ((go_at_call 36; exact quietL (HIX.out _)))
                go_wp2_with fail
                go_roundg (X.length - (t + 1))
                case measure => omega
                case rel => exact ⟨t + 1, updI T i k, by omega, rfl, by rw [HNX.out], s0'.drewN _, b0'.drewN _, bdrewN hbi' _, HI'⟩
        · have hk2 : k = X.length := by omega
          have v1 : ¬ (k : Int) < (X.length : Int) := by omega
          have HB' : Hid (Lb (fC X O) X.length X.length S) := by have := HB.out; rw [hk2] at this; exact this
          clear hk2 HB
          have y0 := b0.cell 0
          have y1 := b0.cell 1
          go_wp2_with fail
          refine (crossings_any _ _ X O _ (hX0.below hbr) (hO0.below hbr) HV.out).mono ?_
          rintro e w6 ⟨v6, rfl, hPr, hb6⟩
          have s1 := s0.below hb6 s0.lt
          have b1 := b0.below hb6 b0.lt
          have hbr1 := hbr.trans (hb6.mono hbr.size)
          have HLK := Lib.hid (lk_code HV.out)
          have hll := crL_len X O X.length
          have hll2 : X.length * X.length ≤ 40 * 40 := Nat.mul_le_mul (by omega) (by omega)
          have HMM := Lib.hid (fun (p : Nat × Nat) (h : p ∈ crL X O X.length) => mem_crL h)
          obtain ⟨AP, cP, hvP, hPx⟩ := id hPr
          subst hvP
          generalize crL X O X.length = LL at *
          clear hPx y0 y1 s0 b0 hbr hb6
          go_wp2_with fail
          go_loopg [8, 55] LL.length (fun gq s8 s55 wi => ∃ q : Nat, q ≤ LL.length ∧ gq = LL.length - q ∧ s8 = .int .i64 (sumP X O (LL.take q)) ∧ s55 = .int .i64 (q : Int) ∧ Arr wi B 3 (labs X.length (S)) ∧ Arr wi w.heap.size 24 [.slice A X.length c, .slice A' O.length c'] ∧ Below w.heap.size w wi ∧ Pairs wi (.slice AP LL.length cP) LL)
          case atStart => exact ⟨0, Nat.zero_le _, rfl, rfl, rfl, s1, b1, hbr1, hPr⟩
          case round =>
            clear s1 b1 hbr1 hPr
            obtain ⟨q, hq, rfl, rfl, rfl, s0, b0, hbr, hPr⟩ := hrel
            have hsb := sumP_le X O (LL.take q)
            have hsl : (LL.take q).length ≤ 1600 := by rw [List.length_take]; omega
            by_cases hlt2 : q < LL.length
            · obtain ⟨bP, oP, rfl, c1, c2⟩ := hPr.at_ hlt2
              have v3 : (q : Int) < (LL.length : Int) := by omega
              obtain ⟨m1, m2, m3⟩ := HMM.out LL[q] (List.getElem_mem hlt2)
              have HS := Lib.hid (sumP_take X O LL hlt2)
              go_upto_region 20 with fail
              have hW : Arr (wr.alloc (.cells #[.int .i64 (LL[q].1 : Int), .int .i64 (LL[q].2 : Int)] 63)) wr.heap.size 63 [.int .i64 (LL[q].1 : Int), .int .i64 (LL[q].2 : Int)] ∧ Arr (wr.alloc (.cells #[.int .i64 (LL[q].1 : Int), .int .i64 (LL[q].2 : Int)] 63)) B 3 (labs X.length (S)) ∧ Arr (wr.alloc (.cells #[.int .i64 (LL[q].1 : Int), .int .i64 (LL[q].2 : Int)] 63)) w.heap.size 24 [.slice A X.length c, .slice A' O.length c'] ∧ Below w.heap.size w (wr.alloc (.cells #[.int .i64 (LL[q].1 : Int), .int .i64 (LL[q].2 : Int)] 63)) ∧ Pairs (wr.alloc (.cells #[.int .i64 (LL[q].1 : Int), .int .i64 (LL[q].2 : Int)] 63)) (.slice (some ⟨bP, oP, none⟩) LL.length cP) LL := ⟨Arr.new _ _ [_, _], s0.alloc _, b0.alloc _, hbr.alloc hbr.size _, hPr.below ((Below.refl _ _).alloc (Nat.le_refl _) _)⟩
              generalize wr.heap.size = g10 at *
              generalize wr.alloc (.cells #[.int .i64 (LL[q].1 : Int), .int .i64 (LL[q].2 : Int)] 63) = w7 at hW ⊢
              clear s0 b0 hbr hPr c1 c2 m3
              obtain ⟨g10a, s0, b0, hbr, hPr⟩ := hW
              generalize hii : LL[q].1 = i at *
              generalize hjj : LL[q].2 = j at *
              clear hii hjj
              have z0 := g10a.cell 0
              have z1 := g10a.cell 1
              have cx := cl_spec HV.out.pX m2
              have co := cl_spec HV.out.pO (j := j) (by have := HL.out; omega)
              have HCX := Lib.hid cx.2
              have HCO := Lib.hid co.2
              have lcx := cx.1
              have lco : cl O j < O.length := co.1
              have HDL := Lib.hid (show (S i = S (cl X j)) ↔ Rl (fC X O) i (cl X j) from HB'.out.eq_iff HP.out m1 cx.1)
              have HCT := Lib.hid (show crT X O i j = dl X O i (cl X j) * - (sgn (gt O i - gt X i) * sgn ((cl X j : Int) - cl O j)) from rfl)
              have HD0 := Lib.hid (fun h => dl_zero HV.out (k := cl X j) m1 h)
              have HD1 := Lib.hid (fun h => dl_one HV.out (k := cl X j) m1 h)
              clear cx co
              have miO : i < O.length := by have := HL.out; omega
              obtain ⟨bx, ox, rfl, hbx, ccx⟩ := hX0.at_ m1
              obtain ⟨bo, oo, rfl, hbo, cco⟩ := hO0.at_ miO
              rw [← gt_get m1] at ccx
              rw [← gt_get miO] at cco
              have gx := HV.out.pX.gt_rng m1
              have go := HV.out.oX m1
              have xx := (hbr.cell (p := ⟨bx, ox + i, none⟩) hbx).trans ccx
              have xo := (hbr.cell (p := ⟨bo, oo + i, none⟩) hbo).trans cco
              clear ccx cco
              generalize hcx : cl X j = p at *
              generalize hco : cl O j = r at *
              clear hcx hco
              generalize gt X i = x at *
              generalize gt O i = o at *
              have y0 := b0.cell 0
              have y1 := b0.cell 1
              have l0 := (s0.cell i).trans (labs_get m1)
              have l1 := (s0.cell p).trans (labs_get lcx)
              have HI1 := Lib.hid (fun W (hb : Below w.heap.size w W) => index_pm (.slice (some ⟨bx, ox, none⟩) X.length c) X j p W (hX0.below hb) (by omega) HV.out.pX lcx HCX.out)
              have HI2 := Lib.hid (fun W (hb : Below w.heap.size w W) => index_pm (.slice (some ⟨bo, oo, none⟩) O.length c') O j r W (hO0.below hb) (by omega) HV.out.pO lco HCO.out)
              have n1 : ¬ (i : Int) < 0 := by omega
              have n2 : ¬ (X.length : Int) ≤ (i : Int) := by omega
              go_quiet (fail)
              clear z0 z1 g10a
              have hW : Arr (w7.drewN nq) B 3 (labs X.length S) ∧ Arr (w7.drewN nq) w.heap.size 24 [.slice (some ⟨bx, ox, none⟩) X.length c, .slice (some ⟨bo, oo, none⟩) O.length c'] ∧ Below w.heap.size w (w7.drewN nq) ∧ Pairs (w7.drewN nq) (.slice (some ⟨bP, oP, none⟩) LL.length cP) LL ∧ (w7.drewN nq).cell? ⟨bx, ox + i, none⟩ = some (.int .i64 x) ∧ (w7.drewN nq).cell? ⟨bo, oo + i, none⟩ = some (.int .i64 o) := ⟨s0.drewN _, b0.drewN _, bdrewN hbr _, hPr.below (bdrewN (Below.refl _ _) _), xx, xo⟩
              clear s0 b0 hbr hPr xx xo y0 y1 l0 l1
              generalize w7.drewN nq = w8 at hW ⊢
              obtain ⟨s0, b0, hbr, hPr, xx, xo⟩ := hW
              have y0 := b0.cell 0
              have y1 := b0.cell 1
              have l0 := (s0.cell i).trans (labs_get m1)
              have l1 := (s0.cell p).trans (labs_get lcx)
              go_wp2_with fail
              go_quiet ((first | (go_at_call_of 36 (Value.slice (some ⟨bx, ox, none⟩) X.length c); exact quietL (HI1.out _ (bdrewN hbr _))) | (go_at_call_of 36 (Value.slice (some ⟨bo, oo, none⟩) O.length c'); exact quietL (HI2.out _ (bdrewN hbr _)))))
              have hW : Arr (w8.drewN nq) B 3 (labs X.length S) ∧ Arr (w8.drewN nq) w.heap.size 24 [.slice (some ⟨bx, ox, none⟩) X.length c, .slice (some ⟨bo, oo, none⟩) O.length c'] ∧ Below w.heap.size w (w8.drewN nq) ∧ Pairs (w8.drewN nq) (.slice (some ⟨bP, oP, none⟩) LL.length cP) LL ∧ (w8.drewN nq).cell? ⟨bx, ox + i, none⟩ = some (.int .i64 x) ∧ (w8.drewN nq).cell? ⟨bo, oo + i, none⟩ = some (.int .i64 o) := ⟨s0.drewN _, b0.drewN _, bdrewN hbr _, hPr.below (bdrewN (Below.refl _ _) _), xx, xo⟩
              clear s0 b0 hbr hPr xx xo y0 y1 l0 l1
              generalize w8.drewN nq = w9 at hW ⊢
              obtain ⟨s0, b0, hbr, hPr, xx, xo⟩ := hW
              have y0 := b0.cell 0
              have y1 := b0.cell 1
              have l0 := (s0.cell i).trans (labs_get m1)
              have l1 := (s0.cell p).trans (labs_get lcx)
              clear HI1 HI2
              have k1 : (0 : Int) ≤ (p : Int) := by omega
              have k2 : (0 : Int) ≤ (r : Int) := by omega
              have k3 : (i : Int) < (X.length : Int) := by omega
              have k4 : (p : Int) < (X.length : Int) := by omega
              have k5 : (i : Int) < (O.length : Int) := by omega
              by_cases hS : S i = S p
              · have t1 : (S i != S p) = false := by simpa using hS
                have HN := Lib.hid (show sumP X O (LL.take (q + 1)) = sumP X O (LL.take q) by rw [HS.out, HCT.out, HD0.out (HDL.out.1 hS)]; simp)
                clear hS HDL HCT HD0 HD1 HS
                generalize S i = si at *
                generalize S p = sp at *
                go_wp2_with fail
                go_quiet (fail)
                go_wp2_with fail
                go_roundg (LL.length - (q + 1))
                case measure => omega
                case rel => exact ⟨q + 1, by omega, rfl, by rw [HN.out], by go_num, s0.drewN _, b0.drewN _, bdrewN hbr _, hPr.below (bdrewN (Below.refl _ _) _)⟩
              · have t1 : (S i != S p) = true := by simpa using hS
                have HN := Lib.hid (show sumP X O (LL.take (q + 1)) = sumP X O (LL.take q) - sgn (o - x) * sgn ((p : Int) - r) by rw [HS.out, HCT.out, HD1.out (fun h => hS (HDL.out.2 h))]; omega)
                have hmul := sgn_mul (o - x) ((p : Int) - r)
                have hs1 := sgn_le (o - x)
                have hs2 := sgn_le ((p : Int) - r)
                clear hS HDL HCT HD0 HD1 HS
                generalize S i = si at *
                generalize S p = sp at *
                generalize sumP X O (LL.take q) = sm at *
                go_wp2_with fail
                go_quiet (fail)
                have hW : Arr (w9.drewN nq) B 3 (labs X.length S) ∧ Arr (w9.drewN nq) w.heap.size 24 [.slice (some ⟨bx, ox, none⟩) X.length c, .slice (some ⟨bo, oo, none⟩) O.length c'] ∧ Below w.heap.size w (w9.drewN nq) ∧ Pairs (w9.drewN nq) (.slice (some ⟨bP, oP, none⟩) LL.length cP) LL ∧ (w9.drewN nq).cell? ⟨bx, ox + i, none⟩ = some (.int .i64 x) ∧ (w9.drewN nq).cell? ⟨bo, oo + i, none⟩ = some (.int .i64 o) := ⟨s0.drewN _, b0.drewN _, bdrewN hbr _, hPr.below (bdrewN (Below.refl _ _) _), xx, xo⟩
                clear s0 b0 hbr hPr xx xo y0 y1 l0 l1
                generalize w9.drewN nq = w10 at hW ⊢
                obtain ⟨s0, b0, hbr, hPr, xx, xo⟩ := hW
                have y0 := b0.cell 0
                have y1 := b0.cell 1
                have l0 := (s0.cell i).trans (labs_get m1)
                have l1 := (s0.cell p).trans (labs_get lcx)
                have HG1 := Lib.hid (fun W => sign_any (o - x) W)
                have HG2 := Lib.hid (fun W => sign_any ((p : Int) - r) W)
                have e1 : IntKind.i64.wrap (o - x) = o - x := IntWalk.i64_in _ (by omega)
                have e2 : IntKind.i64.wrap ((p : Int) - (r : Int)) = (p : Int) - (r : Int) := IntWalk.i64_in _ (by omega)
                have e3 : IntKind.i64.wrap (sgn (o - x) * sgn ((p : Int) - r)) = sgn (o - x) * sgn ((p : Int) - r) := IntWalk.i64_in _ (by omega)
                have e4 : IntKind.i64.wrap (sm - sgn (o - x) * sgn ((p : Int) - r)) = sm - sgn (o - x) * sgn ((p : Int) - r) := IntWalk.i64_in _ (by omega)
                go_wp2_with fail
                go_quiet ((first | (go_at_call_of 38 (Value.int .i64 (o - x)); exact quietL (HG1.out _)) | (go_at_call 38; exact quietL (HG2.out _))))
                clear e1 e2 e3 e4
                go_wp2_with fail
                go_roundg (LL.length - (q + 1))
                case measure => omega
                case rel => exact ⟨q + 1, by omega, rfl, by rw [HN.out], by go_num, s0.drewN _, b0.drewN _, bdrewN hbr _, hPr.below (bdrewN (Below.refl _ _) _)⟩
            · have hq2 : q = LL.length := by omega
              have v3 : ¬ (q : Int) < (LL.length : Int) := by omega
              have hfin := Lib.hid (show sumP X O (LL.take q) = lkI X O by rw [hq2, List.take_length]; exact HLK.out)
              clear hq2
              go_wp2_with fail
              go_ret
              exact ⟨by rw [hfin.out]; rfl, hbr⟩
end Go.Proofs.Ytgclngoeglopcaa
