/- FcolorMatrix returns true. -/
import Derived.Test.YtcjaloddgilnpaaZAwk
import Derived.Test.YtcjaloddgilnpaaZLis
namespace Go.Proofs.Ytcjaloddgilnpaa
open Go.RowKit
set_option linter.unusedVariables false

theorem mat_bd {S M : List Int} {L : Int} (k : Ok S M L) : ∀ r ∈ matM (arcL M) (colN M L) S.length, r.length ≤ 1000 := by
  intro r hr
  unfold matM at hr
  obtain ⟨c, _, rfl⟩ := List.mem_map.1 hr
  rw [rowM_length]
  have := colN_le k; omega
set_option maxHeartbeats 2000000 in
theorem matrix_law (vs vm : Value) (S M : List Int) (L : Int) (w : World) (hS : Ints w vs S) (hM : Ints w vm M) :
    Calls Try.prog 3 #[.agg #[vs, vm, .int .i64 L]] w fun e w' => e = .returned (.bool true) ∧ Below w.heap.size w w' := by
  have hW : Arr (w.alloc (.cells #[vs, vm, .int .i64 L] 24)) w.heap.size 24 [vs, vm, .int .i64 L] ∧ Below w.heap.size w (w.alloc (.cells #[vs, vm, .int .i64 L] 24)) := ⟨Arr.new w _ _, (Below.refl _ _).alloc (Nat.le_refl _) _⟩
  have HAW := Lib.hid awake_any
  have HVR := Lib.hid (fun W (hb : Below w.heap.size w W) => valid_ref vs vm S M L W (hS.below hb) (hM.below hb))
  have HMN := Lib.hid (fun (hv : valB S M L = false) W (hb : Below w.heap.size w W) => Matrix_no vs vm S M L W (hS.below hb) (hM.below hb) hv)
  have HMY := Lib.hid (fun (hv : valB S M L = true) W (hb : Below w.heap.size w W) => Matrix_yes vs vm S M L W (hS.below hb) (hM.below hb) hv)
  have HRM := Lib.hid (fun (hv : valB S M L = true) W (hb : Below w.heap.size w W) => rMatrix vs vm S M L W (hS.below hb) (hM.below hb) (Lib.hid (valB_ok hv)))
  have HLI := Lib.hid (fun (hv : valB S M L = true) va vb W (h1 : Mat W va (matM (arcL M) (colN M L) S.length)) (h2 : Mat W vb (matM (arcL M) (colN M L) S.length)) => lists_eq va vb (matM (arcL M) (colN M L) S.length) W h1 h2 (by rw [matM_length]; have := (valB_ok hv).n; omega) (mat_bd (valB_ok hv)))
  obtain ⟨A, c, rfl, hc, hx⟩ := hS
  obtain ⟨A2, c2, rfl, hc2, hx2⟩ := hM
  clear hx hx2
  go_enter Try.func3, Try.ntmps3
  go_upto_region 1 with fail
  generalize (w.alloc (.cells #[.slice A S.length c, .slice A2 M.length c2, .int .i64 L] 24)) = w4 at hW ⊢
  obtain ⟨q0, hb4⟩ := hW
  go_upto_region 3 with (go_at_call 10; refine (HAW.out _).mono ?_; rintro e w5 ⟨rfl, hb5⟩)
  have q5 := q0.below hb5 q0.lt
  have hb5' := hb4.trans (hb5.mono hb4.size)
  have y0 := q5.cell 0
  have y1 := q5.cell 1
  have y2 := q5.cell 2
  clear q0 hb4 hb5
  by_cases h14 : 14 < S.length
  · have z1 : (14 : Int) < (S.length : Int) := by omega
    go_wp2_with fail
    go_ret
    exact ⟨rfl, hb5'⟩
  · have z1 : ¬ ((14 : Int) < (S.length : Int)) := by omega
    by_cases h10 : 10 < L ∧ L ≤ 64
    · obtain ⟨z2, z3⟩ := h10
      go_wp2_with fail
      go_ret
      exact ⟨rfl, hb5'⟩
    · cases hv : valB S M L with
      | false =>
        have HM1 := Lib.hid (HMN.out hv w5 hb5')
        rw [hv] at HVR
        clear hv HMN HMY HRM HLI
        by_cases h10' : 10 < L
        · have z2 : ¬ (L ≤ 64) := by omega
          clear h10
          go_upto_region 6 with (go_at_call 11; refine HM1.out.mono ?_; rintro e w6 ⟨rfl, hb6⟩)
          have q6 := q5.below hb6 q5.lt
          have hb6' := hb5'.trans (hb6.mono hb5'.size)
          clear y0 y1 y2
          have y0 := q6.cell 0
          have y1 := q6.cell 1
          have y2 := q6.cell 2
          go_wp2_with (go_at_call 12; refine (HVR.out _ hb6').mono ?_; rintro e w7 ⟨rfl, hb7⟩)
          go_ret
          exact ⟨rfl, hb6'.trans (hb7.mono hb6'.size)⟩
        · clear h10
          go_upto_region 6 with (go_at_call 11; refine HM1.out.mono ?_; rintro e w6 ⟨rfl, hb6⟩)
          have q6 := q5.below hb6 q5.lt
          have hb6' := hb5'.trans (hb6.mono hb5'.size)
          clear y0 y1 y2
          have y0 := q6.cell 0
          have y1 := q6.cell 1
          have y2 := q6.cell 2
          go_wp2_with (go_at_call 12; refine (HVR.out _ hb6').mono ?_; rintro e w7 ⟨rfl, hb7⟩)
          go_ret
          exact ⟨rfl, hb6'.trans (hb7.mono hb6'.size)⟩
      | true =>
        have HM1 := Lib.hid (HMY.out hv w5 hb5')
        have HR1 := Lib.hid (HRM.out hv)
        have HL1 := Lib.hid (HLI.out hv)
        have h64 := (valB_ok hv).l1
        have z2 : ¬ (10 < L) := by omega
        rw [hv] at HVR
        clear hv HMN HMY HRM HLI h10
        go_upto_region 6 with (go_at_call 11; refine HM1.out.mono ?_; rintro e w6 ⟨v6, rfl, hm6, hb6⟩)
        have q6 := q5.below hb6 q5.lt
        have hb6' := hb5'.trans (hb6.mono hb5'.size)
        clear y0 y1 y2
        have y0 := q6.cell 0
        have y1 := q6.cell 1
        have y2 := q6.cell 2
        have HM6 := Lib.hid hm6
        clear hm6
        go_upto_region 8 with (go_at_call 12; refine (HVR.out _ hb6').mono ?_; rintro e w7 ⟨rfl, hb7⟩)
        have q7 := q6.below hb7 q6.lt
        have hb7' := hb6'.trans (hb7.mono hb6'.size)
        have HM7 := Lib.hid (HM6.out.below hb7)
        clear y0 y1 y2
        have y0 := q7.cell 0
        have y1 := q7.cell 1
        have y2 := q7.cell 2
        go_wp2_with fail
        refine (HR1.out w7 hb7').mono ?_
        rintro e w8 ⟨v8, rfl, hm8, hb8⟩
        have HL8 := Lib.hid (HL1.out v6 v8 w8 (HM7.out.below hb8) hm8)
        clear hm8
        go_wp2_with fail
        refine HL8.out.mono ?_
        rintro e w9 ⟨rfl, q, rfl⟩
        go_wp2_with fail
        go_ret
        exact ⟨rfl, bdrewN (hb7'.trans (hb8.mono hb7'.size)) _⟩
end Go.Proofs.Ytcjaloddgilnpaa
