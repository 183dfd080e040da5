/- FcolorMirrors returns true. -/
import Derived.Test.YtcjaloddgilnpaaZMri
import Derived.Test.YtcjaloddgilnpaaZLgc
namespace Go.Proofs.Ytcjaloddgilnpaa
open Go.RowKit
set_option linter.unusedVariables false

set_option maxHeartbeats 4000000 in
set_option maxRecDepth 100000 in
theorem mirrors_law (vs vm : Value) (S M : List Int) (L md : Int) (w : World) (hS : Ints w vs S) (hM : Ints w vm M) :
    Calls Try.prog 8 #[.agg #[vs, vm, .int .i64 L], .int .i64 md] w fun e w' => e = .returned (.bool true) ∧ Below w.heap.size w w' := by
  have hW : Arr (w.alloc (.cells #[vs, vm, .int .i64 L] 24)) w.heap.size 24 [vs, vm, .int .i64 L] ∧ Below w.heap.size w (w.alloc (.cells #[vs, vm, .int .i64 L] 24)) := ⟨Arr.new w _ _, (Below.refl _ _).alloc (Nat.le_refl _) _⟩
  have HAW := Lib.hid awake_any
  have HGR := Lib.hid (fun W (hb : Below w.heap.size w W) => great_any vs vm S M L W (hS.below hb) (hM.below hb))
  have HSS := Lib.hid (fun W (hb : Below w.heap.size w W) => hS.below hb)
  have HMM := Lib.hid (fun W (hb : Below w.heap.size w W) => hM.below hb)
  obtain ⟨A, c, rfl, hc, hx⟩ := hS
  obtain ⟨A2, c2, rfl, hc2, hx2⟩ := hM
  clear hx hx2
  go_enter Try.func8, Try.ntmps8
  go_upto_region 1 with fail
  generalize (w.alloc (.cells #[.slice A S.length c, .slice A2 M.length c2, .int .i64 L] 24)) = w4 at hW ⊢
  obtain ⟨q0, hb4⟩ := hW
  go_upto_region 3 with (go_at_call 10; refine (HAW.out _).mono ?_; rintro e w5 ⟨rfl, hb5⟩)
  have q5 := q0.below hb5 q0.lt
  have hb5' := hb4.trans (hb5.mono hb4.size)
  have y0 := q5.cell 0
  have y1 := q5.cell 1
  have y2 := q5.cell 2
  clear q0 hb4 hb5
  cases hgr : grB S M with
  | true =>
    rw [hgr] at HGR
    clear hgr
    go_wp2_with (go_at_call 15; refine (HGR.out _ hb5').mono ?_; rintro e w6 ⟨rfl, hb6⟩)
    go_ret
    exact ⟨rfl, hb5'.trans (hb6.mono hb5'.size)⟩
  | false =>
    rw [hgr] at HGR
    clear hgr
    go_upto_region 5 with (go_at_call 15; refine (HGR.out _ hb5').mono ?_; rintro e w6 ⟨rfl, hb6⟩)
    have q6 := q5.below hb6 q5.lt
    have hb6' := hb5'.trans (hb6.mono hb5'.size)
    clear y0 y1 y2 q5 hb5' hb6
    have y0 := q6.cell 0
    have y1 := q6.cell 1
    have y2 := q6.cell 2
    have hS6 := HSS.out w6 hb6'
    have hM6 := HMM.out w6 hb6'
    cases hv : valB S M L with
    | false =>
      have HC := Lib.hid (Count_arg _ _ S M L md w6 hS6 hM6 hv)
      clear hS6 hM6 hv
      go_wp2_with (go_at_call 16; refine HC.out.mono ?_; rintro e w7 ⟨rfl, hb7⟩)
      go_ret
      exact ⟨rfl, hb6'.trans (hb7.mono hb6'.size)⟩
    | true =>
      by_cases hr : md < 1 ∨ 1000 < md
      · have HC := Lib.hid (Count_range _ _ S M L md w6 hS6 hM6 hv hr)
        clear hS6 hM6 hv hr
        go_wp2_with (go_at_call 16; refine HC.out.mono ?_; rintro e w7 ⟨rfl, hb7⟩)
        go_ret
        exact ⟨rfl, hb6'.trans (hb7.mono hb6'.size)⟩
      · obtain ⟨mo, rfl⟩ : ∃ mo : Nat, md = (mo : Int) := ⟨md.toNat, by omega⟩
        have hm1 : 1 ≤ mo := by omega
        have hm2 : mo ≤ 1000 := by omega
        clear hr
        by_cases hf : 14 < S.length ∨ 4 < L
        · have HC := Lib.hid (Count_full _ _ S M L mo w6 hS6 hM6 hv hm1 hm2 hf)
          clear hS6 hM6 hv hf
          go_wp2_with (go_at_call 16; refine HC.out.mono ?_; rintro e w7 ⟨rfl, hb7⟩)
          go_ret
          exact ⟨rfl, hb6'.trans (hb7.mono hb6'.size)⟩
        · have HC := Lib.hid (Count_yes _ _ S M L mo w6 hS6 hM6 hv hm1 hm2 (by omega) (by omega))
          have k := valB_ok hv
          have hn14 : S.length ≤ 14 := by omega
          have hL4 : L ≤ 4 := by omega
          have hNI := Lib.hid (fun (S' M' : List Int) (t : Twin S M S' M' L) g1 g2 W (h1 : Ints W (.slice (some ⟨g1, 0, none⟩) S.length S.length) S') (h2 : Ints W (.slice (some ⟨g2, 0, none⟩) M.length M.length) M') => by
            have h := Count_yes (.slice (some ⟨g1, 0, none⟩) S.length S.length) (.slice (some ⟨g2, 0, none⟩) M.length M.length) S' M' L mo W h1 h2 t.v hm1 hm2 (by rw [t.n]; exact hn14) hL4
            rw [t.cnt k hn14 hm1] at h
            exact h)
          have HX := Lib.hid (fun W (hb : Below w.heap.size w W) => Mirror_yes _ _ S M L W (HSS.out W hb) (HMM.out W hb) hv)
          have HY := Lib.hid (fun W (hb : Below w.heap.size w W) => Reflect_yes _ _ S M L W (HSS.out W hb) (HMM.out W hb) hv)
          have HZ := Lib.hid (fun W (hb : Below w.heap.size w W) => Reverse_yes _ _ S M L W (HSS.out W hb) (HMM.out W hb) hv)
          have NX := Lib.hid (hNI.out _ _ (mirror_twin hv))
          have NY := Lib.hid (hNI.out _ _ (reflect_twin hv))
          have NZ := Lib.hid (hNI.out _ _ (reverse_twin hv))
          have LX := Lib.hid (show (S.map fun s => -s).length = S.length by simp)
          have LM : ∀ T I, (relL (4 * S.length) T I M).length = M.length := fun T I => by rw [relL_length, k.m]
          have LM1 := Lib.hid (LM (mirT S) (mirI S))
          have LM2 := Lib.hid (LM refT refT)
          have LM3 := Lib.hid (LM revT revT)
          clear hS6 hM6 hv hf k LM hNI
          generalize cntP (invL S M L) mo (colN M L) = CP at *
          generalize (S.map fun s => -s) = S1 at *
          generalize relL (4 * S.length) (mirT S) (mirI S) M = M1 at *
          generalize relL (4 * S.length) refT refT M = M2 at *
          generalize relL (4 * S.length) revT revT M = M3 at *
          cases CP with
          | none =>
            have HC0 := Lib.hid (HC.out.mono (fun e w' h => (show e = .returned (.tuple #[.int .i64 0, .int .i64 9]) ∧ Below w6.heap.size w6 w' from h)))
            clear HC
            go_wp2_with (go_at_call 16; refine HC0.out.mono ?_; rintro e w7 ⟨rfl, hb7⟩)
            go_ret
            exact ⟨rfl, hb6'.trans (hb7.mono hb6'.size)⟩
          | some nv =>
            have HC0 := Lib.hid (HC.out.mono (fun e w' h => (show e = .returned (.tuple #[.int .i64 (nv : Nat), .int .i64 0]) ∧ Below w6.heap.size w6 w' from h)))
            clear HC
            go_upto_region 8 with (go_at_call 16; refine HC0.out.mono ?_; rintro e w7 ⟨rfl, hb7⟩)
            have q7 := q6.below hb7 q6.lt
            have hb7' := hb6'.trans (hb7.mono hb6'.size)
            clear y0 y1 y2 q6 hb6' hb7
            have y0 := q7.cell 0
            have y1 := q7.cell 1
            have y2 := q7.cell 2
            go_wp2_with fail
            refine (HX.out w7 hb7').mono ?_
            rintro e w8 ⟨gs0, gm0, rfl, lgs0, lgm0, AS0, AM0, hb8⟩
            have q8 := q7.below hb8 q7.lt
            have hb8' := hb7'.trans (hb8.mono hb7'.size)
            clear y0 y1 y2 lgs0 lgm0
            have K0 := Lib.hid (fun W (hb : Below w8.heap.size w8 W) => NX.out gs0 gm0 W (Ints.of_len (AS0.below hb AS0.lt) LX.out) (Ints.of_len (AM0.below hb AM0.lt) LM1.out))
            clear AS0 AM0 NX
            go_upto_region 9 with fail
            have hW0 : Arr (w8.alloc (.cells #[.slice (some ⟨gs0, 0, none⟩) S.length S.length, .slice (some ⟨gm0, 0, none⟩) M.length M.length, .int .i64 L] 24)) w8.heap.size 24 [.slice (some ⟨gs0, 0, none⟩) S.length S.length, .slice (some ⟨gm0, 0, none⟩) M.length M.length, .int .i64 L] ∧ Below w8.heap.size w8 (w8.alloc (.cells #[.slice (some ⟨gs0, 0, none⟩) S.length S.length, .slice (some ⟨gm0, 0, none⟩) M.length M.length, .int .i64 L] 24)) := ⟨Arr.new _ _ [_, _, _], (Below.refl _ _).alloc (Nat.le_refl _) _⟩
            generalize (w8.alloc (.cells #[.slice (some ⟨gs0, 0, none⟩) S.length S.length, .slice (some ⟨gm0, 0, none⟩) M.length M.length, .int .i64 L] 24)) = w9 at hW0 ⊢
            obtain ⟨r9, hb9⟩ := hW0
            have q9 := q8.below hb9 q8.lt
            have hb9' := hb8'.trans (hb9.mono hb8'.size)
            clear q8 q7 hb7' hb8'
            have y0 := q9.cell 0
            have y1 := q9.cell 1
            have y2 := q9.cell 2
            go_wp2_with fail
            refine (HY.out w9 hb9').mono ?_
            rintro e w10 ⟨gs1, gm1, rfl, lgs1, lgm1, AS1, AM1, hb10⟩
            have q10 := q9.below hb10 q9.lt
            have hb10' := hb9'.trans (hb10.mono hb9'.size)
            clear y0 y1 y2 lgs1 lgm1
            have K1 := Lib.hid (fun W (hb : Below w10.heap.size w10 W) => NY.out gs1 gm1 W (Ints.of_len (AS1.below hb AS1.lt) LX.out) (Ints.of_len (AM1.below hb AM1.lt) LM2.out))
            clear AS1 AM1 NY
            go_upto_region 10 with fail
            have hW1 : Arr (w10.alloc (.cells #[.slice (some ⟨gs1, 0, none⟩) S.length S.length, .slice (some ⟨gm1, 0, none⟩) M.length M.length, .int .i64 L] 24)) w10.heap.size 24 [.slice (some ⟨gs1, 0, none⟩) S.length S.length, .slice (some ⟨gm1, 0, none⟩) M.length M.length, .int .i64 L] ∧ Below w10.heap.size w10 (w10.alloc (.cells #[.slice (some ⟨gs1, 0, none⟩) S.length S.length, .slice (some ⟨gm1, 0, none⟩) M.length M.length, .int .i64 L] 24)) := ⟨Arr.new _ _ [_, _, _], (Below.refl _ _).alloc (Nat.le_refl _) _⟩
            generalize (w10.alloc (.cells #[.slice (some ⟨gs1, 0, none⟩) S.length S.length, .slice (some ⟨gm1, 0, none⟩) M.length M.length, .int .i64 L] 24)) = w11 at hW1 ⊢
            obtain ⟨r11, hb11⟩ := hW1
            have q11 := q10.below hb11 q10.lt
            have hb11' := hb10'.trans (hb11.mono hb10'.size)
            clear q10 q9 hb9' hb10'
            have y0 := q11.cell 0
            have y1 := q11.cell 1
            have y2 := q11.cell 2
            go_wp2_with fail
            refine (HZ.out w11 hb11').mono ?_
            rintro e w12 ⟨gs2, gm2, rfl, lgs2, lgm2, AS2, AM2, hb12⟩
            have q12 := q11.below hb12 q11.lt
            have hb12' := hb11'.trans (hb12.mono hb11'.size)
            clear y0 y1 y2 lgs2 lgm2
            have K2 := Lib.hid (fun W (hb : Below w12.heap.size w12 W) => NZ.out gs2 gm2 W (Ints.of_len (AS2.below hb AS2.lt) rfl) (Ints.of_len (AM2.below hb AM2.lt) LM3.out))
            clear AS2 AM2 NZ
            go_upto_region 11 with fail
            have hW2 : Arr (w12.alloc (.cells #[.slice (some ⟨gs2, 0, none⟩) S.length S.length, .slice (some ⟨gm2, 0, none⟩) M.length M.length, .int .i64 L] 24)) w12.heap.size 24 [.slice (some ⟨gs2, 0, none⟩) S.length S.length, .slice (some ⟨gm2, 0, none⟩) M.length M.length, .int .i64 L] ∧ Below w12.heap.size w12 (w12.alloc (.cells #[.slice (some ⟨gs2, 0, none⟩) S.length S.length, .slice (some ⟨gm2, 0, none⟩) M.length M.length, .int .i64 L] 24)) := ⟨Arr.new _ _ [_, _, _], (Below.refl _ _).alloc (Nat.le_refl _) _⟩
            generalize (w12.alloc (.cells #[.slice (some ⟨gs2, 0, none⟩) S.length S.length, .slice (some ⟨gm2, 0, none⟩) M.length M.length, .int .i64 L] 24)) = w13 at hW2 ⊢
            obtain ⟨r13, hb13⟩ := hW2
            have q13 := q12.below hb13 q12.lt
            have hb13' := hb12'.trans (hb13.mono hb12'.size)
            clear q12 q11 hb11' hb12'
            have t12 : Below w11.heap.size w11 w13 := hb12.trans (hb13.mono hb12.size)
            have t10 : Below w10.heap.size w10 w13 := hb11.trans (t12.mono hb11.size)
            have t9 : Below w9.heap.size w9 w13 := hb10.trans (t10.mono hb10.size)
            have t8 : Below w8.heap.size w8 w13 := hb9.trans (t9.mono hb9.size)
            have J0 := Lib.hid (fun W (hb : Below w13.heap.size w13 W) => K0.out W (t8.trans (hb.mono t8.size)))
            have J1 := Lib.hid (fun W (hb : Below w13.heap.size w13 W) => K1.out W (t10.trans (hb.mono t10.size)))
            have J2 := Lib.hid (fun W (hb : Below w13.heap.size w13 W) => K2.out W (hb13.trans (hb.mono hb13.size)))
            have x0 := r9.below t9 r9.lt
            have x1 := r11.below t12 r11.lt
            clear K0 K1 K2 t8 t9 t10 t12 r9 r11 hb8 hb9 hb10 hb11 hb12 hb13 q13
            have F0 := Lib.hid (fun W (hb : Below w13.heap.size w13 W) => (J0.out W hb).mono (fun e w' h => (show e = .returned (.tuple #[.int .i64 (nv : Nat), .int .i64 0]) ∧ Below W.heap.size W w' from h)))
            have F1 := Lib.hid (fun W (hb : Below w13.heap.size w13 W) => (J1.out W hb).mono (fun e w' h => (show e = .returned (.tuple #[.int .i64 (nv : Nat), .int .i64 0]) ∧ Below W.heap.size W w' from h)))
            have F2 := Lib.hid (fun W (hb : Below w13.heap.size w13 W) => (J2.out W hb).mono (fun e w' h => (show e = .returned (.tuple #[.int .i64 (nv : Nat), .int .i64 0]) ∧ Below W.heap.size W w' from h)))
            clear J0 J1 J2
            have y0 := x0.cell 0
            have y1 := x0.cell 1
            have y2 := x0.cell 2
            go_upto_region 12 with (go_at_call 16; refine (F0.out _ (Below.refl _ _)).mono ?_; rintro e w14 ⟨rfl, hb14⟩)
            clear y0 y1 y2 x0
            have y0 := (x1.below hb14 x1.lt).cell 0
            have y1 := (x1.below hb14 x1.lt).cell 1
            have y2 := (x1.below hb14 x1.lt).cell 2
            go_upto_region 13 with (go_at_call 16; refine (F1.out _ hb14).mono ?_; rintro e w15 ⟨rfl, hb15⟩)
            have hb15' := hb14.trans (hb15.mono hb14.size)
            clear y0 y1 y2
            have y0 := (r13.below hb15' r13.lt).cell 0
            have y1 := (r13.below hb15' r13.lt).cell 1
            have y2 := (r13.below hb15' r13.lt).cell 2
            clear F0 F1
            have zn : ((nv : Int) == (nv : Int)) = true := by simp
            go_wp2_with (go_at_call 16; refine (F2.out _ hb15').mono ?_; rintro e w16 ⟨rfl, hb16⟩)
            go_ret
            exact ⟨rfl, hb13'.trans ((hb15'.trans (hb16.mono hb15'.size)).mono hb13'.size)⟩
theorem mirrors_row (vs vm : Value) (S M : List Int) (L md : Int) (w : World) (hS : Ints w vs S) (hM : Ints w vm M) {X : Prop} (_hx : X) :
    Calls Try.prog 8 #[.agg #[vs, vm, .int .i64 L], .int .i64 md] w fun e w' => e = .returned (.bool true) ∧ Below w.heap.size w w' := mirrors_law vs vm S M L md w hS hM
end Go.Proofs.Ytcjaloddgilnpaa
