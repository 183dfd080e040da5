/- GridmoveLinking returns true. -/
import Derived.Test.YtgclngoeglopcaaAwake
import Derived.Test.YtgclngoeglopcaaLnk
import Derived.Test.YtgclngoeglopcaaCmp
import Derived.Test.YtgclngoeglopcaaMoves
import Derived.Deep.RegionHeld3
namespace Go.Proofs.Ytgclngoeglopcaa
open Go.RowKit
set_option linter.unusedVariables false

theorem IntsE.alloc {E : Nat → Prop} {w : World} {v : Value} {xs : List Int} (h : IntsE E w v xs) (o : Obj) : IntsE E (w.alloc o) v xs := h.below ((Below.refl _ _).alloc (Nat.le_refl _) o)
set_option maxRecDepth 100000 in
set_option maxHeartbeats 8000000 in
theorem lawLink_any (vx vo vl : Value) (X O : List Int) (ms : List Mv) (w : World) (hX : Ints w vx X) (hO : Ints w vo O) (hM : Moves w vl ms) :
    Calls Try.prog 9 #[.agg #[vx, vo], vl] w fun e w' => e = .returned (.bool true) ∧ Below w.heap.size w w' := by
  have hX0 := hX
  have hO0 := hO
  have hM0 := hM
  obtain ⟨A, c, rfl, hc, hh⟩ := hX
  obtain ⟨A', c', rfl, hc', hh'⟩ := hO
  obtain ⟨AL, cL, rfl, hhl⟩ := hM
  clear hh hh' hhl
  go_enter Try.func9, Try.ntmps9
  go_wp2_with fail
  have hW : Arr (w.alloc (.cells #[.slice A X.length c, .slice A' O.length c'] 24)) w.heap.size 24 [.slice A X.length c, .slice A' O.length c'] ∧ Below w.heap.size w (w.alloc (.cells #[.slice A X.length c, .slice A' O.length c'] 24)) := ⟨Arr.new _ _ [_, _], (Below.refl _ _).alloc (Nat.le_refl _) _⟩
  generalize w.alloc (.cells #[.slice A X.length c, .slice A' O.length c'] 24) = w4 at hW ⊢
  obtain ⟨q0, hb4⟩ := hW
  refine (awake_any _).mono ?_
  rintro e w5 ⟨rfl, hb5⟩
  have hbw5 := hb4.trans (hb5.mono hb4.size)
  have p0 := q0.below hb5 q0.lt
  clear q0 hb5 hb4
  have y0 := p0.cell 0
  have y1 := p0.cell 1
  go_wp2_with fail
  refine (great_any _ _ _ _ _ _ _).mono ?_
  rintro e w6 ⟨rfl, hb6⟩
  have hbw6 := hbw5.trans (hb6.mono hbw5.size)
  have r0 := p0.below hb6 p0.lt
  clear p0 hb6 hbw5 y0 y1
  have y0 := r0.cell 0
  have y1 := r0.cell 1
  cases hg : greatB X.length O.length with
  | true =>
    clear hg
    go_wp2_with fail
    go_ret
    exact ⟨rfl, hbw6⟩
  | false =>
  have hg' : X.length ≤ 50 ∧ O.length ≤ 50 := by simp only [greatB, decide_eq_false_iff_not] at hg; omega
  clear hg
  obtain ⟨gl, gl'⟩ := hg'
  by_cases t20 : 20 < ms.length
  · have u20 : decide (20 < (ms.length : Int)) = true := by simp; omega
    go_wp2_with fail
    go_ret
    exact ⟨rfl, hbw6⟩
  have u20 : decide (20 < (ms.length : Int)) = false := by simp; omega
  have t20' : ms.length ≤ 20 := by omega
  clear t20
  go_wp2_with fail
  refine (valid_any _ _ X O _ (hX0.below hbw6) (hO0.below hbw6) (by omega) (by omega)).mono ?_
  rintro e w7 ⟨rfl, hb7⟩
  have hbw7 := hbw6.trans (hb7.mono hbw6.size)
  have b0 := r0.below hb7 r0.lt
  clear r0 hb7 hbw6 y0 y1 u20
  have y0 := b0.cell 0
  have y1 := b0.cell 1
  cases hvB : validB X O with
  | false =>
    clear hvB
    go_wp2_with fail
    go_ret
    exact ⟨rfl, hbw7⟩
  | true =>
  have HV := Lib.hid ((validB_iff X O).1 hvB)
  clear hvB
  have lb0 := b0.lt
  have hW : ∃ g5, g5 = w7.heap.size ∧ Arr (w7.alloc (.cells #[.slice A X.length c, .slice A' O.length c'] 24)) g5 24 [.slice A X.length c, .slice A' O.length c'] ∧ Arr (w7.alloc (.cells #[.slice A X.length c, .slice A' O.length c'] 24)) w.heap.size 24 [.slice A X.length c, .slice A' O.length c'] ∧ Below w.heap.size w (w7.alloc (.cells #[.slice A X.length c, .slice A' O.length c'] 24)) ∧ w.heap.size < g5 ∧ IntsE (fun b => b = g5) (w7.alloc (.cells #[.slice A X.length c, .slice A' O.length c'] 24)) (.slice A X.length c) X ∧ IntsE (fun b => b = g5) (w7.alloc (.cells #[.slice A X.length c, .slice A' O.length c'] 24)) (.slice A' O.length c') O := by
    refine ⟨_, rfl, Arr.new _ _ [_, _], b0.alloc _, hbw7.alloc hbw7.size _, lb0, ?_, ?_⟩
    · intro W hWk
      refine (hX0.below hbw7).keep (fun b' o' hlt => World.cell?_of_block (hWk b' (by show ¬ b' = w7.heap.size; omega) (by simp; omega)) |>.trans ?_)
      exact (((Below.refl w7.heap.size w7).alloc (Nat.le_refl _) _).cell (p := ⟨b', o', none⟩) hlt)
    · intro W hWk
      refine (hO0.below hbw7).keep (fun b' o' hlt => World.cell?_of_block (hWk b' (by show ¬ b' = w7.heap.size; omega) (by simp; omega)) |>.trans ?_)
      exact (((Below.refl w7.heap.size w7).alloc (Nat.le_refl _) _).cell (p := ⟨b', o', none⟩) hlt)
  go_wp2_with fail
  obtain ⟨g5, hg5, hW⟩ := hW
  rw [← hg5]
  clear hg5 y0 y1 b0 hbw7
  generalize w7.alloc (.cells #[.slice A X.length c, .slice A' O.length c'] 24) = w8 at hW ⊢
  obtain ⟨g5a, b0, hbw, lg5, i1, i2⟩ := hW
  go_loopw [27] (fun s27 wr => ∃ (k : Nat) (Xc Oc : List Int) (A0 A1 : Option Addr) (n0 c0 n1 c1 : Nat), k ≤ ms.length ∧ s27 = .int .i64 (k : Int) ∧ Arr wr g5 24 [.slice A0 n0 c0, .slice A1 n1 c1] ∧ IntsE (fun b => b = g5) wr (.slice A0 n0 c0) Xc ∧ IntsE (fun b => b = g5) wr (.slice A1 n1 c1) Oc ∧ Arr wr w.heap.size 24 [.slice A X.length c, .slice A' O.length c'] ∧ Moves wr (.slice AL ms.length cL) ms ∧ Below w.heap.size w wr ∧ Hid (Vd Xc Oc ∧ lkI Xc Oc = lkI X O ∧ comp Xc Oc = comp X O)) (fun s27 _ => ms.length - (intOf s27).toNat)
  case atStart => exact ⟨0, X, O, _, _, _, _, _, _, Nat.zero_le _, rfl, g5a, i1, i2, b0, hM0.below (hbw), hbw, HV.out, rfl, rfl⟩
  case round =>
    clear g5a b0 hbw i1 i2
    obtain ⟨k, Xc, Oc, A0, A1, n0, c0, n1, c1, hk, rfl, g5a, i1, i2, b0, hMr, hbr, HI⟩ := hrel
    by_cases hlt : k < ms.length
    · obtain ⟨bL, oL, rfl, hbl, k0, k1, k2, k3⟩ := hMr.at_ hlt
      have u1 : (k : Int) < (ms.length : Int) := by omega
      have lXc : Xc.length ≤ 40 := HI.out.1.most
      have lOc : Oc.length ≤ 40 := by have := HI.out.1.len; omega
      have lg := g5a.lt
      have y0 := (g5a.alloc (.cells #[.int .i64 ms[k].k, .bool ms[k].rows, .int .i64 ms[k].a, .int .i64 ms[k].v] 26)).cell 0
      have y1 := (g5a.alloc (.cells #[.int .i64 ms[k].k, .bool ms[k].rows, .int .i64 ms[k].a, .int .i64 ms[k].v] 26)).cell 1
      have hW : Arr (wr.alloc (.cells #[.int .i64 ms[k].k, .bool ms[k].rows, .int .i64 ms[k].a, .int .i64 ms[k].v] 26)) g5 24 [.slice A0 n0 c0, .slice A1 n1 c1] ∧ IntsE (fun b => b = g5) (wr.alloc (.cells #[.int .i64 ms[k].k, .bool ms[k].rows, .int .i64 ms[k].a, .int .i64 ms[k].v] 26)) (.slice A0 n0 c0) Xc ∧ IntsE (fun b => b = g5) (wr.alloc (.cells #[.int .i64 ms[k].k, .bool ms[k].rows, .int .i64 ms[k].a, .int .i64 ms[k].v] 26)) (.slice A1 n1 c1) Oc ∧ Arr (wr.alloc (.cells #[.int .i64 ms[k].k, .bool ms[k].rows, .int .i64 ms[k].a, .int .i64 ms[k].v] 26)) w.heap.size 24 [.slice A X.length c, .slice A' O.length c'] ∧ Moves (wr.alloc (.cells #[.int .i64 ms[k].k, .bool ms[k].rows, .int .i64 ms[k].a, .int .i64 ms[k].v] 26)) (.slice (some ⟨bL, oL, none⟩) ms.length cL) ms ∧ Below w.heap.size w (wr.alloc (.cells #[.int .i64 ms[k].k, .bool ms[k].rows, .int .i64 ms[k].a, .int .i64 ms[k].v] 26)) := ⟨g5a.alloc _, i1.alloc _, i2.alloc _, b0.alloc _, hMr.below ((Below.refl _ _).alloc (Nat.le_refl _) _), hbr.alloc hbr.size _⟩
      go_wp2_with fail
      clear y0 y1 k0 k1 k2 k3
      generalize wr.heap.size = g7 at *
      generalize wr.alloc (.cells #[.int .i64 ms[k].k, .bool ms[k].rows, .int .i64 ms[k].a, .int .i64 ms[k].v] 26) = w1 at hW ⊢
      clear g5a i1 i2 b0 hMr hbr
      obtain ⟨g5a, i1, i2, b0, hMr, hbr⟩ := hW
      generalize ms[k] = m at *
      refine (apply_rf _ _ Xc Oc m.k m.rows m.a m.v _ i1.ints i2.ints (by omega) (by omega)).mono ?_
      rintro e w2 ⟨hb2, A2, n2, c2, A3, n3, c3, rfl, j1, j2⟩
      generalize hR : applyM Xc Oc m.k m.rows m.a m.v = R at *
      obtain ⟨code, X1, O1⟩ := R
      simp only at j1 j2
      have HR := Lib.hid hR
      clear hR
      have lg5' : g5 < w1.heap.size := g5a.lt
      have hW : ∃ g8, g8 = w2.heap.size ∧ Arr (w2.alloc (.cells #[.slice A2 n2 c2, .slice A3 n3 c3] 24)) g8 24 [.slice A2 n2 c2, .slice A3 n3 c3] ∧ Arr (w2.alloc (.cells #[.slice A2 n2 c2, .slice A3 n3 c3] 24)) g5 24 [.slice A0 n0 c0, .slice A1 n1 c1] ∧ IntsE (fun b => b = g5) (w2.alloc (.cells #[.slice A2 n2 c2, .slice A3 n3 c3] 24)) (.slice A0 n0 c0) Xc ∧ IntsE (fun b => b = g5) (w2.alloc (.cells #[.slice A2 n2 c2, .slice A3 n3 c3] 24)) (.slice A1 n1 c1) Oc ∧ Arr (w2.alloc (.cells #[.slice A2 n2 c2, .slice A3 n3 c3] 24)) w.heap.size 24 [.slice A X.length c, .slice A' O.length c'] ∧ Moves (w2.alloc (.cells #[.slice A2 n2 c2, .slice A3 n3 c3] 24)) (.slice (some ⟨bL, oL, none⟩) ms.length cL) ms ∧ Below w.heap.size w (w2.alloc (.cells #[.slice A2 n2 c2, .slice A3 n3 c3] 24)) ∧ IntsE (fun b => b = g5) (w2.alloc (.cells #[.slice A2 n2 c2, .slice A3 n3 c3] 24)) (.slice A2 n2 c2) X1 ∧ IntsE (fun b => b = g5) (w2.alloc (.cells #[.slice A2 n2 c2, .slice A3 n3 c3] 24)) (.slice A3 n3 c3) O1 :=
        ⟨_, rfl, Arr.new _ _ [_, _], (g5a.below hb2 g5a.lt).alloc _, (i1.below hb2).alloc _, (i2.below hb2).alloc _, (b0.below hb2 b0.lt).alloc _, (hMr.below hb2).below ((Below.refl _ _).alloc (Nat.le_refl _) _), (hbr.trans (hb2.mono hbr.size)).alloc (hbr.trans (hb2.mono hbr.size)).size _, (IntsE.of_fresh j1 (fun b hb => by have : b = g5 := hb; omega)).alloc _, (IntsE.of_fresh j2 (fun b hb => by have : b = g5 := hb; omega)).alloc _⟩
      clear g5a i1 i2 b0 hMr hbr j1 j2 hb2
      by_cases h0 : code = 0
      rotate_left
      · have u0 : (code != 0) = true := by simpa using h0
        clear h0
        go_wp2_with fail
        obtain ⟨g8, hg8, g8a, g5a, i1, i2, b0, hMr, hbr, j1, j2⟩ := hW
        go_roundw
        case rel => exact ⟨k + 1, Xc, Oc, A0, A1, n0, c0, n1, c1, by omega, by go_num, g5a, i1, i2, b0, hMr, hbr, HI⟩
        case measure => simp [intOf]; omega
      subst h0
      go_upto_region 11 with fail
      obtain ⟨g8, hg8, hW⟩ := hW
      rw [← hg8]
      clear hg8
      generalize w2.alloc (.cells #[.slice A2 n2 c2, .slice A3 n3 c3] 24) = w9 at hW ⊢
      obtain ⟨g8a, g5a, i1, i2, b0, hMr, hbr, j1, j2⟩ := hW
      have HV1 := Lib.hid (applyM_res_vd HR.out)
      have HLK := Lib.hid ((lk_apply HR.out).trans HI.out.2.1)
      have HCC := Lib.hid ((comp_apply HR.out).trans HI.out.2.2)
      have HI' := Lib.hid (And.intro HV1.out (And.intro HLK.out HCC.out))
      have lX1 : X1.length ≤ 40 := HV1.out.most
      have lO1 : O1.length ≤ 40 := by have := HV1.out.len; omega
      clear HI HR
      have y0 := b0.cell 0
      have y1 := b0.cell 1
      have y2 := g8a.cell 0
      have y3 := g8a.cell 1
      have KS := Lib.hid (fun W (hb : Below w9.heap.size w9 W) => (⟨(hb.cell b0.lt).trans y0, (hb.cell b0.lt).trans y1, (hb.cell g8a.lt).trans y2, (hb.cell g8a.lt).trans y3, hb⟩ : W.cell? ⟨w.heap.size, 0, none⟩ = some (.slice A X.length c) ∧ W.cell? ⟨w.heap.size, 1, none⟩ = some (.slice A' O.length c') ∧ W.cell? ⟨g8, 0, none⟩ = some (.slice A2 n2 c2) ∧ W.cell? ⟨g8, 1, none⟩ = some (.slice A3 n3 c3) ∧ Below w9.heap.size w9 W))
      have HJ := Lib.hid (fun W W' (hS : W.cell? ⟨w.heap.size, 0, none⟩ = some (.slice A X.length c) ∧ W.cell? ⟨w.heap.size, 1, none⟩ = some (.slice A' O.length c') ∧ W.cell? ⟨g8, 0, none⟩ = some (.slice A2 n2 c2) ∧ W.cell? ⟨g8, 1, none⟩ = some (.slice A3 n3 c3) ∧ Below w9.heap.size w9 W) (hb : Below W.heap.size W W') => Below.trans hS.2.2.2.2 (hb.mono hS.2.2.2.2.size))
      have HVA := Lib.hid (fun W (hS : W.cell? ⟨w.heap.size, 0, none⟩ = some (.slice A X.length c) ∧ W.cell? ⟨w.heap.size, 1, none⟩ = some (.slice A' O.length c') ∧ W.cell? ⟨g8, 0, none⟩ = some (.slice A2 n2 c2) ∧ W.cell? ⟨g8, 1, none⟩ = some (.slice A3 n3 c3) ∧ Below w9.heap.size w9 W) => valid_any (.slice A2 n2 c2) (.slice A3 n3 c3) X1 O1 W (j1.ints.below hS.2.2.2.2) (j2.ints.below hS.2.2.2.2) (by omega) (by omega))
      rw [(validB_iff X1 O1).2 HV1.out] at HVA
      have HL1 := Lib.hid (fun W (hS : W.cell? ⟨w.heap.size, 0, none⟩ = some (.slice A X.length c) ∧ W.cell? ⟨w.heap.size, 1, none⟩ = some (.slice A' O.length c') ∧ W.cell? ⟨g8, 0, none⟩ = some (.slice A2 n2 c2) ∧ W.cell? ⟨g8, 1, none⟩ = some (.slice A3 n3 c3) ∧ Below w9.heap.size w9 W) => linking_any (.slice A2 n2 c2) (.slice A3 n3 c3) X1 O1 W (j1.ints.below hS.2.2.2.2) (j2.ints.below hS.2.2.2.2) HV1.out)
      rw [HLK.out] at HL1
      have HL2 := Lib.hid (fun W (hS : W.cell? ⟨w.heap.size, 0, none⟩ = some (.slice A X.length c) ∧ W.cell? ⟨w.heap.size, 1, none⟩ = some (.slice A' O.length c') ∧ W.cell? ⟨g8, 0, none⟩ = some (.slice A2 n2 c2) ∧ W.cell? ⟨g8, 1, none⟩ = some (.slice A3 n3 c3) ∧ Below w9.heap.size w9 W) => linking_any (.slice A X.length c) (.slice A' O.length c') X O W (hX0.below (hbr.trans (Below.mono hS.2.2.2.2 hbr.size))) (hO0.below (hbr.trans (Below.mono hS.2.2.2.2 hbr.size))) HV.out)
      have HC1 := Lib.hid (fun W (hS : W.cell? ⟨w.heap.size, 0, none⟩ = some (.slice A X.length c) ∧ W.cell? ⟨w.heap.size, 1, none⟩ = some (.slice A' O.length c') ∧ W.cell? ⟨g8, 0, none⟩ = some (.slice A2 n2 c2) ∧ W.cell? ⟨g8, 1, none⟩ = some (.slice A3 n3 c3) ∧ Below w9.heap.size w9 W) => components_any (.slice A2 n2 c2) (.slice A3 n3 c3) X1 O1 W (j1.ints.below hS.2.2.2.2) (j2.ints.below hS.2.2.2.2) HV1.out)
      rw [HCC.out] at HC1
      have HC2 := Lib.hid (fun W (hS : W.cell? ⟨w.heap.size, 0, none⟩ = some (.slice A X.length c) ∧ W.cell? ⟨w.heap.size, 1, none⟩ = some (.slice A' O.length c') ∧ W.cell? ⟨g8, 0, none⟩ = some (.slice A2 n2 c2) ∧ W.cell? ⟨g8, 1, none⟩ = some (.slice A3 n3 c3) ∧ Below w9.heap.size w9 W) => components_any (.slice A X.length c) (.slice A' O.length c') X O W (hX0.below (hbr.trans (Below.mono hS.2.2.2.2 hbr.size))) (hO0.below (hbr.trans (Below.mono hS.2.2.2.2 hbr.size))) HV.out)
      obtain ⟨lk, hlk⟩ : ∃ lk, lk = lkI X O := ⟨_, rfl⟩
      obtain ⟨cc, hcc⟩ : ∃ cc, cc = comp X O := ⟨_, rfl⟩
      rw [← hlk] at HL1 HL2
      rw [← hcc] at HC1 HC2
      clear hlk hcc HLK HCC
      have zl : (lk != lk) = false := by simp
      have zc : ((cc : Int) != (cc : Int)) = false := by simp
      go_region_held3 (fun w' => w'.cell? ⟨w.heap.size, 0, none⟩ = some (.slice A X.length c) ∧ w'.cell? ⟨w.heap.size, 1, none⟩ = some (.slice A' O.length c') ∧ w'.cell? ⟨g8, 0, none⟩ = some (.slice A2 n2 c2) ∧ w'.cell? ⟨g8, 1, none⟩ = some (.slice A3 n3 c3) ∧ Below w9.heap.size w9 w') ((refine KS.out _ ?_; repeat (first | exact Below.refl _ _ | exact hB1 | exact hB2 | exact hB3 | exact hB4 | exact hB5 | refine Below.drew ?_)))
        (first
          | (go_at_call 17; refine (HVA.out _ (by assumption)).mono ?_; rintro e w11 ⟨rfl, hb11⟩; have hB1 := HJ.out _ _ (by assumption) hb11; clear hb11)
          | (go_at_call_of 23 (Value.agg #[.slice A2 n2 c2, .slice A3 n3 c3]); refine (HL1.out _ (by assumption)).mono ?_; rintro e w12 ⟨rfl, hb12⟩; have hB2 := HJ.out _ _ (by assumption) hb12; clear hb12)
          | (go_at_call_of 23 (Value.agg #[.slice A X.length c, .slice A' O.length c']); refine (HL2.out _ (by assumption)).mono ?_; rintro e w13 ⟨rfl, hb13⟩; have hB3 := HJ.out _ _ (by assumption) hb13; clear hb13)
          | (go_at_call_of 19 (Value.agg #[.slice A2 n2 c2, .slice A3 n3 c3]); refine (HC1.out _ (by assumption)).mono ?_; rintro e w14 ⟨rfl, hb14⟩; have hB4 := HJ.out _ _ (by assumption) hb14; clear hb14)
          | (go_at_call_of 19 (Value.agg #[.slice A X.length c, .slice A' O.length c']); refine (HC2.out _ (by assumption)).mono ?_; rintro e w15 ⟨rfl, hb15⟩; have hB5 := HJ.out _ _ (by assumption) hb15; clear hb15))
      have g5b := g5a.below hB5 g5a.lt
      have g8b := g8a.below hB5 g8a.lt
      have b0b := b0.below hB5 b0.lt
      have j1b := j1.below hB5
      have j2b := j2.below hB5
      have hMb := hMr.below hB5
      have hbb := hbr.trans (hB5.mono hbr.size)
      clear KS HJ HVA HL1 HL2 HC1 HC2 y0 y1 y2 y3 g5a g8a b0 j1 j2 hMr hbr i1 i2
      have y2 := g8b.cell 0
      have y3 := g8b.cell 1
      have q0 := g5b.cell 0
      have q1 := g5b.cell 1
      have q2 := g5b.frozen 0
      have q3 := g5b.frozen 1
      go_wp2_with fail
      go_roundw
      case rel => exact ⟨k + 1, X1, O1, A2, A3, n2, c2, n3, c3, by omega, by go_num, (g5b.set 0 _).set 1 _, j1b.set2 rfl _ _ _ _, j2b.set2 rfl _ _ _ _, b0b.far2 (r := g5) (by omega), hM0.below (bset2 (r := g5) hbb (by omega)), bset2 (r := g5) hbb (by omega), HI'⟩
      case measure => simp [intOf]; omega
    · have u1 : ¬ (k : Int) < (ms.length : Int) := by omega
      go_wp2_with fail
      go_ret
      exact ⟨rfl, hbr⟩
end Go.Proofs.Ytgclngoeglopcaa
