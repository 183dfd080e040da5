/- law23.awake: the example of the chapter. -/
import Derived.Test.YtlbihllmpbhhcaaGreatDoorFde
import Derived.Test.YtlbihllmpbhhcaaGreatDoorTxt
namespace Go.Proofs.YtlbihllmpbhhcaaGreatDoor
open Go.RowKit
set_option linter.unusedVariables false

theorem awk_p {r : List (Int × Int)} (hc : Can r) (hx : ∀ x, cf r x = if errD [1, 2, -1, -2] [1, 1] 0 = 0 then dF [1, 1] 0 [1, 2, -1, -2] x else 0) : r = [(0, 1), (1, -1)] := by
  refine Can.ext hc ⟨by unfold Srt; simp, by simp⟩ (fun e => ?_)
  rw [hx, if_pos (by decide)]
  rfl
theorem awk_q {r : List (Int × Int)} (hc : Can r) (hx : ∀ x, cf r x = if errD [1, 2, -1, -2] [1, 1] 1 = 0 then dF [1, 1] 1 [1, 2, -1, -2] x else 0) : r = [(0, -1), (1, 1)] := by
  refine Can.ext hc ⟨by unfold Srt; simp, by simp⟩ (fun e => ?_)
  rw [hx, if_pos (by decide)]
  exact cf_perm (List.Perm.swap ..) e
theorem awk_tp : (⟨(txt [116] (some [(0, 1), (1, -1)])).toArray⟩ : ByteArray) = ⟨#[49, 45, 116]⟩ := by decide +kernel
theorem awk_tq : (⟨(txt [116] (some [(0, -1), (1, 1)])).toArray⟩ : ByteArray) = ⟨#[45, 49, 43, 116]⟩ := by decide +kernel
/-- Derivative's result where there is no error -/
structure DerOk (ws comp : List Int) (gen : Int) (w : World) (v : Value) (r : List (Int × Int)) (w' : World) : Prop where
  bel : Below w.heap.size w w'
  val : PolyV w' v (some r)
  can : Can r
  lim : Lim r
  eq : ∀ x, cf r x = dF comp gen ws x
theorem Derivative_ok (vw vc : Value) (ws comp : List Int) (gen : Int) (w : World) (hw : Ints w vw ws) (hc : Ints w vc comp) (hl : ws.length ≤ 1000) (hcl : comp.length ≤ 1000000) (hf : fitB ws comp gen = true) :
    Calls Tryz.prog 8 #[vw, .int .i64 gen, vc] w fun e w' => ∃ b A n c r, e = .returned (.tuple #[.agg #[.bool b, .slice A n c], .int .i64 0]) ∧ DerOk ws comp gen w (.agg #[.bool b, .slice A n c]) r w' := by
  refine (Derivative_any vw vc ws comp gen w hw hc (by omega) hcl).mono ?_
  rintro e w' ⟨hb, v, r, rfl, hv, hcn, hli, hx⟩
  have he : errD ws comp gen = 0 := by rw [errD_ok hf, if_neg (by omega)]
  obtain ⟨b, A, n, c, rfl, _, _⟩ := hv.parts
  refine ⟨b, A, n, c, r, by rw [he], hb, hv, hcn, hli, fun x => ?_⟩
  rw [hx, if_pos he]
theorem PolyV.boxed {w : World} {v : Value} {p : Pol} (h : PolyV w v p) (o : Obj) : PolyV (w.alloc o) v p := h.below ((Below.refl _ _).alloc (Nat.le_refl _) _)
theorem DerOk.okp {ws comp : List Int} {gen : Int} {w w' : World} {v : Value} {r : List (Int × Int)} (h : DerOk ws comp gen w v r w') : okP (some r) := ⟨h.can, h.lim⟩
set_option maxHeartbeats 1000000 in
set_option maxRecDepth 100000 in
theorem awakeF_any (w : World) (ht : Tb w) : Calls Tryz.prog 5 #[] w fun e w' => e = .returned (.bool true) ∧ Below w.heap.size w w' := by
  have HT := Lib.hid ht
  clear ht
  go_enter Tryz.func5, Tryz.ntmps5
  go_upto_region 2 with fail
  have hW : ∀ W, W = w.alloc (.cells #[.int .i64 1, .int .i64 2, .int .i64 (-1), .int .i64 (-2)] 3) → Ints W (.slice (some ⟨w.heap.size, 0, none⟩) 4 4) [1, 2, -1, -2] ∧ Below w.heap.size w W ∧ W.heap.size = w.heap.size + 1 := by
    rintro W rfl
    exact ⟨Ints.of_arr (xs := [1, 2, -1, -2]) (Arr.new w 3 [.int .i64 1, .int .i64 2, .int .i64 (-1), .int .i64 (-2)]), (Below.refl _ _).alloc (Nat.le_refl _) _, by simp⟩
  generalize (w.alloc (.cells #[.int .i64 1, .int .i64 2, .int .i64 (-1), .int .i64 (-2)] 3)) = w1 at hW ⊢
  obtain ⟨hi1, hb1, hs1⟩ := hW w1 rfl
  have HI := Lib.hid hi1
  have HB1 := Lib.hid hb1
  have HS1 := Lib.hid hs1
  clear hW hi1 hb1 hs1
  have HC := Lib.hid (fun W => Ints.of_arr (xs := [1, 1]) (Arr.new W 3 [.int .i64 1, .int .i64 1]))
  have hF0 : fitB [1, 2, -1, -2] [1, 1] 0 = true := by decide
  have hF1 : fitB [1, 2, -1, -2] [1, 1] 1 = true := by decide
  have HD1 := Lib.hid (Derivative_ok (.slice (some ⟨w.heap.size, 0, none⟩) 4 4) (.slice (some ⟨w1.heap.size, 0, none⟩) 2 2) [1, 2, -1, -2] [1, 1] 0 (w1.alloc (.cells #[.int .i64 1, .int .i64 1] 3)) (HI.out.alloc _) (HC.out w1) (by decide) (by decide) hF0)
  have HD2 := Lib.hid (fun W (hb : Below w1.heap.size w1 W) => Derivative_ok (.slice (some ⟨w.heap.size, 0, none⟩) 4 4) (.slice (some ⟨W.heap.size, 0, none⟩) 2 2) [1, 2, -1, -2] [1, 1] 1 (W.alloc (.cells #[.int .i64 1, .int .i64 1] 3)) ((HI.out.below hb).alloc _) (HC.out W) (by decide) (by decide) hF1)
  clear hF0 hF1
  go_wp2_with fail
  refine HD1.out.mono ?_
  rintro e w2 ⟨b1, A1, n1, c1, r1, rfl, hd1⟩
  go_upto_region 3 with fail
  have HV1 := Lib.hid hd1
  have hb2 : Below w1.heap.size w1 w2 := ((Below.refl _ _).alloc (Nat.le_refl _) _).trans (hd1.bel.mono (by simp))
  have hW : ∀ W, W = w2.alloc (.cells #[.bool b1, .slice A1 n1 c1] 28) → Arr W w2.heap.size 28 [.bool b1, .slice A1 n1 c1] ∧ Below w1.heap.size w1 W ∧ Below w2.heap.size w2 W ∧ W.heap.size = w2.heap.size + 1 := by
    rintro W rfl
    exact ⟨Arr.new _ _ [_, _], hb2.alloc hb2.size _, (Below.refl _ _).alloc (Nat.le_refl _) _, by simp⟩
  generalize (w2.alloc (.cells #[.bool b1, .slice A1 n1 c1] 28)) = w3 at hW ⊢
  obtain ⟨q3, hb3, hb23, hs3⟩ := hW w3 rfl
  have HQ3 := Lib.hid q3
  have HB3 := Lib.hid hb3
  have HB23 := Lib.hid hb23
  have HD3 := Lib.hid (HD2.out w3 hb3)
  have HS3 := Lib.hid hs3
  clear hW q3 hb3 hb23 hd1 hb2 HD2 HD1 hs3
  go_wp2_with fail
  refine HD3.out.mono ?_
  rintro e w4 ⟨b2, A2, n2, c2, r2, rfl, hd2⟩
  go_upto_region 4 with fail
  have HV2 := Lib.hid hd2
  have hb4 : Below w3.heap.size w3 w4 := ((Below.refl _ _).alloc (Nat.le_refl _) _).trans (hd2.bel.mono (by simp))
  have HS4 := Lib.hid hb4.size
  have hW : ∀ W, W = w4.alloc (.cells #[.bool b2, .slice A2 n2 c2] 28) → Arr W w4.heap.size 28 [.bool b2, .slice A2 n2 c2] ∧ Arr W w2.heap.size 28 [.bool b1, .slice A1 n1 c1] ∧ PolyV W (.agg #[.bool b1, .slice A1 n1 c1]) (some r1) ∧ PolyV W (.agg #[.bool b2, .slice A2 n2 c2]) (some r2) ∧ Below w.heap.size w W := by
    rintro W rfl
    exact ⟨Arr.new _ _ [_, _], (HQ3.out.below hb4 (by have := HS3.out; omega)).alloc _, ((HV1.out.val.below HB23.out).below hb4).boxed _, HV2.out.val.boxed _, (HB1.out.trans ((HB3.out.trans (hb4.mono HB3.out.size)).mono HB1.out.size)).alloc (by have := HB1.out.size; have := HB3.out.size; have := HS4.out; omega) _⟩
  generalize (w4.alloc (.cells #[.bool b2, .slice A2 n2 c2] 28)) = w5 at hW ⊢
  obtain ⟨q5, q3, hp1, hp2, hb5⟩ := hW w5 rfl
  have HB5 := Lib.hid hb5
  have hr1 := awk_p HV1.out.can (fun x => by rw [HV1.out.eq x, if_pos (by decide)])
  have hr2 := awk_q HV2.out.can (fun x => by rw [HV2.out.eq x, if_pos (by decide)])
  have HT1 := Lib.hid (Text_any (.agg #[.bool b1, .slice A1 n1 c1]) (some r1) [116] w5 hp1 HV1.out.okp (by decide) (HT.out.below hb5))
  have HT2 := Lib.hid (fun W (hb : Below w5.heap.size w5 W) => Text_any (.agg #[.bool b2, .slice A2 n2 c2]) (some r2) [116] W (hp2.below hb) HV2.out.okp (by decide) (HT.out.below (HB5.out.trans (hb.mono HB5.out.size))))
  rw [hr1, awk_tp] at HT1
  rw [hr2, awk_tq] at HT2
  have HQ3' := Lib.hid q3
  have HQ5 := Lib.hid q5
  have y0 := q3.cell 0
  have y1 := q3.cell 1
  have x0 := q5.cell 0
  have x1 := q5.cell 1
  clear hW hb5 hp1 hp2 hr1 hr2 hb4 hd2 q3 q5 HD3
  go_wp2_with fail
  refine HT1.out.mono ?_
  rintro e w6 ⟨rfl, hb6⟩
  have q6 := HQ5.out.below hb6 HQ5.out.lt
  have x0 := q6.cell 0
  have x1 := q6.cell 1
  have HT3 := Lib.hid (HT2.out w6 hb6)
  have HB6 := Lib.hid (HB5.out.trans (hb6.mono HB5.out.size))
  clear hb6 q6
  go_wp2_with fail
  refine HT3.out.mono ?_
  rintro e w7 ⟨rfl, hb7⟩
  have HB7 := Lib.hid (HB6.out.trans (hb7.mono HB6.out.size))
  clear hb7
  go_wp2_with fail
  go_ret
  exact ⟨rfl, HB7.out⟩
end Go.Proofs.YtlbihllmpbhhcaaGreatDoor
