/- GridmoveTransposes: for every grid and every move the law returns true, and the arguments read afterwards as before. No condition. -/
import Derived.Test.YtgclngoeglopcaaRowC
import Derived.Test.YtgclngoeglopcaaTra
namespace Go.Proofs.Ytgclngoeglopcaa
open Go.ChangeShapes Go.WideShapes Go.ChangeAt Go.RowKit Go.Joins

namespace transposes
set_option maxRecDepth 100000 in
theorem lifted (os : Os) (started : os.Started) (H : Type) (enc : TypeId × Value → H) :
    ReturnsInHanded {} Try.checked os 5 .any (Rows.gridmoveTransposesSpec.pre6 enc Try.prog Try.f5 Rows.gridmoveTransposesRow.domain false) (Rows.gridmoveTransposesSpec.post enc Try.prog Try.f5 false true false false) := by
  refine returnsInHanded_of_change (C := Try.checked) Try.own started (by kernel_rfl) Try.func5
    (ChangeSpec.witness6 (enc := enc) (C := Try.checked) false ⟨#[], #[.agg #[.slice none 0 0, .slice none 0 0], .agg #[.int .i64 0, .bool false, .int .i64 0, .int .i64 0]], []⟩ 8 (by kernel_rfl) (by kernel_rfl) (by kernel_rfl) (by kernel_rfl)) ?_
  intro W base args ds gs before hval0 hW hcnd _
  have hval : ∀ (j : Nat) t v, Try.f5.params[j]? = some t → args[j]? = some v → Value.okWide Try.prog W .any base t v := hval0
  have hW' := hW
  obtain ⟨p, q, hA0, hV, rfl, hfz, hnd⟩ := hW
  have hA : DataW.TrodAll enc Try.prog W 0 (fun _ => true) true Try.f5.params.toList args.toList ds p := hA0
  rw [Try.params5] at hA hval
  obtain ⟨v0, vs0, d0, ds0, p0, q0, hargs, rfl, rfl, h0, r0⟩ := trodAll_cons hA
  obtain ⟨v1, vs1, d1, ds1, p1, q1, rfl, rfl, rfl, h1, r1⟩ := trodAll_cons r0
  obtain ⟨rfl, rfl, rfl⟩ := trodAll_nil r1
  obtain rfl : args = #[v0, v1] := by cases args; simp_all
  obtain ⟨rfl, rfl⟩ := trodVars_none hV
  have k0 := h0
  have k1 := h1
  have lt0 : ∀ x ∈ p0, x.block < W.heap.size := by obtain ⟨m, hm⟩ := k0; exact DataW.trod_lt m _ _ _ hm
  have lt1 : ∀ x ∈ p1, x.block < W.heap.size := by obtain ⟨m, hm⟩ := k1; exact DataW.trod_lt m _ _ _ hm
  obtain ⟨c0, c1, y0, y1, m0, rfl, hd0, hp0, hy0, hy1⟩ := open_agg2 Try.underlying24 (by kernel_rfl) (by kernel_rfl) (hval 0 24 v0 rfl rfl) h0
  obtain ⟨X, hX, _⟩ := ints_of_trod Try.underlying22 Try.underlying3 (by kernel_rfl) hy0
  obtain ⟨O, hO, _⟩ := ints_of_trod Try.underlying22 Try.underlying3 (by kernel_rfl) hy1
  obtain ⟨e0, e1, e2, e3, u0, u1, u2, u3, m1, rfl, hd1, hp1, hu0, hu1, hu2, hu3⟩ := open_agg4 Try.underlying26 (by kernel_rfl) (by kernel_rfl) (hval 1 26 v1 rfl rfl) h1
  obtain ⟨k, g0, _, _⟩ := DataW.trod_int Try.underlying3 hu0
  obtain ⟨rw', g1, _⟩ := DataW.trod_bool Try.underlying4 hu1
  obtain ⟨a, g2, _, _⟩ := DataW.trod_int Try.underlying3 hu2
  obtain ⟨v, g3, _, _⟩ := DataW.trod_int Try.underlying3 hu3
  simp only [List.cons.injEq, and_true] at g0 g1 g2 g3
  subst g0 g1 g2 g3
  clear hA0 hval0
  refine (transposes_any c0 c1 X O k rw' a v W hX hO).mono fun e W' ⟨he, bel⟩ => ?_
  subst he
  exact ⟨_, rfl, _, _, _, [], _, [], hW', trodAll_mk1 (shut_bool Try.underlying4 _), (trodAll_cons_mk (Below.trod Try.laidOut (by kernel_rfl) (of_decide_eq_true (by kernel_rfl)) k0 bel lt0) (trodAll_cons_mk (Below.trod Try.laidOut (by kernel_rfl) (of_decide_eq_true (by kernel_rfl)) k1 bel lt1) trodAll_mk0)), rfl, bel.frame _, fun h => by cases h⟩
end transposes

theorem transposes_holds : Rows.GridmoveTransposesSaid :=
  OpenClaim.holds_of_wide 5 Try.f5 rfl rfl rfl rfl rfl rfl rfl ⟨rfl, rfl, rfl, rfl, rfl⟩ rfl rfl rfl rfl rfl (by kernel_rfl) Try.func5 (by kernel_rfl)
    (of_decide_eq_true (by kernel_rfl)) (by unfold Func.isWrapper; rw [if_neg (of_decide_eq_false (by kernel_rfl))]; exact ⟨rfl, rfl⟩)
    (fun os started H enc _ => transposes.lifted os started H enc)
end Go.Proofs.Ytgclngoeglopcaa
