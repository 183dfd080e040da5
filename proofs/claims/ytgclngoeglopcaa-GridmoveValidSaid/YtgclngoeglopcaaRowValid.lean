/- GridmoveValid: for every input the law returns true, and the arguments read afterwards as before. No condition. -/
import Derived.Test.YtgclngoeglopcaaRowC
import Derived.Test.YtgclngoeglopcaaVal
namespace Go.Proofs.Ytgclngoeglopcaa
open Go.ChangeShapes Go.WideShapes Go.ChangeAt Go.RowKit Go.Joins
set_option linter.unusedVariables false

namespace valid
set_option maxRecDepth 100000 in
theorem lifted (os : Os) (started : os.Started) (H : Type) (enc : TypeId × Value → H) :
    ReturnsInHanded {} Try.checked os 6 .any (Rows.gridmoveValidSpec.pre6 enc Try.prog Try.f6 Rows.gridmoveValidRow.domain false) (Rows.gridmoveValidSpec.post enc Try.prog Try.f6 false true false false) := by
  refine returnsInHanded_of_change (C := Try.checked) Try.own started (by kernel_rfl) Try.func6
    (ChangeSpec.witness6 (enc := enc) (C := Try.checked) false ⟨#[], #[.agg #[.slice none 0 0, .slice none 0 0], .agg #[.int .i64 0, .bool false, .int .i64 0, .int .i64 0]], []⟩ 8 (by kernel_rfl) (by kernel_rfl) (by kernel_rfl) (by kernel_rfl)) ?_
  intro W base args ds gs before hval0 hW hcnd _
  have hval : ∀ (j : Nat) t v, Try.f6.params[j]? = some t → args[j]? = some v → Value.okWide Try.prog W .any base t v := hval0
  have hW' := hW
  obtain ⟨p, q, hA0, hV, rfl, hfz, hnd⟩ := hW
  have hA : DataW.TrodAll enc Try.prog W 0 (fun _ => true) true Try.f6.params.toList args.toList ds p := hA0
  rw [Try.params6] at hA hval
  obtain ⟨v0, vs0, d0, ds0, p0, q0, hargs, rfl, rfl, h0, r0⟩ := trodAll_cons hA
  obtain ⟨v1, vs1, d1, ds1, p1, q1, rfl, rfl, rfl, h1, r1⟩ := trodAll_cons r0
  obtain ⟨rfl, rfl, rfl⟩ := trodAll_nil r1
  obtain rfl : args = #[v0, v1] := by cases args; simp_all
  obtain ⟨rfl, rfl⟩ := trodVars_none hV
  have k0 := h0
  have lt0 : ∀ x ∈ p0, x.block < W.heap.size := by obtain ⟨m, hm⟩ := k0; exact DataW.trod_lt m _ _ _ hm
  have k1 := h1
  have lt1 : ∀ x ∈ p1, x.block < W.heap.size := by obtain ⟨m, hm⟩ := k1; exact DataW.trod_lt m _ _ _ hm
  obtain ⟨c00, c01, y00, y01, m0, rfl, _, _, hy00, hy01⟩ := open_agg2 Try.underlying24 (by kernel_rfl) (by kernel_rfl) (hval 0 24 v0 rfl rfl) h0
  obtain ⟨X0, hX0, _⟩ := ints_of_trod Try.underlying22 Try.underlying3 (by kernel_rfl) hy00
  obtain ⟨O0, hO0, _⟩ := ints_of_trod Try.underlying22 Try.underlying3 (by kernel_rfl) hy01
  obtain ⟨e10, e11, e12, e13, u10, u11, u12, u13, m1, rfl, _, _, hu10, hu11, hu12, hu13⟩ := open_agg4 Try.underlying26 (by kernel_rfl) (by kernel_rfl) (hval 1 26 v1 rfl rfl) h1
  obtain ⟨k1k, g10, _, _⟩ := DataW.trod_int Try.underlying3 hu10
  obtain ⟨k1r, g11, _⟩ := DataW.trod_bool Try.underlying4 hu11
  obtain ⟨k1a, g12, _, _⟩ := DataW.trod_int Try.underlying3 hu12
  obtain ⟨k1v, g13, _, _⟩ := DataW.trod_int Try.underlying3 hu13
  simp only [List.cons.injEq, and_true] at g10 g11 g12 g13
  subst g10 g11 g12 g13
  clear hA0 hval0
  refine (valid43_any c00 c01 X0 O0 k1k k1r k1a k1v W hX0 hO0).mono fun e W' ⟨he, bel⟩ => ?_
  subst he
  exact ⟨_, rfl, _, _, _, [], _, [], hW', trodAll_mk1 (shut_bool Try.underlying4 _), (trodAll_cons_mk (Below.trod Try.laidOut (by kernel_rfl) (of_decide_eq_true (by kernel_rfl)) k0 bel lt0) (trodAll_cons_mk (Below.trod Try.laidOut (by kernel_rfl) (of_decide_eq_true (by kernel_rfl)) k1 bel lt1) (trodAll_mk0))), rfl, bel.frame _, fun h => by cases h⟩
end valid

theorem valid_holds : Rows.GridmoveValidSaid :=
  OpenClaim.holds_of_wide 6 Try.f6 rfl rfl rfl rfl rfl rfl rfl ⟨rfl, rfl, rfl, rfl, rfl⟩ rfl rfl rfl rfl rfl (by kernel_rfl) Try.func6 (by kernel_rfl)
    (of_decide_eq_true (by kernel_rfl)) (by unfold Func.isWrapper; rw [if_neg (of_decide_eq_false (by kernel_rfl))]; exact ⟨rfl, rfl⟩)
    (fun os started H enc _ => valid.lifted os started H enc)
end Go.Proofs.Ytgclngoeglopcaa
