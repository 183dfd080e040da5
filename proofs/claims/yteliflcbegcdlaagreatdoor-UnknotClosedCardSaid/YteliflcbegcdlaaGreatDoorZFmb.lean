/- grid.Format at grids that are not valid. -/
import Derived.Test.YteliflcbegcdlaaGreatDoorZFmw
namespace Go.Proofs.YteliflcbegcdlaaGreatDoor
open Go.RowKit
set_option linter.unusedVariables false
theorem format_bad (vx vo : Value) (X O : List Int) (w : World) (hX : Ints w vx X) (hO : Ints w vo O) (lX : X.length ≤ 1000) (lO : O.length ≤ 1000) (hv : ¬ Vd X O) :
    Calls Tryz.prog 29 #[.agg #[vx, vo]] w fun e w' => e = .returned (.tuple #[.string ⟨#[]⟩, .int .i64 1]) ∧ Below w.heap.size w w' := by
  have hvb : validB X O = false := by
    cases h : validB X O with
    | false => rfl
    | true => exact absurd ((validB_iff X O).1 h) hv
  have HVD := Lib.hid (fun W (hb : Below w.heap.size w W) => valid_any vx vo X O W (hX.below hb) (hO.below hb) lX lO)
  rw [hvb] at HVD
  obtain ⟨A, c, rfl, -, -⟩ := hX
  obtain ⟨A', c', rfl, -, -⟩ := hO
  clear hvb hv lX lO
  go_enter Tryz.func29, Tryz.ntmps29
  go_upto_region 1 with fail
  have hal := (Below.refl w.heap.size w).alloc (Nat.le_refl _) (.cells #[.slice A X.length c, .slice A' O.length c'] 24)
  have HB := Lib.hid hal
  have HQ := Lib.hid (show Arr (w.alloc (.cells #[.slice A X.length c, .slice A' O.length c'] 24)) w.heap.size 24 [.slice A X.length c, .slice A' O.length c'] from Arr.new w _ [_, _])
  generalize w.alloc (.cells #[.slice A X.length c, .slice A' O.length c'] 24) = w3 at HB HQ ⊢
  clear hal
  have y0 := HQ.out.cell 0
  have y1 := HQ.out.cell 1
  go_wp2_with fail
  refine (HVD.out w3 HB.out).mono ?_
  rintro e w4 ⟨rfl, hb4⟩
  have HB4 := Lib.hid (HB.out.trans (hb4.mono HB.out.size))
  clear y0 y1 hb4
  go_wp2_with fail
  refine bodyPost_ret (results_tmp2 rfl _ _ _) rfl ?_
  exact ⟨rfl, HB4.out⟩
end Go.Proofs.YteliflcbegcdlaaGreatDoor
