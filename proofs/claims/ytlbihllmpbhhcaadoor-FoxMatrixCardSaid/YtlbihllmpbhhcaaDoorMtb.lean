/- fox.Matrix of a group that is not valid. -/
import Derived.Test.YtlbihllmpbhhcaaDoorGvl
namespace Go.Proofs.YtlbihllmpbhhcaaDoor
open Go.RowKit
set_option linter.unusedVariables false

set_option maxHeartbeats 2000000 in
set_option maxRecDepth 100000 in
theorem fmatrix_bad (gens : Int) (vc vs : Value) (comp : List Int) (wss : List (List Int)) (w : World) (hc : Ints w vc comp) (hs : Wds w vs wss) (hv : vldG gens comp wss = false) (lc : comp.length ≤ 4611686018427387904) (ls : wss.length ≤ 1000000) (lw : ∀ ws ∈ wss, ws.length ≤ 1000) :
    Calls Tryd.prog 17 #[.agg #[.int .i64 gens, vc, vs]] w fun e w' => e = .returned (.tuple #[.slice none 0 0, .int .i64 1]) ∧ Below w.heap.size w w' := by
  have HGV := Lib.hid (fun W (hb : Below w.heap.size w W) => gvalid_any gens vc vs comp wss W (hc.below hb) (hs.below hb) lc (by omega) (fun ws hw => by have := lw ws hw; omega))
  rw [hv] at HGV
  obtain ⟨A1, c1, rfl, -, -⟩ := hc
  obtain ⟨A2, c2, rfl, -⟩ := hs
  clear hv lw
  have hW : ∀ W, W = (w.alloc (.cells #[.int .i64 gens, .slice A1 comp.length c1, .slice A2 wss.length c2] 41)) → Arr W w.heap.size 41 [.int .i64 gens, .slice A1 comp.length c1, .slice A2 wss.length c2] ∧ Below w.heap.size w W := by
    intro W hW
    subst hW
    exact ⟨Arr.new _ _ [_, _, _], (Below.refl _ _).alloc (Nat.le_refl _) _⟩
  go_enter Tryd.func17, Tryd.ntmps17
  go_upto_region 1 with fail
  generalize (w.alloc (.cells #[.int .i64 gens, .slice A1 comp.length c1, .slice A2 wss.length c2] 41)) = w3 at hW ⊢
  obtain ⟨qg, hb3⟩ := hW w3 rfl
  have y0 := qg.cell 0
  have y1 := qg.cell 1
  have y2 := qg.cell 2
  have HGV3 := Lib.hid (HGV.out w3 hb3)
  have HB3 := Lib.hid hb3
  clear hW hb3 qg HGV
  go_wp2_with (go_at_call 18; refine HGV3.out.mono ?_; rintro e w4 ⟨rfl, hb4⟩)
  go_ret2
  exact ⟨rfl, HB3.out.trans (hb4.mono HB3.out.size)⟩
end Go.Proofs.YtlbihllmpbhhcaaDoor
