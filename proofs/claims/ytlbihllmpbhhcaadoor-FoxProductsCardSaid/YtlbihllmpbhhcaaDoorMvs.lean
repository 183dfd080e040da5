/- laurent.Shift. -/
import Derived.Test.YtlbihllmpbhhcaaDoorMvd
namespace Go.Proofs.YtlbihllmpbhhcaaDoor
open Go.RowKit
set_option linter.unusedVariables false

set_option maxHeartbeats 1000000 in
theorem clo_shift (bb : Nat) (n : Int) (w : World) (hn : -2097152 ≤ n ∧ n ≤ 2097152) (hb : bb < w.heap.size) (hc : w.cell? ⟨bb, 0, none⟩ = some (.int .i64 n)) : CloM 50 (.pointer (some ⟨bb, 0, none⟩)) (fun e => e + n) w where
  eg := enters_of Tryd.func50 (by kernel_rfl) rfl
  ca := fun e W hbw h1 h2 => by
    have y0 := (hbw.cell (p := ⟨bb, 0, none⟩) hb).trans hc
    clear hc hbw
    go_enter Tryd.func50, Tryd.ntmps50
    go_wp2_with fail
    go_ret
    exact ⟨rfl, rfl⟩
  mono := fun a b h => by omega
  bd := fun e h1 h2 => by omega
set_option maxHeartbeats 1000000 in
set_option maxRecDepth 100000 in
theorem Shift_any (vp : Value) (p : Pol) (n : Int) (w : World) (hp : PolyV w vp p) (okp : okP p) (hn : -2097152 ≤ n ∧ n ≤ 2097152) :
    Calls Tryd.prog 24 #[vp, .int .i64 n] w fun e w' => ∃ v, e = .returned v ∧ PolyV w' v (movP (fun e => e + n) p) ∧ Below w.heap.size w w' := by
  have HPV := Lib.hid (fun W (hb : Below w.heap.size w W) => hp.below hb)
  obtain ⟨b1, A, n1, c, rfl, j1, j2⟩ := hp.parts
  clear hp j1 j2
  have hW : ∀ W, W = (((w.alloc (.cells #[.bool b1, .slice A n1 c] 27)).alloc (.cells #[.int .i64 n] 3)).alloc (.cells #[.bool false, .slice none 0 0] 27)) → Arr W w.heap.size 27 [.bool b1, .slice A n1 c] ∧ Arr W (w.heap.size + 1) 3 [.int .i64 n] ∧ Arr W (w.heap.size + 2) 27 [.bool false, .slice none 0 0] ∧ Below w.heap.size w W ∧ W.heap.size = w.heap.size + 3 := by
    intro W hW
    subst hW
    exact ⟨((Arr.new _ _ [_, _]).alloc _).alloc _, (Arr.newAt (w.alloc _) _ [_] _ (by simp)).alloc _, Arr.newAt ((w.alloc _).alloc _) _ [_, _] _ (by simp), (((Below.refl _ _).alloc (Nat.le_refl _) _).alloc (by simp) _).alloc (by simp <;> omega) _, by simp⟩
  go_enter Tryd.func24, Tryd.ntmps24
  go_upto_region 1 with fail
  generalize (((w.alloc (.cells #[.bool b1, .slice A n1 c] 27)).alloc (.cells #[.int .i64 n] 3)).alloc (.cells #[.bool false, .slice none 0 0] 27)) = w3 at hW ⊢
  obtain ⟨qp, qn, qr, hb3, hs3⟩ := hW w3 rfl
  clear hW
  have y0 := qp.cell 0
  have y1 := qp.cell 1
  have x0 := qn.cell 0
  have HWI := Lib.hid (within_any n 2097152 w3 (by omega) (by omega))
  rw [show wiB n 2097152 = true from wiB_iff.2 hn] at HWI
  have HM := Lib.hid (moved_any 50 (.pointer (some ⟨w.heap.size + 1, 0, none⟩)) (fun e => e + n) (.agg #[.bool b1, .slice A n1 c]) p w3 (clo_shift (w.heap.size + 1) n w3 hn (by omega) x0) (HPV.out w3 hb3) okp)
  have HQ := Lib.hid qr
  have HB := Lib.hid hb3
  clear hs3 hb3 qp qn qr
  go_wp2_with fail
  refine HWI.out.mono ?_
  rintro e w4 ⟨rfl, rfl⟩
  clear HWI
  go_wp2_with fail
  refine HM.out.mono ?_
  rintro e w4 ⟨v, rfl, hv, hb4⟩
  have q4 := HQ.out.below hb4 HQ.out.lt
  have HB4 := Lib.hid (HB.out.trans (hb4.mono HB.out.size))
  have HV := Lib.hid (fun u1 u2 => hv.box q4 u1 u2)
  obtain ⟨b5, A5, n5, c5, rfl, j5, j6⟩ := hv.parts
  clear j5 j6
  have x0 := q4.cell 0
  have x1 := q4.cell 1
  have f0 := q4.frozen 0
  have f1 := q4.frozen 1
  have hres := Lib.hid ((q4.set 0 (.bool b5)).set 1 (.slice A5 n5 c5))
  clear hv hb4 HM q4 y0 y1
  go_wp2_with fail
  refine bodyPost_ret (v := .agg #[.bool b5, .slice A5 n5 c5]) (results_c Tryd.results24 _ _ (w.heap.size + 2) 27 _ _ rfl hres.out Tryd.underlying27 rfl info_poly) rfl ?_
  exact ⟨_, rfl, HV.out _ _, (HB4.out.setCell (p := ⟨w.heap.size + 2, 0, none⟩) (by simp) _).setCell (p := ⟨w.heap.size + 2, 1, none⟩) (by simp) _⟩
end Go.Proofs.YtlbihllmpbhhcaaDoor
