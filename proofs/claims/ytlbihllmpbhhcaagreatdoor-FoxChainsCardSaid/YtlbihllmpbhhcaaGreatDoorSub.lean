/- laurent.Sub. -/
import Derived.Test.YtlbihllmpbhhcaaGreatDoorPad
namespace Go.Proofs.YtlbihllmpbhhcaaGreatDoor
open Go.RowKit
set_option linter.unusedVariables false

set_option maxHeartbeats 1000000 in
theorem clo_sub : CloW 31 (fun a b => a - b) where
  eg := enters_of Tryz.func31 (by kernel_rfl) rfl
  ca := fun a b W h1 h2 h3 h4 => by
    go_enter Tryz.func31, Tryz.ntmps31
    go_wp2_with fail
    go_ret
    exact ⟨rfl, rfl⟩
  f0 := rfl
  bd := fun a b h1 h2 h3 h4 => ⟨by show _ ≤ a - b; omega, by show a - b ≤ _; omega⟩
set_option maxHeartbeats 1000000 in
set_option maxRecDepth 100000 in
theorem Sub_any (vp vq : Value) (p q : Pol) (w : World) (hp : PolyV w vp p) (hq : PolyV w vq q) (okp : okP p) (okq : okP q) :
    Calls Tryz.prog 12 #[vp, vq] w (CombR (fun a b => a - b) p q w) := by
  have HC := Lib.hid (fun W (hb : Below w.heap.size w W) => combine_any 31 _ clo_sub vp vq p q W (hp.below hb) (hq.below hb) okp okq)
  obtain ⟨b1, A, n, c, rfl, j1, j2⟩ := hp.parts
  obtain ⟨b2, A2, n2, c2, rfl, j3, j4⟩ := hq.parts
  clear hp okp j1 j2 hq okq j3 j4
  have hW : ∀ W, W = (((w.alloc (.cells #[.bool b1, .slice A n c] 28)).alloc (.cells #[.bool b2, .slice A2 n2 c2] 28)).alloc (.cells #[.bool false, .slice none 0 0] 28)) → Arr W w.heap.size 28 [.bool b1, .slice A n c] ∧ Arr W (w.heap.size + 1) 28 [.bool b2, .slice A2 n2 c2] ∧ Arr W (w.heap.size + 2) 28 [.bool false, .slice none 0 0] ∧ Below w.heap.size w W := by
    intro W hW
    subst hW
    exact ⟨((Arr.new _ _ [_, _]).alloc _).alloc _, (Arr.newAt (w.alloc _) _ [_, _] _ (by simp)).alloc _, Arr.newAt ((w.alloc _).alloc _) _ [_, _] _ (by simp), (((Below.refl _ _).alloc (Nat.le_refl _) _).alloc (by simp) _).alloc (by simp <;> omega) _⟩
  go_enter Tryz.func12, Tryz.ntmps12
  go_upto_region 1 with fail
  generalize (((w.alloc (.cells #[.bool b1, .slice A n c] 28)).alloc (.cells #[.bool b2, .slice A2 n2 c2] 28)).alloc (.cells #[.bool false, .slice none 0 0] 28)) = w3 at hW ⊢
  obtain ⟨qp, qq, qr, hb3⟩ := hW w3 rfl
  clear hW
  have y0 := qp.cell 0
  have y1 := qp.cell 1
  have y2 := qq.cell 0
  have y3 := qq.cell 1
  have HC3 := Lib.hid (HC.out w3 hb3)
  clear HC
  go_wp2_with fail
  ((with_reducible refine HC3.out.mono ?_); skip)
  rintro e w4 ⟨v, r, rfl, hv, hr, hb4⟩
  have q4 := qr.below hb4 qr.lt
  have hb4' := hb3.trans (hb4.mono hb3.size)
  have HV := Lib.hid (fun u1 u2 => hv.box q4 u1 u2)
  have HR := Lib.hid hr
  obtain ⟨b5, A5, n5, c5, rfl, j5, j6⟩ := hv.parts
  clear j5 j6 hv hr y0 y1 qp qr HC3 y2 y3 qq
  have x0 := q4.cell 0
  have x1 := q4.cell 1
  have f0 := q4.frozen 0
  have f1 := q4.frozen 1
  have hres := Lib.hid ((q4.set 0 (.bool b5)).set 1 (.slice A5 n5 c5))
  go_wp2_with fail
  refine bodyPost_ret (v := .agg #[.bool b5, .slice A5 n5 c5]) (results_c Tryz.results12 _ _ (w.heap.size + 2) 28 _ _ rfl hres.out Tryz.underlying28 rfl info_poly) rfl ?_
  exact ⟨_, r, rfl, HV.out _ _, HR.out, (hb4'.setCell (p := ⟨w.heap.size + 2, 0, none⟩) (by simp) _).setCell (p := ⟨w.heap.size + 2, 1, none⟩) (by simp) _⟩
end Go.Proofs.YtlbihllmpbhhcaaGreatDoor
