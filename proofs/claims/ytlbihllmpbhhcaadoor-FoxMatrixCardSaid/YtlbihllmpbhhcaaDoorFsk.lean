/- fox.sum keeps what is not its own. -/
import Derived.Test.YtlbihllmpbhhcaaDoorFsu
namespace Go.Proofs.YtlbihllmpbhhcaaDoor
open Go.RowKit
set_option linter.unusedVariables false

set_option maxHeartbeats 2000000 in
set_option maxRecDepth 100000 in
theorem sum_keep (A0 : Option Addr) (c base : Nat) (ts : List (Int × Int)) (w : World) (h : OwnF base w (.slice A0 ts.length c) ts) (hl : ts.length ≤ 100000) (hu : Unit1 ts) (hbs : base ≤ w.heap.size) :
    Calls Tryd.prog 34 #[.slice A0 ts.length c] w (fun e w' => SumR ts base w e w' ∧ ∀ k, k < w.heap.size → (Value.slice A0 ts.length c).ownBlock ≠ some k → w'.heap[k]? = w.heap[k]?) := by
  have hW : ∀ W, W = (w.alloc (.cells #[.slice A0 ts.length c] 66)).alloc (.cells #[.bool false, .slice none 0 0] 27) → Arr W w.heap.size 66 [.slice A0 ts.length c] ∧ Arr W (w.heap.size + 1) 27 [.bool false, .slice none 0 0] ∧ Below w.heap.size w W ∧ W.heap.size = w.heap.size + 2 := by
    intro W hW
    subst hW
    exact ⟨(Arr.new _ _ [_]).alloc _, Arr.newAt (w.alloc _) _ [_, _] _ (by simp), ((Below.refl _ _).alloc (Nat.le_refl _) _).alloc (by simp) _, by simp⟩
  have hgl := h.lt
  go_enter Tryd.func34, Tryd.ntmps34
  go_upto_region 1 with fail
  generalize ((w.alloc (.cells #[.slice A0 ts.length c] 66)).alloc (.cells #[.bool false, .slice none 0 0] 27)) = w3 at hW ⊢
  obtain ⟨qb, qr, hb3, hs3⟩ := hW w3 rfl
  clear hW
  have HSO := Lib.hid (sortV_any (.slice A0 ts.length c) base ts w3 (h.below hb3) hl)
  have y0 := qb.cell 0
  clear h
  go_wp2_with fail
  refine HSO.out.mono ?_
  rintro e w4 ⟨rfl, ts', hp, hf, hb4, hk⟩
  have hkeep4 := Lib.hid (fun k (h1 : k < w.heap.size) (h2 : (Value.slice A0 ts.length c).ownBlock ≠ some k) => (hk k (fun q => h2 q) (by omega)).trans (hb3.block k h1))
  have qb4 : Arr w4 w.heap.size 66 [.slice A0 ts.length c] := (hk _ (fun q => absurd (hgl _ q).2 (by omega)) (by omega)).trans qb
  have qr4 : Arr w4 (w.heap.size + 1) 27 [.bool false, .slice none 0 0] := (hk _ (fun q => absurd (hgl _ q).2 (by omega)) (by omega)).trans qr
  have hbw : Below base w w4 := (hb3.mono hbs).trans hb4
  have hs4 : w.heap.size + 2 ≤ w4.heap.size := by have := hb4.size; omega
  have hlen := hp.length_eq
  have HU := Lib.hid (show Unit1 ts' from fun t ht => hu t (hp.mem_iff.1 ht))
  have HCF := Lib.hid (fun x => cf_perm hp x)
  have HF := Lib.hid hf
  have HL := Lib.hid hlen
  clear y0 hgl hk hp hf hb4 hb3 qb qr HSO hlen hs3 hu
  go_upto_region 3 with fail
  have hX : Arr (w4.alloc (.cells #[.nilFunc] 108)) w4.heap.size 108 [.nilFunc] ∧ Below w4.heap.size w4 (w4.alloc (.cells #[.nilFunc] 108)) := ⟨Arr.new _ _ [_], (Below.refl _ _).alloc (Nat.le_refl _) _⟩
  generalize (w4.alloc (.cells #[.nilFunc] 108)) = w5 at hX ⊢
  obtain ⟨qp5, hb5⟩ := hX
  have hb6 := hb5.setCell (p := ⟨w4.heap.size, 0, none⟩) (Nat.le_refl _) (.func (.func 62) #[] #[.pointer (some ⟨w.heap.size, 0, none⟩), .pointer (some ⟨w4.heap.size, 0, none⟩)])
  have qp6 := qp5.set 0 (.func (.func 62) #[] #[.pointer (some ⟨w.heap.size, 0, none⟩), .pointer (some ⟨w4.heap.size, 0, none⟩)])
  have y0 := qp5.cell 0
  have y1 := qp5.frozen 0
  go_upto_region 4 with fail
  clear y0 y1
  generalize w5.setCell ⟨w4.heap.size, 0, none⟩ (.func (.func 62) #[] #[.pointer (some ⟨w.heap.size, 0, none⟩), .pointer (some ⟨w4.heap.size, 0, none⟩)]) = w6 at *
  have qb6 := qb4.below hb6 qb4.lt
  have qr6 := qr4.below hb6 qr4.lt
  have hbw6 := hbw.trans (hb6.mono (Nat.le_trans hbs (by omega)))
  have hs6 : w.heap.size + 2 ≤ w6.heap.size := by have := hb6.size; omega
  have HF6 := Lib.hid (HF.out.below hb6)
  have hkeep6 := Lib.hid (fun k (h1 : k < w.heap.size) h2 => (hb6.block k (by omega)).trans (hkeep4.out k h1 h2))
  have y0 := qp6.cell 0
  have y1 := qb6.cell 0
  have HPA := Lib.hid (fun (f : FTm w6 (.slice A0 ts.length c) ts') => part_any w.heap.size w4.heap.size (.slice A0 ts.length c) ts' HU.out (by have := HL.out; omega) ts'.length 0 ts'.length (by omega) (by omega) (Nat.le_refl _) w6 qb6 qp6 f)
  have HP := Lib.hid (HPA.out HF6.out)
  have e0 := HL.out
  rw [e0] at HP
  clear HPA e0 hb5 hb6 qp5 qb4 qr4 HF HF6
  go_wp2_with fail
  refine HP.out.mono ?_
  rintro e w7 ⟨v, r, rfl, hv, hc, hli, hx, hb7⟩
  have q7 := qr6.below hb7 qr6.lt
  have hkeep7 := Lib.hid (fun k (h1 : k < w.heap.size) h2 => (hb7.block k (by omega)).trans (hkeep6.out k h1 h2))
  have hbw7 := hbw6.trans (hb7.mono (Nat.le_trans hbs (by omega)))
  have HV := Lib.hid (fun u1 u2 => hv.box q7 u1 u2)
  have HR := Lib.hid (And.intro hc (And.intro hli hx))
  obtain ⟨b5, A5, n5, c5, rfl, j5, j6⟩ := hv.parts
  clear j5 j6 hv hc hli hx y0 y1 qr6 qb6 qp6 HP hb7 hbw6
  have x0 := q7.cell 0
  have x1 := q7.cell 1
  have f0 := q7.frozen 0
  have f1 := q7.frozen 1
  have hres := Lib.hid ((q7.set 0 (.bool b5)).set 1 (.slice A5 n5 c5))
  go_wp2_with fail
  refine bodyPost_ret (v := .agg #[.bool b5, .slice A5 n5 c5]) (results_c Tryd.results34 _ _ (w.heap.size + 1) 27 _ _ rfl hres.out Tryd.underlying27 rfl info_poly) rfl ?_
  refine ⟨⟨_, r, rfl, HV.out _ _, HR.out.1, HR.out.2.1, fun x => ?_, (hbw7.setCell (p := ⟨w.heap.size + 1, 0, none⟩) (Nat.le_trans hbs (by simp)) _).setCell (p := ⟨w.heap.size + 1, 1, none⟩) (Nat.le_trans hbs (by simp)) _⟩, fun k h1 h2 => ((Below.heap_setCell _ _ _ k (show k ≠ w.heap.size + 1 by omega)).trans (Below.heap_setCell _ _ _ k (show k ≠ w.heap.size + 1 by omega))).trans (hkeep7.out k h1 h2)⟩
  have h1 := HR.out.2.2 x
  rw [← HL.out, sl_all] at h1
  rw [h1, HCF.out]
end Go.Proofs.YtlbihllmpbhhcaaDoor
