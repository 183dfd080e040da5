/- SurfaceMoves: the law's walk. -/
import Derived.Test.YtbkgpfalljgdcaaGreatDoorZSmz
import Derived.Test.YtbkgpfalljgdcaaGreatDoorZEql
import Derived.Test.YtbkgpfalljgdcaaGreatDoorZItn
import Derived.Test.YtbkgpfalljgdcaaGreatDoorZApd
namespace Go.Proofs.YtbkgpfalljgdcaaGreatDoor
open Go.RowKit
set_option linter.unusedVariables false

theorem wf_i64v {x : Int} (h : (Lit.int .i64 x).wf = true) : -9223372036854775808 ≤ x ∧ x ≤ 9223372036854775807 := by
  simp only [Lit.wf, Bool.and_eq_true, decide_eq_true_eq] at h
  exact ⟨h.1, h.2⟩
def fitF (N : Int) (W : List Int) : Bool := decide (W.length ≤ 14) && brV N W && cnF N W
set_option maxHeartbeats 4000000 in
set_option maxRecDepth 100000 in
theorem fits_any (N : Int) (vw : Value) (W : List Int) (w : World) (h : Ints w vw W) (hl : W.length ≤ 9223372036854775807) (hN : -9223372036854775808 ≤ N ∧ N ≤ 9223372036854775807) :
    Calls Tryz.prog 12 #[.agg #[.int .i64 N, vw]] w fun e w' => e = .returned (.bool (fitF N W)) ∧ Below w.heap.size w w' := by
  have HVC := Lib.hid (fun W' (hb : Below w.heap.size w W') => bvalid_any N vw W W' (h.below hb) hl hN)
  have HCC := Lib.hid (fun (hbv : brV N W = true) W' (hb : Below w.heap.size w W') => rconn_any N vw W W' (h.below hb) (by have := brV_iff.1 hbv; omega) (by have := brV_iff.1 hbv; omega) (fun l hl => by have := brV_iff.1 hbv; have := this.2.2.2 l hl; omega))
  obtain ⟨A, c, hv, -, -⟩ := h
  subst hv
  obtain ⟨nw, hnn⟩ : ∃ n, n = W.length := ⟨_, rfl⟩
  rw [← hnn] at HVC HCC hl ⊢
  have HNW := Lib.hid hnn
  have hal := (Below.refl w.heap.size w).alloc (Nat.le_refl _) (.cells #[.int .i64 N, .slice A nw c] 24)
  have HB := Lib.hid hal
  have HQ := Lib.hid (show Arr (w.alloc (.cells #[.int .i64 N, .slice A nw c] 24)) w.heap.size 24 [.int .i64 N, .slice A nw c] from Arr.new w _ [_, _])
  clear hal hnn
  have HF := Lib.hid (show fitF N W = (decide (nw ≤ 14) && brV N W && cnF N W) by unfold fitF; rw [← HNW.out])
  go_enter Tryz.func12, Tryz.ntmps12
  go_upto_region 1 with fail
  obtain ⟨w3, hw3⟩ : ∃ W', W' = w.alloc (.cells #[.int .i64 N, .slice A nw c] 24) := ⟨_, rfl⟩
  rw [← hw3] at HB HQ ⊢
  clear hw3
  have y1 := HQ.out.cell 1
  have y0 := HQ.out.cell 0
  by_cases h14 : nw ≤ 14
  · have z1 : (nw : Int) ≤ 14 := by omega
    have H14 := Lib.hid h14
    clear h14
    obtain ⟨bv, hbv⟩ : ∃ b, b = brV N W := ⟨_, rfl⟩
    rw [← hbv] at HVC HCC HF
    have HVD := Lib.hid (HVC.out w3 HB.out)
    clear HVC
    have HBV := Lib.hid hbv
    clear hbv
    cases bv with
    | false =>
      have HE := Lib.hid (show fitF N W = false by rw [HF.out]; simp)
      go_wp2_with (first | (go_at_call 23; refine HVD.out.mono ?_; rintro e w4 ⟨rfl, hb4⟩; have HB4 := Lib.hid hb4; clear hb4; have y0 := (HQ.out.below HB4.out HQ.out.lt).cell 0; have y1 := (HQ.out.below HB4.out HQ.out.lt).cell 1))
      go_ret
      exact ⟨by rw [HE.out]; rfl, HB.out.trans (HB4.out.mono HB.out.size)⟩
    | true =>
      obtain ⟨bc, hbc⟩ : ∃ b, b = cnF N W := ⟨_, rfl⟩
      rw [← hbc] at HCC HF
      clear hbc
      have HE := Lib.hid (show fitF N W = bc by rw [HF.out]; simp [H14.out])
      go_wp2_with (first | (go_at_call 23; refine HVD.out.mono ?_; rintro e w4 ⟨rfl, hb4⟩; have HB4 := Lib.hid hb4; clear hb4; have y0 := (HQ.out.below HB4.out HQ.out.lt).cell 0; have y1 := (HQ.out.below HB4.out HQ.out.lt).cell 1; have HCD := Lib.hid (HCC.out rfl w4 (HB.out.trans (HB4.out.mono HB.out.size)))) | (go_at_call 9; refine HCD.out.mono ?_; rintro e w5 ⟨rfl, hw5⟩; obtain rfl := hw5.symm; clear hw5))
      go_ret
      exact ⟨by rw [HE.out]; rfl, HB.out.trans (HB4.out.mono HB.out.size)⟩
  · have z1 : ¬ (nw : Int) ≤ 14 := by omega
    have HE := Lib.hid (show fitF N W = false by rw [HF.out, decide_eq_false h14]; rfl)
    clear h14
    go_wp2_with fail
    go_ret
    exact ⟨by rw [HE.out]; rfl, HB.out⟩
/-- what surface.Matrix returns for a connected braid of few letters -/
theorem matrix_ok {N : Int} {vw : Value} {W : List Int} {w : World} (h : Ints w vw W) (hl : W.length ≤ 9223372036854775807) (hN : -9223372036854775808 ≤ N ∧ N ≤ 9223372036854775807) (hb : brV N W = true) (hc : cnB N W) (hn : (lsF N W).length ≤ 13) :
    Calls Tryz.prog 6 #[.agg #[.int .i64 N, vw]] w fun e w' => Below w.heap.size w w' ∧ ∃ A n c, e = .returned (.tuple #[.slice A n c, .int .i64 0]) ∧ MatI w' (.slice A n c) (sfM W (lsF N W)) := by
  refine (sMatrix_any N vw W w h hl hN).mono ?_
  rintro e w' ⟨hbl, hcs⟩
  refine ⟨hbl, ?_⟩
  rcases hcs with ⟨h1, -⟩ | ⟨-, h2, -⟩ | ⟨-, -, h3, -⟩ | ⟨-, -, -, v, rfl, hm⟩
  · rw [hb] at h1; cases h1
  · exact absurd hc h2
  · omega
  · obtain ⟨A, c, rfl⟩ := hm.form
    exact ⟨A, _, c, rfl, hm⟩
def AlxR (m : List (List Int)) (w : World) (e : Ending) (w' : World) : Prop :=
  Below w.heap.size w w' ∧ ∃ b A n c g, e = .returned (.tuple #[.agg #[.bool b, .slice A n c], .int .i64 g]) ∧
    (g = 9 ∨ (g = 0 ∧ ∃ D, PolyV w' (.agg #[.bool b, .slice A n c]) (norP (some D)) ∧ Can D ∧ Lim D ∧ (∀ t ∈ D, 0 ≤ t.1) ∧ ∀ x, 1 ≤ x → evQ 0 x D = detE 0 (alM m) x))
theorem sfE_bd (W : List Int) (x y : L3) : -1 ≤ sfE W x y ∧ sfE W x y ≤ 1 := by
  unfold sfE
  repeat' split
  all_goals omega
theorem alex_ok {W : List Int} {ls : List L3} {v : Value} {w : World} (h : MatI w v (sfM W ls)) (hn : ls.length ≤ 13) (ht6 : Tb6 w) :
    Calls Tryz.prog 15 #[v] w (AlxR (sfM W ls) w) := by
  have hrow : ∀ r ∈ sfM W ls, r.length = ls.length ∧ ∀ x ∈ r, -1 ≤ x ∧ x ≤ 1 := fun r hr => by
    obtain ⟨i, _, rfl⟩ := List.mem_map.1 hr
    refine ⟨by simp, fun x hx => ?_⟩
    obtain ⟨j, _, rfl⟩ := List.mem_map.1 hx
    exact sfE_bd _ _ _
  have hsq : sqM (sfM W ls) = true := List.all_eq_true.2 fun r hr => decide_eq_true (by rw [sfM_length]; exact (hrow r hr).1)
  have hsm : smM (sfM W ls) = true := List.all_eq_true.2 fun r hr => List.all_eq_true.2 fun x hx => by
    have := (hrow r hr).2 x hx
    unfold sfB
    exact decide_eq_true (by omega)
  refine (Alexander_any v _ w h (by rw [sfM_length]; exact hn) (fun r hr => by have := (hrow r hr).1; omega) ht6).mono ?_
  rintro e w' ⟨hb, hcs⟩
  refine ⟨hb, ?_⟩
  rcases hcs with ⟨h1, -⟩ | ⟨-, h2, -⟩ | ⟨-, -, ⟨v, D, he, hp, q1, q2, q3, q4⟩ | ⟨he, -⟩⟩
  · rw [hsq] at h1; cases h1
  · rw [hsm] at h2; cases h2
  · obtain ⟨b, A, n, c, rfl, -, -⟩ := hp.parts
    exact ⟨b, A, n, c, 0, he, .inr ⟨rfl, D, hp, q1, q2, q3, q4⟩⟩
  · exact ⟨false, none, 0, 0, 9, he, .inl rfl⟩
theorem clone6 {w : World} {b o n c : Nat} {W : List Int} (h : Ints w (.slice (some ⟨b, o, none⟩) n c) W) (hl : W.length ≤ 1000) :
    Calls Tryz.prog 14 #[.slice (some ⟨b, o, none⟩) n c] w fun e w' => ∃ v, e = .returned v ∧ Below w.heap.size w w' ∧ OwnA 3 1 eI5 w.heap.size w' v W := by
  obtain ⟨A0, c0, hv, hc, hx⟩ := h
  injection hv with e1 e2 e3
  subst e1; subst e2
  refine (Tryz.slices_Clone_int b o W.length c W w (Nat.le_refl _) (by omega) fun j hj => ?_).mono ?_
  · obtain ⟨b', o', hA, hcell⟩ := hx j W[j] (List.getElem?_eq_getElem hj)
    injection hA with hA
    injection hA with e1 e2
    subst e1; subst e2
    rw [hcell]
    simp [List.getD, List.getElem?_eq_getElem hj]
  · rintro e w' ⟨v', rfl, ho, -, hb⟩
    refine ⟨v', rfl, hb, ?_⟩
    unfold OwnA
    rw [flat_eI5]
    rwa [List.take_length] at ho
theorem ints_sub6 {w : World} {b o n c : Nat} {W : List Int} (h : Ints w (.slice (some ⟨b, o, none⟩) n c) W) {k : Nat} (hk : k ≤ n) :
    Ints w (.slice (some ⟨b, o + k, none⟩) (n - k) (c - k)) (W.drop k) ∧ Ints w (.slice (some ⟨b, o, none⟩) k c) (W.take k) := by
  obtain ⟨A0, c0, hv, hc, hx⟩ := h
  injection hv with e1 e2 e3
  subst e1; subst e2; subst e3
  refine ⟨⟨_, _, by rw [List.length_drop], by rw [List.length_drop]; omega, fun j z hj => ?_⟩, ⟨_, _, by rw [List.length_take, Nat.min_eq_left hk], by rw [List.length_take]; omega, fun j z hj => ?_⟩⟩
  · rw [List.getElem?_drop] at hj
    obtain ⟨b', o', hA, hcell⟩ := hx (k + j) z hj
    injection hA with hA
    injection hA with e1 e2
    subst e1; subst e2
    exact ⟨b, o + k, rfl, by rw [Nat.add_assoc]; exact hcell⟩
  · rw [List.getElem?_take] at hj
    split at hj
    · obtain ⟨b', o', hA, hcell⟩ := hx j z hj
      injection hA with hA
      injection hA with e1 e2
      subst e1; subst e2
      exact ⟨b, o, rfl, hcell⟩
    · cases hj
theorem oA_of_I {B : Nat} {w : World} {v : Value} {xs : List Int} (h : OwnI 3 B w v xs) : OwnA 3 1 eI5 B w v xs := by
  unfold OwnA; rw [flat_eI5]; exact h
theorem OwnA.far6 {B : Nat} {w : World} {v : Value} {xs : List Int} (h : OwnA 3 1 eI5 B w v xs) {p : Addr} (hp : v.ownBlock ≠ some p.block) (u : Value) : OwnA 3 1 eI5 B (w.setCell p u) v xs := ownsRow_setCell_other h hp u
theorem ne_block {w : World} {g : Nat} {t : TypeId} {cs : List Value} {B : Nat} {v : Value} {xs : List Int} (h : OwnA 3 1 eI5 B w v xs) (hg : Arr w g t cs) (ht : t ≠ 3) : v.ownBlock ≠ some g := fun e => by
  obtain ⟨cs1, fr1, t1⟩ := h.typ g e
  have t2 := hg
  unfold Arr at t2
  rw [t1] at t2
  injection t2 with t2
  injection t2 with _ t2 _
  exact ht t2.symm
set_option maxHeartbeats 16000000 in
set_option maxRecDepth 100000 in
theorem smoves_law38 (N : Int) (vw : Value) (W : List Int) (by_ kd : Int) (w : World) (h : Ints w vw W) (hl : W.length ≤ 9223372036854775807) (hwf : (Lit.int .i64 N).wf = true) (hby : 0 ≤ by_ ∧ by_ ≤ 255) (hkd : 0 ≤ kd ∧ kd ≤ 255) (ht : Tb w) (ht6 : Tb6 w) :
    Calls Tryz.prog 4 #[.agg #[.int .i64 N, vw], .int .u8 by_, .int .u8 kd] w (LawT5 w) := by
  have hN := wf_i64v hwf
  have HAW := Lib.hid (fun W (hb : Below w.heap.size w W) => awake38 W (ht.below hb) (ht6.below hb))
  have HH := Lib.hid (fun W' (hb : Below w.heap.size w W') => h.below hb)
  have HFC := Lib.hid (fun W' (hb : Below w.heap.size w W') => fits_any N vw W W' (h.below hb) hl hN)
  have HT6 := Lib.hid (fun W (hb : Below w.heap.size w W) => ht6.below hb)
  obtain ⟨A, c, hv, hcap, -⟩ := h
  subst hv
  obtain ⟨nw, hnn⟩ : ∃ n, n = W.length := ⟨_, rfl⟩
  rw [← hnn] at HH HFC hl hcap ⊢
  have HNW := Lib.hid hnn
  have hal := (Below.refl w.heap.size w).alloc (Nat.le_refl _) (.cells #[.int .i64 N, .slice A nw c] 24)
  have HB := Lib.hid hal
  have HQ := Lib.hid (show Arr (w.alloc (.cells #[.int .i64 N, .slice A nw c] 24)) w.heap.size 24 [.int .i64 N, .slice A nw c] from Arr.new w _ [_, _])
  have HCAP := Lib.hid hcap
  clear hal hnn ht ht6 hwf hcap
  go_enter Tryz.func4, Tryz.ntmps4
  go_upto_region 1 with fail
  obtain ⟨w3, hw3⟩ : ∃ W', W' = w.alloc (.cells #[.int .i64 N, .slice A nw c] 24) := ⟨_, rfl⟩
  rw [← hw3] at HB HQ ⊢
  obtain ⟨gB, hgB⟩ : ∃ g, g = w.heap.size := ⟨_, rfl⟩
  rw [← hgB] at HQ ⊢
  have HGB := Lib.hid hgB
  clear hw3 hgB
  have HKY := Lib.hid (fun w1 (hb : Below w3.heap.size w3 w1) => (HQ.out.below hb HQ.out.lt))
  have HBX := Lib.hid (fun w1 (hb : Below w3.heap.size w3 w1) => (HB.out.trans (hb.mono HB.out.size)))
  obtain ⟨fb, hfb⟩ : ∃ b, b = fitF N W := ⟨_, rfl⟩
  rw [← hfb] at HFC
  have HFB := Lib.hid hfb
  clear hfb
  cases fb with
  | false =>
    go_upto_region 2 with (first | (go_at_call 5; refine (HAW.out w3 HB.out).mono ?_; rintro e w1 ⟨rfl, hb1⟩; have HB1 := Lib.hid hb1; clear hb1; have y0 := (HKY.out w1 HB1.out).cell 0; have y1 := (HKY.out w1 HB1.out).cell 1) | (go_at_call 12; refine (HFC.out w1 (HBX.out w1 HB1.out)).mono ?_; rintro e w2 ⟨rfl, hb2⟩; have HB2 := Lib.hid (HBX.out w2 (HB1.out.trans (hb2.mono HB1.out.size))); clear hb2))
    go_wp2_with (go_at_call 5; refine (HAW.out w2 HB2.out).mono ?_; rintro e w4 ⟨rfl, hb4⟩)
    go_ret
    exact ⟨rfl, HB2.out.trans (hb4.mono HB2.out.size)⟩
  | true =>
  have hf := HFB.out
  unfold fitF at hf
  rw [eq_comm, Bool.and_eq_true, Bool.and_eq_true, decide_eq_true_eq] at hf
  obtain ⟨⟨hl14, hbv⟩, hcf⟩ := hf
  have HBV := Lib.hid hbv
  have HCB := Lib.hid (cnF_iff.1 hcf)
  have hn14 : nw ≤ 14 := by rw [HNW.out]; exact hl14
  have hbi := brV_iff.1 hbv
  have hN1 : 1 ≤ N ∧ N ≤ 10 := ⟨hbi.1, hbi.2.1⟩
  clear hl14 hbv hcf hbi
  by_cases hedge : 10 ≤ N ∨ nw = 0
  · have HED := Lib.hid hedge
    by_cases h10 : N ≥ 10
    · clear hedge
      go_upto_region 2 with (first | (go_at_call 5; refine (HAW.out w3 HB.out).mono ?_; rintro e w1 ⟨rfl, hb1⟩; have HB1 := Lib.hid hb1; clear hb1; have y0 := (HKY.out w1 HB1.out).cell 0; have y1 := (HKY.out w1 HB1.out).cell 1) | (go_at_call 12; refine (HFC.out w1 (HBX.out w1 HB1.out)).mono ?_; rintro e w2 ⟨rfl, hb2⟩; have HT2 := Lib.hid (HB1.out.trans (hb2.mono HB1.out.size)); clear hb2; have y0 := (HKY.out w2 HT2.out).cell 0; have y1 := (HKY.out w2 HT2.out).cell 1))
      have HB2 := Lib.hid (HBX.out w2 HT2.out)
      go_wp2_with (go_at_call 5; refine (HAW.out w2 HB2.out).mono ?_; rintro e w4 ⟨rfl, hb4⟩)
      go_ret
      exact ⟨rfl, HB2.out.trans (hb4.mono HB2.out.size)⟩
    · have z0 : ((nw : Int) == 0) = true := by simp; omega
      clear hedge
      go_upto_region 2 with (first | (go_at_call 5; refine (HAW.out w3 HB.out).mono ?_; rintro e w1 ⟨rfl, hb1⟩; have HB1 := Lib.hid hb1; clear hb1; have y0 := (HKY.out w1 HB1.out).cell 0; have y1 := (HKY.out w1 HB1.out).cell 1) | (go_at_call 12; refine (HFC.out w1 (HBX.out w1 HB1.out)).mono ?_; rintro e w2 ⟨rfl, hb2⟩; have HT2 := Lib.hid (HB1.out.trans (hb2.mono HB1.out.size)); clear hb2; have y0 := (HKY.out w2 HT2.out).cell 0; have y1 := (HKY.out w2 HT2.out).cell 1))
      have HB2 := Lib.hid (HBX.out w2 HT2.out)
      go_wp2_with (go_at_call 5; refine (HAW.out w2 HB2.out).mono ?_; rintro e w4 ⟨rfl, hb4⟩)
      go_ret
      exact ⟨rfl, HB2.out.trans (hb4.mono HB2.out.size)⟩
  have hN10 : ¬ N ≥ 10 := by omega
  have hn0 : 0 < nw := by omega
  have z0 : ((nw : Int) == 0) = false := by simp; omega
  clear hedge
  go_upto_region 3 with (first | (go_at_call 5; refine (HAW.out w3 HB.out).mono ?_; rintro e w1 ⟨rfl, hb1⟩; have HB1 := Lib.hid hb1; clear hb1; have y0 := (HKY.out w1 HB1.out).cell 0; have y1 := (HKY.out w1 HB1.out).cell 1) | (go_at_call 12; refine (HFC.out w1 (HBX.out w1 HB1.out)).mono ?_; rintro e w2 ⟨rfl, hb2⟩; have HT2 := Lib.hid (HB1.out.trans (hb2.mono HB1.out.size)); clear hb2; have y0 := (HKY.out w2 HT2.out).cell 0; have y1 := (HKY.out w2 HT2.out).cell 1))
  clear y0 y1 HAW HFC HFB HB1 z0
  have y0 := (HKY.out w2 HT2.out).cell 0
  have y1 := (HKY.out w2 HT2.out).cell 1
  have hal := (Below.refl w2.heap.size w2).alloc (Nat.le_refl _) (.cells #[.int .i64 N, .slice none 0 0] 24)
  have HT5 := Lib.hid (HT2.out.trans (hal.mono HT2.out.size))
  have HQC := Lib.hid (show Arr (w2.alloc (.cells #[.int .i64 N, .slice none 0 0] 24)) w2.heap.size 24 [.int .i64 N, .slice none 0 0] from Arr.new w2 _ [_, _])
  clear hal
  have hnz : (nw : Int) ≠ 0 := by omega
  obtain ⟨k, hk⟩ : ∃ k : Nat, Int.tmod by_ (nw : Int) = (k : Int) := ⟨(by_ % (nw : Int)).toNat, by
    rw [Int.tmod_eq_emod_of_nonneg hby.1]
    have := Int.emod_nonneg by_ hnz
    omega⟩
  have hkn : k < nw := by
    have h1 := Int.emod_lt_of_pos by_ (show (0 : Int) < (nw : Int) by omega)
    rw [← Int.tmod_eq_emod_of_nonneg hby.1, hk] at h1
    omega
  have HBY := Lib.hid hby
  have HKD := Lib.hid hkd
  clear hby hnz
  obtain ⟨w5, hw5⟩ : ∃ W', W' = w2.alloc (.cells #[.int .i64 N, .slice none 0 0] 24) := ⟨_, rfl⟩
  obtain ⟨gC, hgC⟩ : ∃ g, g = w2.heap.size := ⟨_, rfl⟩
  have HGC := Lib.hid (show w3.heap.size ≤ gC by rw [hgC]; exact HT2.out.size)
  go_upto_region 4 with fail
  rw [← hw5] at HT5 HQC ⊢
  rw [← hgC] at HQC ⊢
  clear hw5 hgC y0 y1
  have y1 := (HKY.out w5 HT5.out).cell 1
  have z0 : ((nw : Int) == 0) = false := by simp; omega
  have wb : RowKit.wrap64 by_ = by_ := by unfold RowKit.wrap64; have := HBY.out; omega
  go_upto_region 5 with fail
  clear wb
  clear y1 z0
  have hr4 : Int.tmod kd 4 = 0 ∨ Int.tmod kd 4 = 1 ∨ Int.tmod kd 4 = 2 ∨ Int.tmod kd 4 = 3 := by
    rw [Int.tmod_eq_emod_of_nonneg HKD.out.1]; omega
  -- the slice of the word
  obtain ⟨bWd, oWd, hA, hcell⟩ : ∃ bWd oWd, A = some ⟨bWd, oWd, none⟩ ∧ True := by
    obtain ⟨A0, c0, hv, -, hx⟩ := HH.out w (Below.refl _ _)
    injection hv with e1 _ _
    subst e1
    obtain ⟨b, o, hA, -⟩ := hx 0 W[0] (List.getElem?_eq_getElem (by rw [← HNW.out]; exact hn0))
    exact ⟨b, o, hA, trivial⟩
  subst hA
  clear hcell
  have y0 := (HKY.out w5 HT5.out).cell 0
  have y1 := (HKY.out w5 HT5.out).cell 1
  have HLN := Lib.hid (show (lsF N W).length ≤ 13 by have := lsF_len HBV.out HCB.out; have := HNW.out; have h2 := (brV_iff.1 HBV.out).2.2.2; have h3 := h2 W[0] (List.getElem_mem (by rw [← HNW.out]; exact hn0)); omega)
  have HG5 := Lib.hid (show gC < w5.heap.size from HQC.out.lt)
  have HCP := HCAP.out
  rcases hr4 with hr | hr | hr | hr
  · -- a rotation
    have HMV := Lib.hid (mv_rot HBV.out HCB.out (show k ≤ W.length by rw [← HNW.out]; omega))
    have HSU := Lib.hid (fun W' (hb : Below w5.heap.size w5 W') => ints_sub6 (HH.out W' (HBX.out W' (HT5.out.trans (hb.mono HT5.out.size)))) (show k ≤ nw by omega))
    have HL1 := Lib.hid (show (W.drop k).length ≤ 1000 ∧ (W.take k).length ≤ 1000 by have := HNW.out; simp; omega)
    have kn : k ≤ nw := by omega
    have kc : ¬ c < k := by omega
    have kc3 : ¬ c = k := by omega
    go_upto_region 7 with fail
    clear y0 y1
    refine wp_region_phx (fun a b => Below a.heap.size a b) (fun h k => h.trans (k.mono h.size)) ((Below.refl _ _).drew) 11 (by kernel_rfl) (by kernel_rfl) (by kernel_rfl) (by kernel_rfl) rfl (by kernel_rfl) (phiT (fun i => ([some (.pointer (some ⟨gB, 1, none⟩)), some (.slice (some ⟨bWd, oWd, none⟩) nw c), some (.int .i64 (k : Int)), some (.slice (some ⟨bWd, oWd + k, none⟩) (nw - k) (c - k)), some (.pointer (some ⟨gB, 1, none⟩)), some (.slice (some ⟨bWd, oWd, none⟩) nw c), some (.int .i64 (k : Int)), some (.slice (some ⟨bWd, oWd, none⟩) k c), none, none, some (.pointer (some ⟨gC, 1, none⟩)), some (undef)] : List (Option Value)).getD i none) (fun i v w => (if i = 8 then (fun v w => ∃ b, v = .slice (some ⟨b, 0, none⟩) 2 2 ∧ Arr w b 22 [.slice (some ⟨bWd, oWd + k, none⟩) (nw - k) (c - k), .slice (some ⟨bWd, oWd, none⟩) k c]) v w else (if i = 9 then (fun v w => OwnA 3 1 eI5 w5.heap.size w v (W.drop k ++ W.take k)) v w else True)))) (fun i v w w' h hb => ?_) (fun _ W' => ∃ v, Arr W' gC 24 [.int .i64 N, v] ∧ OwnA 3 1 eI5 w5.heap.size W' v (W.drop k ++ W.take k) ∧ Below w3.heap.size w3 W') ⟨?_, ?_, ?_, ?_, ?_, ?_, ?_, ?_, ?_, ?_, ?_, ?_, trivial⟩ ?_
    · unfold phiT at h ⊢
      split
      · next u hu => rw [hu] at h; exact h
      · next hu =>
        rw [hu] at h
        simp only at h ⊢
        by_cases q8 : i = 8
        · rw [if_pos q8] at h ⊢; exact (by obtain ⟨b, e, ha⟩ := h; exact ⟨b, e, ha.below hb ha.lt⟩)
        · rw [if_neg q8] at h ⊢
          by_cases q9 : i = 9
          · rw [if_pos q9] at h ⊢; exact OwnA.below h hb
          · rw [if_neg q9] at h ⊢
            trivial
    · intro x w1 bA hT hdep hold hb
      refine ⟨fun _ => ?_, fun h => absurd h (by decide)⟩
      refine .inl ⟨trivial, ?_⟩
      have e3 : bA.tmps[3]?.getD undef = .pointer (some ⟨gB, 0, none⟩) := hb 3
      refine phx_run (.pointer (some ⟨gB, 1, none⟩)) ?_ (Below.refl _ _) rfl
      clear hb hdep hold
      go_simp
    · intro x w1 bA hT hdep hold hb
      refine ⟨fun _ => ?_, fun h => absurd h (by decide)⟩
      refine .inl ⟨trivial, ?_⟩
      have e51 : bA.tmps[51]?.getD undef = .pointer (some ⟨gB, 1, none⟩) := (hb 51).trans (hdep 0 (by decide))
      have cc := (HKY.out w1 (HT5.out.trans (hT.mono HT5.out.size))).cell 1
      refine phx_run (.slice (some ⟨bWd, oWd, none⟩) nw c) ?_ (Below.refl _ _) rfl
      clear hb hdep hold
      go_simp
    · intro x w1 bA hT hdep hold hb
      refine ⟨fun _ => ?_, fun h => absurd h (by decide)⟩
      refine .inl ⟨trivial, ?_⟩
      have e8 : bA.tmps[8]?.getD undef = .int .i64 (k : Int) := hb 8
      refine phx_run (.int .i64 (k : Int)) ?_ (Below.refl _ _) rfl
      clear hb hdep hold
      go_simp
    · intro x w1 bA hT hdep hold hb
      refine ⟨fun _ => ?_, fun h => absurd h (by decide)⟩
      refine .inl ⟨trivial, ?_⟩
      have e52 : bA.tmps[52]?.getD undef = .slice (some ⟨bWd, oWd, none⟩) nw c := (hb 52).trans (hdep 1 (by decide))
      have e53 : bA.tmps[53]?.getD undef = .int .i64 (k : Int) := (hb 53).trans (hdep 2 (by decide))
      refine phx_run (.slice (some ⟨bWd, oWd + k, none⟩) (nw - k) (c - k)) ?_ (Below.refl _ _) rfl
      clear hb hdep hold
      go_simp
    · intro x w1 bA hT hdep hold hb
      refine ⟨fun _ => ?_, fun h => absurd h (by decide)⟩
      refine .inl ⟨trivial, ?_⟩
      have e3 : bA.tmps[3]?.getD undef = .pointer (some ⟨gB, 0, none⟩) := hb 3
      refine phx_run (.pointer (some ⟨gB, 1, none⟩)) ?_ (Below.refl _ _) rfl
      clear hb hdep hold
      go_simp
    · intro x w1 bA hT hdep hold hb
      refine ⟨fun _ => ?_, fun h => absurd h (by decide)⟩
      refine .inl ⟨trivial, ?_⟩
      have e55 : bA.tmps[55]?.getD undef = .pointer (some ⟨gB, 1, none⟩) := (hb 55).trans (hdep 4 (by decide))
      have cc := (HKY.out w1 (HT5.out.trans (hT.mono HT5.out.size))).cell 1
      refine phx_run (.slice (some ⟨bWd, oWd, none⟩) nw c) ?_ (Below.refl _ _) rfl
      clear hb hdep hold
      go_simp
    · intro x w1 bA hT hdep hold hb
      refine ⟨fun _ => ?_, fun h => absurd h (by decide)⟩
      refine .inl ⟨trivial, ?_⟩
      have e8 : bA.tmps[8]?.getD undef = .int .i64 (k : Int) := hb 8
      refine phx_run (.int .i64 (k : Int)) ?_ (Below.refl _ _) rfl
      clear hb hdep hold
      go_simp
    · intro x w1 bA hT hdep hold hb
      refine ⟨fun _ => ?_, fun h => absurd h (by decide)⟩
      refine .inl ⟨trivial, ?_⟩
      have e56 : bA.tmps[56]?.getD undef = .slice (some ⟨bWd, oWd, none⟩) nw c := (hb 56).trans (hdep 5 (by decide))
      have e57 : bA.tmps[57]?.getD undef = .int .i64 (k : Int) := (hb 57).trans (hdep 6 (by decide))
      refine phx_run (.slice (some ⟨bWd, oWd, none⟩) k c) ?_ (Below.refl _ _) rfl
      clear hb hdep hold
      go_simp
    · intro x w1 bA hT hdep hold hb
      refine ⟨fun _ => ?_, fun h => absurd h (by decide)⟩
      refine .inl ⟨trivial, ?_⟩
      have e54 : bA.tmps[54]?.getD undef = .slice (some ⟨bWd, oWd + k, none⟩) (nw - k) (c - k) := (hb 54).trans (hdep 3 (by decide))
      have e58 : bA.tmps[58]?.getD undef = .slice (some ⟨bWd, oWd, none⟩) k c := (hb 58).trans (hdep 7 (by decide))
      refine phx_make (.slice (some ⟨w1.heap.size, 0, none⟩) 2 2) (w1.alloc (.cells #[.slice (some ⟨bWd, oWd + k, none⟩) (nw - k) (c - k), .slice (some ⟨bWd, oWd, none⟩) k c] 22)) ?_ ((Below.refl _ _).alloc (Nat.le_refl _) _) (⟨w1.heap.size, rfl, Arr.new w1 22 [.slice (some ⟨bWd, oWd + k, none⟩) (nw - k) (c - k), .slice (some ⟨bWd, oWd, none⟩) k c]⟩)
      clear hb hdep hold
      go_simp
    · intro x w1 bA hT hdep hold hb
      refine ⟨fun _ => ?_, fun h => absurd h (by decide)⟩
      refine .inl ⟨trivial, ?_⟩
      have p59 := hdep 8 (by decide)
      have e59 : bA.tmps[59]?.getD undef = x 8 := hb 59
      generalize x 8 = x59 at *
      have P59 := Lib.hid (show (fun v w => ∃ b, v = .slice (some ⟨b, 0, none⟩) 2 2 ∧ Arr w b 22 [.slice (some ⟨bWd, oWd + k, none⟩) (nw - k) (c - k), .slice (some ⟨bWd, oWd, none⟩) k c]) x59 w1 from p59)
      clear p59
      obtain ⟨b59, ev59, ha59⟩ := P59.out
      subst ev59
      refine phx_call ?_ ((concat_any b59 (.slice (some ⟨bWd, oWd + k, none⟩) (nw - k) (c - k)) (.slice (some ⟨bWd, oWd, none⟩) k c) (W.drop k) (W.take k) w1 ha59 (HSU.out w1 hT).1 (HSU.out w1 hT).2 HL1.out.1 HL1.out.2).mono fun e w' h => (by obtain ⟨v, he, hv, hb'⟩ := h; exact ⟨v, he, hb', (oA_of_I hv).low hT.size⟩))
      clear hb hdep hold
      go_simp
    · intro x w1 bA hT hdep hold hb
      refine ⟨fun _ => ?_, fun h => absurd h (by decide)⟩
      refine .inl ⟨trivial, ?_⟩
      have e7 : bA.tmps[7]?.getD undef = .pointer (some ⟨gC, 0, none⟩) := hb 7
      refine phx_run (.pointer (some ⟨gC, 1, none⟩)) ?_ (Below.refl _ _) rfl
      clear hb hdep hold
      go_simp
    · intro x w1 bA hT hdep hold hb
      refine ⟨fun h => absurd h (by decide), fun _ hall => ?_⟩
      refine ⟨trivial, ?_⟩
      have e60 : bA.tmps[60]?.getD undef = x 9 := hb 60
      have e61 : bA.tmps[61]?.getD undef = .pointer (some ⟨gC, 1, none⟩) := (hb 61).trans (hdep 10 (by decide))
      have p59 := Lib.hid (show (fun v w => ∃ b, v = .slice (some ⟨b, 0, none⟩) 2 2 ∧ Arr w b 22 [.slice (some ⟨bWd, oWd + k, none⟩) (nw - k) (c - k), .slice (some ⟨bWd, oWd, none⟩) k c]) (x 8) w1 from hall 8 (by decide))
      have p60 := Lib.hid (show (fun v w => OwnA 3 1 eI5 w5.heap.size w v (W.drop k ++ W.take k)) (x 9) w1 from hall 9 (by decide))
      clear hb hdep hold
      have q5 := HQC.out.below hT HQC.out.lt
      have c0 := q5.cell 1
      have f0 := q5.frozen 1
      obtain ⟨A6, c6, e6⟩ := p60.out.form
      obtain ⟨n6, hn6⟩ : ∃ n, n = (W.drop k ++ W.take k).length := ⟨_, rfl⟩
      rw [← hn6] at e6
      have HOW := Lib.hid p60.out
      clear p59 p60 hn6
      generalize x 9 = x60 at *
      subst e6
      have hrr : (fun _ W' => ∃ v, Arr W' gC 24 [.int .i64 N, v] ∧ OwnA 3 1 eI5 w5.heap.size W' v (W.drop k ++ W.take k) ∧ Below w3.heap.size w3 W') undef (w1.setCell ⟨gC, 1, none⟩ (.slice A6 n6 c6)) := ⟨_, q5.set 1 _, HOW.out.far6 (ne_block HOW.out q5 (by decide)) _, (HT5.out.trans (hT.mono HT5.out.size)).setCell (p := ⟨gC, 1, none⟩) HGC.out _⟩
      have HRR := Lib.hid hrr
      clear hrr HOW q5
      refine phx_st (R := fun W' => ∃ v, Arr W' gC 24 [.int .i64 N, v] ∧ OwnA 3 1 eI5 w5.heap.size W' v (W.drop k ++ W.take k) ∧ Below w3.heap.size w3 W') (w1.setCell ⟨gC, 1, none⟩ (.slice A6 n6 c6)) ?_ ?_ ?_
      · go_simp
      · rfl
      · exact HRR.out
    intro x9 wS hR
    simp only [putAll, dstOf, Act.put, List.map_cons, List.map_nil, List.setIfInBounds_toArray, List.set_cons_succ, List.set_cons_zero, Nat.reduceAdd]
    obtain ⟨v9, hq9, ho9, hb9⟩ := hR
    clear kn kc kc3
    have HOS := Lib.hid ho9
    have HI9 := Lib.hid (own5_ints ho9)
    obtain ⟨A9, c9, hv9⟩ := ho9.form
    obtain ⟨n9, hn9⟩ : ∃ n, n = (W.drop k ++ W.take k).length := ⟨_, rfl⟩
    rw [← hn9] at hv9
    subst hv9
    have HAC := Lib.hid hq9
    have HBS := Lib.hid hb9
    clear hq9 ho9 hb9 hn9
    have hS := HBS.out
    have y0 := (HKY.out wS hS).cell 0
    have y1 := (HKY.out wS hS).cell 1
    have HMB := Lib.hid (matrix_ok (HH.out wS (HBX.out wS hS)) (by have := HNW.out; omega) (by omega) HBV.out HCB.out HLN.out)
    clear hS
    go_wp2_with fail
    refine HMB.out.mono ?_
    rintro e wm ⟨hbm, Am, nm, cm, rfl, hmm⟩
    have HMM := Lib.hid hmm
    have HBM := Lib.hid hbm
    have HSM := Lib.hid (HBS.out.trans (hbm.mono HBS.out.size))
    clear y0 y1 HMB hmm hbm
    have qc := HAC.out.below HBM.out HAC.out.lt
    have x0 := qc.cell 0
    have x1 := qc.cell 1
    have HMC := Lib.hid (matrix_ok (HI9.out.below HBM.out) (by have := (brV_iff.1 HMV.out.1).2.2.1; omega) (by omega) HMV.out.1 HMV.out.2.1 (by rw [HMV.out.2.2.1]; exact HLN.out))
    clear qc
    go_wp2_with fail
    refine HMC.out.mono ?_
    rintro e wn ⟨hbn, An, nn, cn, rfl, hnn⟩
    have HNM := Lib.hid (hnn)
    have HMN := Lib.hid (HMM.out.below hbn)
    have HSN := Lib.hid (HSM.out.trans (hbn.mono HSM.out.size))
    have HAP := Lib.hid (alex_ok HMN.out HLN.out (HT6.out _ (HBX.out _ HSN.out)))
    clear x0 x1 HMC hnn hbn
    go_wp2_with fail
    refine HAP.out.mono ?_
    rintro e wp_ ⟨hbp, bp, Ap, np, cp, gp, rfl, hp⟩
    have HPP := Lib.hid hp
    have HNP := Lib.hid (HNM.out.below hbp)
    have HSP := Lib.hid (HSN.out.trans (hbp.mono HSN.out.size))
    have hal := (Below.refl wp_.heap.size wp_).alloc (Nat.le_refl _) (.cells #[.bool bp, .slice Ap np cp] 40)
    have HQP := Lib.hid (show Arr (wp_.alloc (.cells #[.bool bp, .slice Ap np cp] 40)) wp_.heap.size 40 [.bool bp, .slice Ap np cp] from Arr.new wp_ _ [_, _])
    have HBA := Lib.hid hal
    have HSA := Lib.hid (HSP.out.trans (hal.mono HSP.out.size))
    clear hp hbp hal HAP
    go_upto_region 21 with fail
    obtain ⟨wa, hwa⟩ : ∃ W', W' = wp_.alloc (.cells #[.bool bp, .slice Ap np cp] 40) := ⟨_, rfl⟩
    rw [← hwa] at HQP HBA HSA ⊢
    obtain ⟨gP, hgP⟩ : ∃ g, g = wp_.heap.size := ⟨_, rfl⟩
    rw [← hgP] at HQP ⊢
    clear hwa hgP
    have HAQ := Lib.hid (alex_ok (HNP.out.below HBA.out) (by rw [HMV.out.2.2.1]; exact HLN.out) (HT6.out _ (HBX.out _ HSA.out)))
    go_wp2_with fail
    refine HAQ.out.mono ?_
    rintro e wq ⟨hbq, bq, Aq, nq, cq, gq, rfl, hq⟩
    have HQQ := Lib.hid hq
    have HBQ := Lib.hid hbq
    have HSQ := Lib.hid (HSA.out.trans (hbq.mono HSA.out.size))
    have hal := (Below.refl wq.heap.size wq).alloc (Nat.le_refl _) (.cells #[.bool bq, .slice Aq nq cq] 40)
    have HQR := Lib.hid (show Arr (wq.alloc (.cells #[.bool bq, .slice Aq nq cq] 40)) wq.heap.size 40 [.bool bq, .slice Aq nq cq] from Arr.new wq _ [_, _])
    have HBR := Lib.hid hal
    have HSR := Lib.hid (HSQ.out.trans (hal.mono HSQ.out.size))
    clear hq hbq hal HAQ
    go_upto_region 22 with fail
    obtain ⟨wr, hwr⟩ : ∃ W', W' = wq.alloc (.cells #[.bool bq, .slice Aq nq cq] 40) := ⟨_, rfl⟩
    rw [← hwr] at HQR HBR HSR ⊢
    obtain ⟨gQ, hgQ⟩ : ∃ g, g = wq.heap.size := ⟨_, rfl⟩
    rw [← hgQ] at HQR ⊢
    clear hwr hgQ
    have hpp := HPP.out
    rcases hpp with rfl | ⟨rfl, D, hpv, cD, lD, D0, hD⟩
    · go_wp2_with fail
      go_ret
      exact ⟨rfl, HBX.out _ HSR.out⟩
    have hqq := HQQ.out
    rcases hqq with rfl | ⟨rfl, F, hqv, cF, lF, F0, hF⟩
    · clear hpv cD lD D0 hD
      go_wp2_with fail
      go_ret
      exact ⟨rfl, HBX.out _ HSR.out⟩
    have hbe := HBQ.out.trans (HBR.out.mono HBQ.out.size)
    have hsame : norP (some F) = norP (some D) := by
      have k1 : (sfM W (lsF N W)).length ≤ 13 := by rw [sfM_length]; exact HLN.out
      rcases HMV.out.2.2.2 with hx | ⟨τ, ht, hx⟩
      · exact (nor_same k1 cD D0 hD cF F0 hF (.inl rfl) fun x h1 => by rw [detE_DW, detE_DW, hx x h1, Int.one_mul]).1
      · exact (nor_same k1 cD D0 hD cF F0 hF ht fun x h1 => by rw [detE_DW, detE_DW, hx x h1]).1
    have HEQ := Lib.hid ((Equal_any (.agg #[.bool bp, .slice Ap np cp]) (.agg #[.bool bq, .slice Aq nq cq]) (norP (some D)) (norP (some F)) wr (hpv.below (HBA.out.trans (hbe.mono HBA.out.size))) (hqv.below HBR.out) (okP_nor cD lD) (okP_nor cF lF)).mono fun e w' h => show e = .returned (.bool true) ∧ Below wr.heap.size wr w' from ⟨by rw [h.1, hsame]; simp [eqP], h.2⟩)
    have qp := HQP.out.below hbe HQP.out.lt
    have x0 := qp.cell 0
    have x1 := qp.cell 1
    have x2 := HQR.out.cell 0
    have x3 := HQR.out.cell 1
    clear hbe hsame hpv cD lD D0 hD hqv cF lF F0 hF qp
    go_wp2_with (go_at_call 16; refine HEQ.out.mono ?_; rintro e wz ⟨rfl, hbz⟩)
    go_ret
    exact ⟨rfl, HBX.out _ (HSR.out.trans (hbz.mono HSR.out.size))⟩
  · -- a strand more
    have HMV := Lib.hid (mv_more (z := N) HBV.out HCB.out (show N < 10 by omega) (show W.length ≤ 14 by rw [← HNW.out]; exact hn14) (by omega))
    have HLW := Lib.hid (show W.length ≤ 1000 by rw [← HNW.out]; omega)
    have x0 := HQC.out.cell 0
    have f0 := HQC.out.frozen 0
    go_upto_region 11 with fail
    have HQ6 := Lib.hid (HQC.out.set 0 (.int .i64 (N + 1)))
    have HT7 := Lib.hid (HT5.out.setCell (p := ⟨gC, 0, none⟩) HGC.out (.int .i64 (N + 1)))
    obtain ⟨w6, hw6⟩ : ∃ W', W' = w5.setCell ⟨gC, 0, none⟩ (.int .i64 (N + 1)) := ⟨_, rfl⟩
    rw [← hw6] at HQ6 HT7 ⊢
    clear x0 f0 y0 y1 hw6
    refine wp_region_facts2U (by kernel_rfl) (by kernel_rfl) (by kernel_rfl) (by kernel_rfl) (by kernel_rfl) (ApK 3 1 eI5 w6 (fun i => ([some (.pointer (some ⟨gB, 1, none⟩)), some (.slice (some ⟨bWd, oWd, none⟩) nw c), none, some (.pointer (some ⟨gB, 0, none⟩)), some (.int .i64 N), some (.int .u8 kd), some (.int .u8 1), some (.int .i64 1), some (.int .i64 2), some (.int .i64 1), some (.int .i64 N), none, none, some (.pointer (some ⟨gC, 1, none⟩)), none] : List (Option Value)).getD i none) 2 11 12 14 (⟨gC, 1, none⟩) (W) ([N])) ApK.start ⟨?_, ?_, ?_, ?_, ?_, ?_, ?_, ?_, ?_, ?_, ?_, ?_, ?_, ?_, ?_, trivial⟩ ?_
    · intro D x w1 bA hI hD hdep hcl hb
      have hq1 : D 1 = false := by cases h : D 1 with | false => rfl | true => (have := hcl 1 h 0 (by decide); rw [hD] at this; cases this)
      have hq2 : D 2 = false := by cases h : D 2 with | false => rfl | true => (have := hcl 2 h 1 (by decide); rw [hq1] at this; cases this)
      have hq12 : D 12 = false := by cases h : D 12 with | false => rfl | true => (have := hcl 12 h 2 (by decide); rw [hq2] at this; cases this)
      have hqf : D 14 = false := by cases h : D 14 with | false => rfl | true => (have := hcl 14 h 12 (by decide); rw [hq12] at this; cases this)
      have hbel := hI.bel hqf
      have e3 : bA.tmps[3]?.getD undef = .pointer (some ⟨gB, 0, none⟩) := hb 3
      refine wp_of_run (.pointer (some ⟨gB, 1, none⟩)) (w' := w1) ?_ (hI.val rfl (by decide) (by decide) (by decide) (by decide))
      clear hb hI hdep hcl
      go_simp
    · intro D x w1 bA hI hD hdep hcl hb
      have hq2 : D 2 = false := by cases h : D 2 with | false => rfl | true => (have := hcl 2 h 1 (by decide); rw [hD] at this; cases this)
      have hq12 : D 12 = false := by cases h : D 12 with | false => rfl | true => (have := hcl 12 h 2 (by decide); rw [hq2] at this; cases this)
      have hqf : D 14 = false := by cases h : D 14 with | false => rfl | true => (have := hcl 14 h 12 (by decide); rw [hq12] at this; cases this)
      have hbel := hI.bel hqf
      have e69 : bA.tmps[69]?.getD undef = .pointer (some ⟨gB, 1, none⟩) := (hb 69).trans (hI.kn 0 _ rfl (hdep 0 (by decide)))
      have HCX := HKY.out w1 (HT7.out.trans (hbel.mono HT7.out.size))
      have cc1 := HCX.cell 1
      clear HCX
      refine wp_of_run (.slice (some ⟨bWd, oWd, none⟩) nw c) (w' := w1) ?_ (hI.val rfl (by decide) (by decide) (by decide) (by decide))
      clear hb hI hdep hcl
      go_simp
    · intro D x w1 bA hI hD hdep hcl hb
      have hq12 : D 12 = false := by cases h : D 12 with | false => rfl | true => (have := hcl 12 h 2 (by decide); rw [hD] at this; cases this)
      have hqf : D 14 = false := by cases h : D 14 with | false => rfl | true => (have := hcl 14 h 12 (by decide); rw [hq12] at this; cases this)
      have hbel := hI.bel hqf
      have e70 : bA.tmps[70]?.getD undef = .slice (some ⟨bWd, oWd, none⟩) nw c := (hb 70).trans (hI.kn 1 _ rfl (hdep 1 (by decide)))
      refine wp_of_callA ?_ (((clone6 (HH.out w1 (HBX.out w1 (HT7.out.trans (hbel.mono HT7.out.size)))) HLW.out)).mono (by rintro e w' ⟨v, rfl, hbw, hov⟩; exact ⟨_, rfl, hI.call rfl (by decide) (by decide) (by decide) hq12 hqf hbw hov⟩))
      clear hb hI hdep hcl
      go_simp
    · intro D x w1 bA hI hD hdep hcl hb
      have hq4 : D 4 = false := by cases h : D 4 with | false => rfl | true => (have := hcl 4 h 3 (by decide); rw [hD] at this; cases this)
      have hq10 : D 10 = false := by cases h : D 10 with | false => rfl | true => (have := hcl 10 h 4 (by decide); rw [hq4] at this; cases this)
      have hq11 : D 11 = false := by cases h : D 11 with | false => rfl | true => (have := hcl 11 h 10 (by decide); rw [hq10] at this; cases this)
      have hq12 : D 12 = false := by cases h : D 12 with | false => rfl | true => (have := hcl 12 h 11 (by decide); rw [hq11] at this; cases this)
      have hqf : D 14 = false := by cases h : D 14 with | false => rfl | true => (have := hcl 14 h 12 (by decide); rw [hq12] at this; cases this)
      have hbel := hI.bel hqf
      have e3 : bA.tmps[3]?.getD undef = .pointer (some ⟨gB, 0, none⟩) := hb 3
      refine wp_of_run (.pointer (some ⟨gB, 0, none⟩)) (w' := w1) ?_ (hI.val rfl (by decide) (by decide) (by decide) (by decide))
      clear hb hI hdep hcl
      go_simp
    · intro D x w1 bA hI hD hdep hcl hb
      have hq10 : D 10 = false := by cases h : D 10 with | false => rfl | true => (have := hcl 10 h 4 (by decide); rw [hD] at this; cases this)
      have hq11 : D 11 = false := by cases h : D 11 with | false => rfl | true => (have := hcl 11 h 10 (by decide); rw [hq10] at this; cases this)
      have hq12 : D 12 = false := by cases h : D 12 with | false => rfl | true => (have := hcl 12 h 11 (by decide); rw [hq11] at this; cases this)
      have hqf : D 14 = false := by cases h : D 14 with | false => rfl | true => (have := hcl 14 h 12 (by decide); rw [hq12] at this; cases this)
      have hbel := hI.bel hqf
      have e72 : bA.tmps[72]?.getD undef = .pointer (some ⟨gB, 0, none⟩) := (hb 72).trans (hI.kn 3 _ rfl (hdep 3 (by decide)))
      have HCX := HKY.out w1 (HT7.out.trans (hbel.mono HT7.out.size))
      have cc0 := HCX.cell 0
      clear HCX
      refine wp_of_run (.int .i64 N) (w' := w1) ?_ (hI.val rfl (by decide) (by decide) (by decide) (by decide))
      clear hb hI hdep hcl
      go_simp
    · intro D x w1 bA hI hD hdep hcl hb
      have e2 : bA.tmps[2]?.getD undef = .int .u8 kd := hb 2
      refine wp_of_run (.int .u8 kd) (w' := w1) ?_ (hI.val rfl (by decide) (by decide) (by decide) (by decide))
      clear hb hI hdep hcl
      go_simp
    · intro D x w1 bA hI hD hdep hcl hb
      have e74 : bA.tmps[74]?.getD undef = .int .u8 kd := (hb 74).trans (hI.kn 5 _ rfl (hdep 5 (by decide)))
      refine wp_of_run (.int .u8 1) (w' := w1) ?_ (hI.val rfl (by decide) (by decide) (by decide) (by decide))
      clear hb hI hdep hcl
      go_simp
    · intro D x w1 bA hI hD hdep hcl hb
      have e75 : bA.tmps[75]?.getD undef = .int .u8 1 := (hb 75).trans (hI.kn 6 _ rfl (hdep 6 (by decide)))
      have wq : IntKind.i64.wrap 1 = 1 := by decide
      refine wp_of_run (.int .i64 1) (w' := w1) ?_ (hI.val rfl (by decide) (by decide) (by decide) (by decide))
      clear hb hI hdep hcl
      go_simp
    · intro D x w1 bA hI hD hdep hcl hb
      have e76 : bA.tmps[76]?.getD undef = .int .i64 1 := (hb 76).trans (hI.kn 7 _ rfl (hdep 7 (by decide)))
      have wq : IntKind.i64.wrap 2 = 2 := by decide
      refine wp_of_run (.int .i64 2) (w' := w1) ?_ (hI.val rfl (by decide) (by decide) (by decide) (by decide))
      clear hb hI hdep hcl
      go_simp
    · intro D x w1 bA hI hD hdep hcl hb
      have e77 : bA.tmps[77]?.getD undef = .int .i64 2 := (hb 77).trans (hI.kn 8 _ rfl (hdep 8 (by decide)))
      have wq : IntKind.i64.wrap 1 = 1 := by decide
      refine wp_of_run (.int .i64 1) (w' := w1) ?_ (hI.val rfl (by decide) (by decide) (by decide) (by decide))
      clear hb hI hdep hcl
      go_simp
    · intro D x w1 bA hI hD hdep hcl hb
      have e73 : bA.tmps[73]?.getD undef = .int .i64 N := (hb 73).trans (hI.kn 4 _ rfl (hdep 4 (by decide)))
      have e78 : bA.tmps[78]?.getD undef = .int .i64 1 := (hb 78).trans (hI.kn 9 _ rfl (hdep 9 (by decide)))
      have wz : IntKind.i64.wrap N = N := IntWalk.i64_in _ (by omega)
      refine wp_of_run (.int .i64 N) (w' := w1) ?_ (hI.val rfl (by decide) (by decide) (by decide) (by decide))
      clear hb hI hdep hcl
      go_simp
    · intro D x w1 bA hI hD hdep hcl hb
      have hq12 : D 12 = false := by cases h : D 12 with | false => rfl | true => (have := hcl 12 h 11 (by decide); rw [hD] at this; cases this)
      have hqf : D 14 = false := by cases h : D 14 with | false => rfl | true => (have := hcl 14 h 12 (by decide); rw [hq12] at this; cases this)
      have e79 : bA.tmps[79]?.getD undef = .int .i64 N := (hb 79).trans (hI.kn 10 _ rfl (hdep 10 (by decide)))
      refine wp_of_run (.slice (some ⟨w1.heap.size, 0, none⟩) 1 1) (w' := w1.alloc (.cells #[.int .i64 N] 3)) ?_ (hI.make rfl (by decide) (by decide) (by decide) hq12 hqf ((Below.refl _ _).alloc (Nat.le_refl _) _) (OwnA.lit (xs := [N]) (fun y _ => elI5.len y) (Nat.le_refl _) (by simp) (by simp)))
      clear hb hI hdep hcl
      go_simp
    · intro D x w1 bA hI hD hdep hcl hb
      have hqf : D 14 = false := by cases h : D 14 with | false => rfl | true => (have := hcl 14 h 12 (by decide); rw [hD] at this; cases this)
      have e71 : bA.tmps[71]?.getD undef = x 2 := hb 71
      have e80 : bA.tmps[80]?.getD undef = x 11 := hb 80
      exact hI.app elI5 (.tmp 71) (.tmp 80) 22 22 rfl Tryz.underlying22 Tryz.underlying22 rfl (by decide) (by decide) (by decide) (hdep 2 (by decide)) (hdep 11 (by decide)) hD hqf (by simpa [Act.eval] using e71) (by simpa [Act.eval] using e80) (by have := HLW.out; simp; omega)
    · intro D x w1 bA hI hD hdep hcl hb
      have e7 : bA.tmps[7]?.getD undef = .pointer (some ⟨gC, 0, none⟩) := hb 7
      refine wp_of_run (.pointer (some ⟨gC, 1, none⟩)) (w' := w1) ?_ (hI.val rfl (by decide) (by decide) (by decide) (by decide))
      clear hb hI hdep hcl
      go_simp
    · intro D x w1 bA hI hD hdep hcl hb
      have hda : D 12 = true := hdep 12 (by decide)
      have e82 : bA.tmps[82]?.getD undef = .pointer (some ⟨gC, 1, none⟩) := (hb 82).trans (hI.kn 13 _ rfl (hdep 13 (by decide)))
      have e81 : bA.tmps[81]?.getD undef = x 12 := hb 81
      have hst := hI.store rfl hda hD undef
      have hbel := hI.bel hD
      have qarr := (HQ6.out).below hbel (HQ6.out).lt
      have qy := qarr.cell 1
      have qf := qarr.frozen 1
      obtain ⟨AF, cF, eF⟩ := (hI.mid hda hD).form
      generalize x 12 = xA at *
      subst eF
      refine wp_of_skip ?_ hst
      clear hb hI hdep hcl hst qarr
      go_simp
    intro D x w1 hI hall
    obtain ⟨wS, vZ, hwS, hownS, hbelS⟩ := hI.fin (hall 14 (by simp))
    have x0e : x 0 = .pointer (some ⟨gB, 1, none⟩) := hI.kn 0 _ rfl (hall 0 (by simp))
    have x1e : x 1 = .slice (some ⟨bWd, oWd, none⟩) nw c := hI.kn 1 _ rfl (hall 1 (by simp))
    have x3e : x 3 = .pointer (some ⟨gB, 0, none⟩) := hI.kn 3 _ rfl (hall 3 (by simp))
    have x4e : x 4 = .int .i64 N := hI.kn 4 _ rfl (hall 4 (by simp))
    have x5e : x 5 = .int .u8 kd := hI.kn 5 _ rfl (hall 5 (by simp))
    have x6e : x 6 = .int .u8 1 := hI.kn 6 _ rfl (hall 6 (by simp))
    have x7e : x 7 = .int .i64 1 := hI.kn 7 _ rfl (hall 7 (by simp))
    have x8e : x 8 = .int .i64 2 := hI.kn 8 _ rfl (hall 8 (by simp))
    have x9e : x 9 = .int .i64 1 := hI.kn 9 _ rfl (hall 9 (by simp))
    have x10e : x 10 = .int .i64 N := hI.kn 10 _ rfl (hall 10 (by simp))
    have x13e : x 13 = .pointer (some ⟨gC, 1, none⟩) := hI.kn 13 _ rfl (hall 13 (by simp))
    simp only [putAll, dstOf, Act.put, List.map_cons, List.map_nil, List.setIfInBounds_toArray, List.set_cons_succ, List.set_cons_zero, Nat.reduceAdd, x0e, x1e, x3e, x4e, x5e, x6e, x7e, x8e, x9e, x10e, x13e]
    clear x0e x1e x3e x4e x5e x6e x7e x8e x9e x10e x13e hI hall
    generalize x 12 = xA, x 11 = xC, x 2 = xK
    have HG6 := Lib.hid HQ6.out.lt
    have HQS := Lib.hid (HQ6.out.below hbelS HQ6.out.lt)
    have HBS := Lib.hid ((HT7.out.trans (hbelS.mono HT7.out.size)).setCell (p := ⟨gC, 1, none⟩) HGC.out vZ)
    have HO9 := Lib.hid (hownS.far6 (p := ⟨gC, 1, none⟩) (ne_block hownS HQS.out (by decide)) vZ)
    have HAC := Lib.hid (HQS.out.set 1 vZ)
    subst hwS
    obtain ⟨wT, hwT⟩ : ∃ W', W' = wS.setCell ⟨gC, 1, none⟩ vZ := ⟨_, rfl⟩
    rw [← hwT] at HBS HO9 HAC ⊢
    clear hwT hownS hbelS HQS
    obtain ⟨A9, c9, hv9⟩ := HO9.out.form
    obtain ⟨n9, hn9⟩ : ∃ n, n = (W ++ [N]).length := ⟨_, rfl⟩
    rw [← hn9] at hv9
    subst hv9
    have HI9 := Lib.hid (own5_ints HO9.out)
    clear hn9
    rename_i wS0
    generalize wT = wS at *
    have hS := HBS.out
    have y0 := (HKY.out wS hS).cell 0
    have y1 := (HKY.out wS hS).cell 1
    have HMB := Lib.hid (matrix_ok (HH.out wS (HBX.out wS hS)) (by have := HNW.out; omega) (by omega) HBV.out HCB.out HLN.out)
    clear hS
    go_wp2_with fail
    refine HMB.out.mono ?_
    rintro e wm ⟨hbm, Am, nm, cm, rfl, hmm⟩
    have HMM := Lib.hid hmm
    have HBM := Lib.hid hbm
    have HSM := Lib.hid (HBS.out.trans (hbm.mono HBS.out.size))
    clear y0 y1 HMB hmm hbm
    have qc := HAC.out.below HBM.out HAC.out.lt
    have x0 := qc.cell 0
    have x1 := qc.cell 1
    have HMC := Lib.hid (matrix_ok (HI9.out.below HBM.out) (by have := (brV_iff.1 HMV.out.1).2.2.1; omega) (by omega) HMV.out.1 HMV.out.2.1 (by rw [HMV.out.2.2.1]; exact HLN.out))
    clear qc
    go_wp2_with fail
    refine HMC.out.mono ?_
    rintro e wn ⟨hbn, An, nn, cn, rfl, hnn⟩
    have HNM := Lib.hid (hnn)
    have HMN := Lib.hid (HMM.out.below hbn)
    have HSN := Lib.hid (HSM.out.trans (hbn.mono HSM.out.size))
    have HAP := Lib.hid (alex_ok HMN.out HLN.out (HT6.out _ (HBX.out _ HSN.out)))
    clear x0 x1 HMC hnn hbn
    go_wp2_with fail
    refine HAP.out.mono ?_
    rintro e wp_ ⟨hbp, bp, Ap, np, cp, gp, rfl, hp⟩
    have HPP := Lib.hid hp
    have HNP := Lib.hid (HNM.out.below hbp)
    have HSP := Lib.hid (HSN.out.trans (hbp.mono HSN.out.size))
    have hal := (Below.refl wp_.heap.size wp_).alloc (Nat.le_refl _) (.cells #[.bool bp, .slice Ap np cp] 40)
    have HQP := Lib.hid (show Arr (wp_.alloc (.cells #[.bool bp, .slice Ap np cp] 40)) wp_.heap.size 40 [.bool bp, .slice Ap np cp] from Arr.new wp_ _ [_, _])
    have HBA := Lib.hid hal
    have HSA := Lib.hid (HSP.out.trans (hal.mono HSP.out.size))
    clear hp hbp hal HAP
    go_upto_region 21 with fail
    obtain ⟨wa, hwa⟩ : ∃ W', W' = wp_.alloc (.cells #[.bool bp, .slice Ap np cp] 40) := ⟨_, rfl⟩
    rw [← hwa] at HQP HBA HSA ⊢
    obtain ⟨gP, hgP⟩ : ∃ g, g = wp_.heap.size := ⟨_, rfl⟩
    rw [← hgP] at HQP ⊢
    clear hwa hgP
    have HAQ := Lib.hid (alex_ok (HNP.out.below HBA.out) (by rw [HMV.out.2.2.1]; exact HLN.out) (HT6.out _ (HBX.out _ HSA.out)))
    go_wp2_with fail
    refine HAQ.out.mono ?_
    rintro e wq ⟨hbq, bq, Aq, nq, cq, gq, rfl, hq⟩
    have HQQ := Lib.hid hq
    have HBQ := Lib.hid hbq
    have HSQ := Lib.hid (HSA.out.trans (hbq.mono HSA.out.size))
    have hal := (Below.refl wq.heap.size wq).alloc (Nat.le_refl _) (.cells #[.bool bq, .slice Aq nq cq] 40)
    have HQR := Lib.hid (show Arr (wq.alloc (.cells #[.bool bq, .slice Aq nq cq] 40)) wq.heap.size 40 [.bool bq, .slice Aq nq cq] from Arr.new wq _ [_, _])
    have HBR := Lib.hid hal
    have HSR := Lib.hid (HSQ.out.trans (hal.mono HSQ.out.size))
    clear hq hbq hal HAQ
    go_upto_region 22 with fail
    obtain ⟨wr, hwr⟩ : ∃ W', W' = wq.alloc (.cells #[.bool bq, .slice Aq nq cq] 40) := ⟨_, rfl⟩
    rw [← hwr] at HQR HBR HSR ⊢
    obtain ⟨gQ, hgQ⟩ : ∃ g, g = wq.heap.size := ⟨_, rfl⟩
    rw [← hgQ] at HQR ⊢
    clear hwr hgQ
    have hpp := HPP.out
    rcases hpp with rfl | ⟨rfl, D, hpv, cD, lD, D0, hD⟩
    · go_wp2_with fail
      go_ret
      exact ⟨rfl, HBX.out _ HSR.out⟩
    have hqq := HQQ.out
    rcases hqq with rfl | ⟨rfl, F, hqv, cF, lF, F0, hF⟩
    · clear hpv cD lD D0 hD
      go_wp2_with fail
      go_ret
      exact ⟨rfl, HBX.out _ HSR.out⟩
    have hbe := HBQ.out.trans (HBR.out.mono HBQ.out.size)
    have hsame : norP (some F) = norP (some D) := by
      have k1 : (sfM W (lsF N W)).length ≤ 13 := by rw [sfM_length]; exact HLN.out
      rcases HMV.out.2.2.2 with hx | ⟨τ, ht, hx⟩
      · exact (nor_same k1 cD D0 hD cF F0 hF (.inl rfl) fun x h1 => by rw [detE_DW, detE_DW, hx x h1, Int.one_mul]).1
      · exact (nor_same k1 cD D0 hD cF F0 hF ht fun x h1 => by rw [detE_DW, detE_DW, hx x h1]).1
    have HEQ := Lib.hid ((Equal_any (.agg #[.bool bp, .slice Ap np cp]) (.agg #[.bool bq, .slice Aq nq cq]) (norP (some D)) (norP (some F)) wr (hpv.below (HBA.out.trans (hbe.mono HBA.out.size))) (hqv.below HBR.out) (okP_nor cD lD) (okP_nor cF lF)).mono fun e w' h => show e = .returned (.bool true) ∧ Below wr.heap.size wr w' from ⟨by rw [h.1, hsame]; simp [eqP], h.2⟩)
    have qp := HQP.out.below hbe HQP.out.lt
    have x0 := qp.cell 0
    have x1 := qp.cell 1
    have x2 := HQR.out.cell 0
    have x3 := HQR.out.cell 1
    clear hbe hsame hpv cD lD D0 hD hqv cF lF F0 hF qp
    go_wp2_with (go_at_call 16; refine HEQ.out.mono ?_; rintro e wz ⟨rfl, hbz⟩)
    go_ret
    exact ⟨rfl, HBX.out _ (HSR.out.trans (hbz.mono HSR.out.size))⟩
  · -- a strand more
    have HMV := Lib.hid (mv_more (z := (-N)) HBV.out HCB.out (show N < 10 by omega) (show W.length ≤ 14 by rw [← HNW.out]; exact hn14) (by omega))
    have HLW := Lib.hid (show W.length ≤ 1000 by rw [← HNW.out]; omega)
    have x0 := HQC.out.cell 0
    have f0 := HQC.out.frozen 0
    go_upto_region 11 with fail
    have HQ6 := Lib.hid (HQC.out.set 0 (.int .i64 (N + 1)))
    have HT7 := Lib.hid (HT5.out.setCell (p := ⟨gC, 0, none⟩) HGC.out (.int .i64 (N + 1)))
    obtain ⟨w6, hw6⟩ : ∃ W', W' = w5.setCell ⟨gC, 0, none⟩ (.int .i64 (N + 1)) := ⟨_, rfl⟩
    rw [← hw6] at HQ6 HT7 ⊢
    clear x0 f0 y0 y1 hw6
    refine wp_region_facts2U (by kernel_rfl) (by kernel_rfl) (by kernel_rfl) (by kernel_rfl) (by kernel_rfl) (ApK 3 1 eI5 w6 (fun i => ([some (.pointer (some ⟨gB, 1, none⟩)), some (.slice (some ⟨bWd, oWd, none⟩) nw c), none, some (.pointer (some ⟨gB, 0, none⟩)), some (.int .i64 N), some (.int .u8 kd), some (.int .u8 2), some (.int .i64 2), some (.int .i64 4), some (.int .i64 (-1)), some (.int .i64 (-N)), none, none, some (.pointer (some ⟨gC, 1, none⟩)), none] : List (Option Value)).getD i none) 2 11 12 14 (⟨gC, 1, none⟩) (W) ([(-N)])) ApK.start ⟨?_, ?_, ?_, ?_, ?_, ?_, ?_, ?_, ?_, ?_, ?_, ?_, ?_, ?_, ?_, trivial⟩ ?_
    · intro D x w1 bA hI hD hdep hcl hb
      have hq1 : D 1 = false := by cases h : D 1 with | false => rfl | true => (have := hcl 1 h 0 (by decide); rw [hD] at this; cases this)
      have hq2 : D 2 = false := by cases h : D 2 with | false => rfl | true => (have := hcl 2 h 1 (by decide); rw [hq1] at this; cases this)
      have hq12 : D 12 = false := by cases h : D 12 with | false => rfl | true => (have := hcl 12 h 2 (by decide); rw [hq2] at this; cases this)
      have hqf : D 14 = false := by cases h : D 14 with | false => rfl | true => (have := hcl 14 h 12 (by decide); rw [hq12] at this; cases this)
      have hbel := hI.bel hqf
      have e3 : bA.tmps[3]?.getD undef = .pointer (some ⟨gB, 0, none⟩) := hb 3
      refine wp_of_run (.pointer (some ⟨gB, 1, none⟩)) (w' := w1) ?_ (hI.val rfl (by decide) (by decide) (by decide) (by decide))
      clear hb hI hdep hcl
      go_simp
    · intro D x w1 bA hI hD hdep hcl hb
      have hq2 : D 2 = false := by cases h : D 2 with | false => rfl | true => (have := hcl 2 h 1 (by decide); rw [hD] at this; cases this)
      have hq12 : D 12 = false := by cases h : D 12 with | false => rfl | true => (have := hcl 12 h 2 (by decide); rw [hq2] at this; cases this)
      have hqf : D 14 = false := by cases h : D 14 with | false => rfl | true => (have := hcl 14 h 12 (by decide); rw [hq12] at this; cases this)
      have hbel := hI.bel hqf
      have e69 : bA.tmps[69]?.getD undef = .pointer (some ⟨gB, 1, none⟩) := (hb 69).trans (hI.kn 0 _ rfl (hdep 0 (by decide)))
      have HCX := HKY.out w1 (HT7.out.trans (hbel.mono HT7.out.size))
      have cc1 := HCX.cell 1
      clear HCX
      refine wp_of_run (.slice (some ⟨bWd, oWd, none⟩) nw c) (w' := w1) ?_ (hI.val rfl (by decide) (by decide) (by decide) (by decide))
      clear hb hI hdep hcl
      go_simp
    · intro D x w1 bA hI hD hdep hcl hb
      have hq12 : D 12 = false := by cases h : D 12 with | false => rfl | true => (have := hcl 12 h 2 (by decide); rw [hD] at this; cases this)
      have hqf : D 14 = false := by cases h : D 14 with | false => rfl | true => (have := hcl 14 h 12 (by decide); rw [hq12] at this; cases this)
      have hbel := hI.bel hqf
      have e70 : bA.tmps[70]?.getD undef = .slice (some ⟨bWd, oWd, none⟩) nw c := (hb 70).trans (hI.kn 1 _ rfl (hdep 1 (by decide)))
      refine wp_of_callA ?_ (((clone6 (HH.out w1 (HBX.out w1 (HT7.out.trans (hbel.mono HT7.out.size)))) HLW.out)).mono (by rintro e w' ⟨v, rfl, hbw, hov⟩; exact ⟨_, rfl, hI.call rfl (by decide) (by decide) (by decide) hq12 hqf hbw hov⟩))
      clear hb hI hdep hcl
      go_simp
    · intro D x w1 bA hI hD hdep hcl hb
      have hq4 : D 4 = false := by cases h : D 4 with | false => rfl | true => (have := hcl 4 h 3 (by decide); rw [hD] at this; cases this)
      have hq10 : D 10 = false := by cases h : D 10 with | false => rfl | true => (have := hcl 10 h 4 (by decide); rw [hq4] at this; cases this)
      have hq11 : D 11 = false := by cases h : D 11 with | false => rfl | true => (have := hcl 11 h 10 (by decide); rw [hq10] at this; cases this)
      have hq12 : D 12 = false := by cases h : D 12 with | false => rfl | true => (have := hcl 12 h 11 (by decide); rw [hq11] at this; cases this)
      have hqf : D 14 = false := by cases h : D 14 with | false => rfl | true => (have := hcl 14 h 12 (by decide); rw [hq12] at this; cases this)
      have hbel := hI.bel hqf
      have e3 : bA.tmps[3]?.getD undef = .pointer (some ⟨gB, 0, none⟩) := hb 3
      refine wp_of_run (.pointer (some ⟨gB, 0, none⟩)) (w' := w1) ?_ (hI.val rfl (by decide) (by decide) (by decide) (by decide))
      clear hb hI hdep hcl
      go_simp
    · intro D x w1 bA hI hD hdep hcl hb
      have hq10 : D 10 = false := by cases h : D 10 with | false => rfl | true => (have := hcl 10 h 4 (by decide); rw [hD] at this; cases this)
      have hq11 : D 11 = false := by cases h : D 11 with | false => rfl | true => (have := hcl 11 h 10 (by decide); rw [hq10] at this; cases this)
      have hq12 : D 12 = false := by cases h : D 12 with | false => rfl | true => (have := hcl 12 h 11 (by decide); rw [hq11] at this; cases this)
      have hqf : D 14 = false := by cases h : D 14 with | false => rfl | true => (have := hcl 14 h 12 (by decide); rw [hq12] at this; cases this)
      have hbel := hI.bel hqf
      have e72 : bA.tmps[72]?.getD undef = .pointer (some ⟨gB, 0, none⟩) := (hb 72).trans (hI.kn 3 _ rfl (hdep 3 (by decide)))
      have HCX := HKY.out w1 (HT7.out.trans (hbel.mono HT7.out.size))
      have cc0 := HCX.cell 0
      clear HCX
      refine wp_of_run (.int .i64 N) (w' := w1) ?_ (hI.val rfl (by decide) (by decide) (by decide) (by decide))
      clear hb hI hdep hcl
      go_simp
    · intro D x w1 bA hI hD hdep hcl hb
      have e2 : bA.tmps[2]?.getD undef = .int .u8 kd := hb 2
      refine wp_of_run (.int .u8 kd) (w' := w1) ?_ (hI.val rfl (by decide) (by decide) (by decide) (by decide))
      clear hb hI hdep hcl
      go_simp
    · intro D x w1 bA hI hD hdep hcl hb
      have e74 : bA.tmps[74]?.getD undef = .int .u8 kd := (hb 74).trans (hI.kn 5 _ rfl (hdep 5 (by decide)))
      refine wp_of_run (.int .u8 2) (w' := w1) ?_ (hI.val rfl (by decide) (by decide) (by decide) (by decide))
      clear hb hI hdep hcl
      go_simp
    · intro D x w1 bA hI hD hdep hcl hb
      have e75 : bA.tmps[75]?.getD undef = .int .u8 2 := (hb 75).trans (hI.kn 6 _ rfl (hdep 6 (by decide)))
      have wq : IntKind.i64.wrap 2 = 2 := by decide
      refine wp_of_run (.int .i64 2) (w' := w1) ?_ (hI.val rfl (by decide) (by decide) (by decide) (by decide))
      clear hb hI hdep hcl
      go_simp
    · intro D x w1 bA hI hD hdep hcl hb
      have e76 : bA.tmps[76]?.getD undef = .int .i64 2 := (hb 76).trans (hI.kn 7 _ rfl (hdep 7 (by decide)))
      have wq : IntKind.i64.wrap 4 = 4 := by decide
      refine wp_of_run (.int .i64 4) (w' := w1) ?_ (hI.val rfl (by decide) (by decide) (by decide) (by decide))
      clear hb hI hdep hcl
      go_simp
    · intro D x w1 bA hI hD hdep hcl hb
      have e77 : bA.tmps[77]?.getD undef = .int .i64 4 := (hb 77).trans (hI.kn 8 _ rfl (hdep 8 (by decide)))
      have wq : IntKind.i64.wrap (-1) = (-1) := by decide
      refine wp_of_run (.int .i64 (-1)) (w' := w1) ?_ (hI.val rfl (by decide) (by decide) (by decide) (by decide))
      clear hb hI hdep hcl
      go_simp
    · intro D x w1 bA hI hD hdep hcl hb
      have e73 : bA.tmps[73]?.getD undef = .int .i64 N := (hb 73).trans (hI.kn 4 _ rfl (hdep 4 (by decide)))
      have e78 : bA.tmps[78]?.getD undef = .int .i64 (-1) := (hb 78).trans (hI.kn 9 _ rfl (hdep 9 (by decide)))
      have wz : IntKind.i64.wrap (-N) = -N := IntWalk.i64_in _ (by omega)
      refine wp_of_run (.int .i64 (-N)) (w' := w1) ?_ (hI.val rfl (by decide) (by decide) (by decide) (by decide))
      clear hb hI hdep hcl
      go_simp
    · intro D x w1 bA hI hD hdep hcl hb
      have hq12 : D 12 = false := by cases h : D 12 with | false => rfl | true => (have := hcl 12 h 11 (by decide); rw [hD] at this; cases this)
      have hqf : D 14 = false := by cases h : D 14 with | false => rfl | true => (have := hcl 14 h 12 (by decide); rw [hq12] at this; cases this)
      have e79 : bA.tmps[79]?.getD undef = .int .i64 (-N) := (hb 79).trans (hI.kn 10 _ rfl (hdep 10 (by decide)))
      refine wp_of_run (.slice (some ⟨w1.heap.size, 0, none⟩) 1 1) (w' := w1.alloc (.cells #[.int .i64 (-N)] 3)) ?_ (hI.make rfl (by decide) (by decide) (by decide) hq12 hqf ((Below.refl _ _).alloc (Nat.le_refl _) _) (OwnA.lit (xs := [(-N)]) (fun y _ => elI5.len y) (Nat.le_refl _) (by simp) (by simp)))
      clear hb hI hdep hcl
      go_simp
    · intro D x w1 bA hI hD hdep hcl hb
      have hqf : D 14 = false := by cases h : D 14 with | false => rfl | true => (have := hcl 14 h 12 (by decide); rw [hD] at this; cases this)
      have e71 : bA.tmps[71]?.getD undef = x 2 := hb 71
      have e80 : bA.tmps[80]?.getD undef = x 11 := hb 80
      exact hI.app elI5 (.tmp 71) (.tmp 80) 22 22 rfl Tryz.underlying22 Tryz.underlying22 rfl (by decide) (by decide) (by decide) (hdep 2 (by decide)) (hdep 11 (by decide)) hD hqf (by simpa [Act.eval] using e71) (by simpa [Act.eval] using e80) (by have := HLW.out; simp; omega)
    · intro D x w1 bA hI hD hdep hcl hb
      have e7 : bA.tmps[7]?.getD undef = .pointer (some ⟨gC, 0, none⟩) := hb 7
      refine wp_of_run (.pointer (some ⟨gC, 1, none⟩)) (w' := w1) ?_ (hI.val rfl (by decide) (by decide) (by decide) (by decide))
      clear hb hI hdep hcl
      go_simp
    · intro D x w1 bA hI hD hdep hcl hb
      have hda : D 12 = true := hdep 12 (by decide)
      have e82 : bA.tmps[82]?.getD undef = .pointer (some ⟨gC, 1, none⟩) := (hb 82).trans (hI.kn 13 _ rfl (hdep 13 (by decide)))
      have e81 : bA.tmps[81]?.getD undef = x 12 := hb 81
      have hst := hI.store rfl hda hD undef
      have hbel := hI.bel hD
      have qarr := (HQ6.out).below hbel (HQ6.out).lt
      have qy := qarr.cell 1
      have qf := qarr.frozen 1
      obtain ⟨AF, cF, eF⟩ := (hI.mid hda hD).form
      generalize x 12 = xA at *
      subst eF
      refine wp_of_skip ?_ hst
      clear hb hI hdep hcl hst qarr
      go_simp
    intro D x w1 hI hall
    obtain ⟨wS, vZ, hwS, hownS, hbelS⟩ := hI.fin (hall 14 (by simp))
    have x0e : x 0 = .pointer (some ⟨gB, 1, none⟩) := hI.kn 0 _ rfl (hall 0 (by simp))
    have x1e : x 1 = .slice (some ⟨bWd, oWd, none⟩) nw c := hI.kn 1 _ rfl (hall 1 (by simp))
    have x3e : x 3 = .pointer (some ⟨gB, 0, none⟩) := hI.kn 3 _ rfl (hall 3 (by simp))
    have x4e : x 4 = .int .i64 N := hI.kn 4 _ rfl (hall 4 (by simp))
    have x5e : x 5 = .int .u8 kd := hI.kn 5 _ rfl (hall 5 (by simp))
    have x6e : x 6 = .int .u8 2 := hI.kn 6 _ rfl (hall 6 (by simp))
    have x7e : x 7 = .int .i64 2 := hI.kn 7 _ rfl (hall 7 (by simp))
    have x8e : x 8 = .int .i64 4 := hI.kn 8 _ rfl (hall 8 (by simp))
    have x9e : x 9 = .int .i64 (-1) := hI.kn 9 _ rfl (hall 9 (by simp))
    have x10e : x 10 = .int .i64 (-N) := hI.kn 10 _ rfl (hall 10 (by simp))
    have x13e : x 13 = .pointer (some ⟨gC, 1, none⟩) := hI.kn 13 _ rfl (hall 13 (by simp))
    simp only [putAll, dstOf, Act.put, List.map_cons, List.map_nil, List.setIfInBounds_toArray, List.set_cons_succ, List.set_cons_zero, Nat.reduceAdd, x0e, x1e, x3e, x4e, x5e, x6e, x7e, x8e, x9e, x10e, x13e]
    clear x0e x1e x3e x4e x5e x6e x7e x8e x9e x10e x13e hI hall
    generalize x 12 = xA, x 11 = xC, x 2 = xK
    have HG6 := Lib.hid HQ6.out.lt
    have HQS := Lib.hid (HQ6.out.below hbelS HQ6.out.lt)
    have HBS := Lib.hid ((HT7.out.trans (hbelS.mono HT7.out.size)).setCell (p := ⟨gC, 1, none⟩) HGC.out vZ)
    have HO9 := Lib.hid (hownS.far6 (p := ⟨gC, 1, none⟩) (ne_block hownS HQS.out (by decide)) vZ)
    have HAC := Lib.hid (HQS.out.set 1 vZ)
    subst hwS
    obtain ⟨wT, hwT⟩ : ∃ W', W' = wS.setCell ⟨gC, 1, none⟩ vZ := ⟨_, rfl⟩
    rw [← hwT] at HBS HO9 HAC ⊢
    clear hwT hownS hbelS HQS
    obtain ⟨A9, c9, hv9⟩ := HO9.out.form
    obtain ⟨n9, hn9⟩ : ∃ n, n = (W ++ [(-N)]).length := ⟨_, rfl⟩
    rw [← hn9] at hv9
    subst hv9
    have HI9 := Lib.hid (own5_ints HO9.out)
    clear hn9
    rename_i wS0
    generalize wT = wS at *
    have hS := HBS.out
    have y0 := (HKY.out wS hS).cell 0
    have y1 := (HKY.out wS hS).cell 1
    have HMB := Lib.hid (matrix_ok (HH.out wS (HBX.out wS hS)) (by have := HNW.out; omega) (by omega) HBV.out HCB.out HLN.out)
    clear hS
    go_wp2_with fail
    refine HMB.out.mono ?_
    rintro e wm ⟨hbm, Am, nm, cm, rfl, hmm⟩
    have HMM := Lib.hid hmm
    have HBM := Lib.hid hbm
    have HSM := Lib.hid (HBS.out.trans (hbm.mono HBS.out.size))
    clear y0 y1 HMB hmm hbm
    have qc := HAC.out.below HBM.out HAC.out.lt
    have x0 := qc.cell 0
    have x1 := qc.cell 1
    have HMC := Lib.hid (matrix_ok (HI9.out.below HBM.out) (by have := (brV_iff.1 HMV.out.1).2.2.1; omega) (by omega) HMV.out.1 HMV.out.2.1 (by rw [HMV.out.2.2.1]; exact HLN.out))
    clear qc
    go_wp2_with fail
    refine HMC.out.mono ?_
    rintro e wn ⟨hbn, An, nn, cn, rfl, hnn⟩
    have HNM := Lib.hid (hnn)
    have HMN := Lib.hid (HMM.out.below hbn)
    have HSN := Lib.hid (HSM.out.trans (hbn.mono HSM.out.size))
    have HAP := Lib.hid (alex_ok HMN.out HLN.out (HT6.out _ (HBX.out _ HSN.out)))
    clear x0 x1 HMC hnn hbn
    go_wp2_with fail
    refine HAP.out.mono ?_
    rintro e wp_ ⟨hbp, bp, Ap, np, cp, gp, rfl, hp⟩
    have HPP := Lib.hid hp
    have HNP := Lib.hid (HNM.out.below hbp)
    have HSP := Lib.hid (HSN.out.trans (hbp.mono HSN.out.size))
    have hal := (Below.refl wp_.heap.size wp_).alloc (Nat.le_refl _) (.cells #[.bool bp, .slice Ap np cp] 40)
    have HQP := Lib.hid (show Arr (wp_.alloc (.cells #[.bool bp, .slice Ap np cp] 40)) wp_.heap.size 40 [.bool bp, .slice Ap np cp] from Arr.new wp_ _ [_, _])
    have HBA := Lib.hid hal
    have HSA := Lib.hid (HSP.out.trans (hal.mono HSP.out.size))
    clear hp hbp hal HAP
    go_upto_region 21 with fail
    obtain ⟨wa, hwa⟩ : ∃ W', W' = wp_.alloc (.cells #[.bool bp, .slice Ap np cp] 40) := ⟨_, rfl⟩
    rw [← hwa] at HQP HBA HSA ⊢
    obtain ⟨gP, hgP⟩ : ∃ g, g = wp_.heap.size := ⟨_, rfl⟩
    rw [← hgP] at HQP ⊢
    clear hwa hgP
    have HAQ := Lib.hid (alex_ok (HNP.out.below HBA.out) (by rw [HMV.out.2.2.1]; exact HLN.out) (HT6.out _ (HBX.out _ HSA.out)))
    go_wp2_with fail
    refine HAQ.out.mono ?_
    rintro e wq ⟨hbq, bq, Aq, nq, cq, gq, rfl, hq⟩
    have HQQ := Lib.hid hq
    have HBQ := Lib.hid hbq
    have HSQ := Lib.hid (HSA.out.trans (hbq.mono HSA.out.size))
    have hal := (Below.refl wq.heap.size wq).alloc (Nat.le_refl _) (.cells #[.bool bq, .slice Aq nq cq] 40)
    have HQR := Lib.hid (show Arr (wq.alloc (.cells #[.bool bq, .slice Aq nq cq] 40)) wq.heap.size 40 [.bool bq, .slice Aq nq cq] from Arr.new wq _ [_, _])
    have HBR := Lib.hid hal
    have HSR := Lib.hid (HSQ.out.trans (hal.mono HSQ.out.size))
    clear hq hbq hal HAQ
    go_upto_region 22 with fail
    obtain ⟨wr, hwr⟩ : ∃ W', W' = wq.alloc (.cells #[.bool bq, .slice Aq nq cq] 40) := ⟨_, rfl⟩
    rw [← hwr] at HQR HBR HSR ⊢
    obtain ⟨gQ, hgQ⟩ : ∃ g, g = wq.heap.size := ⟨_, rfl⟩
    rw [← hgQ] at HQR ⊢
    clear hwr hgQ
    have hpp := HPP.out
    rcases hpp with rfl | ⟨rfl, D, hpv, cD, lD, D0, hD⟩
    · go_wp2_with fail
      go_ret
      exact ⟨rfl, HBX.out _ HSR.out⟩
    have hqq := HQQ.out
    rcases hqq with rfl | ⟨rfl, F, hqv, cF, lF, F0, hF⟩
    · clear hpv cD lD D0 hD
      go_wp2_with fail
      go_ret
      exact ⟨rfl, HBX.out _ HSR.out⟩
    have hbe := HBQ.out.trans (HBR.out.mono HBQ.out.size)
    have hsame : norP (some F) = norP (some D) := by
      have k1 : (sfM W (lsF N W)).length ≤ 13 := by rw [sfM_length]; exact HLN.out
      rcases HMV.out.2.2.2 with hx | ⟨τ, ht, hx⟩
      · exact (nor_same k1 cD D0 hD cF F0 hF (.inl rfl) fun x h1 => by rw [detE_DW, detE_DW, hx x h1, Int.one_mul]).1
      · exact (nor_same k1 cD D0 hD cF F0 hF ht fun x h1 => by rw [detE_DW, detE_DW, hx x h1]).1
    have HEQ := Lib.hid ((Equal_any (.agg #[.bool bp, .slice Ap np cp]) (.agg #[.bool bq, .slice Aq nq cq]) (norP (some D)) (norP (some F)) wr (hpv.below (HBA.out.trans (hbe.mono HBA.out.size))) (hqv.below HBR.out) (okP_nor cD lD) (okP_nor cF lF)).mono fun e w' h => show e = .returned (.bool true) ∧ Below wr.heap.size wr w' from ⟨by rw [h.1, hsame]; simp [eqP], h.2⟩)
    have qp := HQP.out.below hbe HQP.out.lt
    have x0 := qp.cell 0
    have x1 := qp.cell 1
    have x2 := HQR.out.cell 0
    have x3 := HQR.out.cell 1
    clear hbe hsame hpv cD lD D0 hD hqv cF lF F0 hF qp
    go_wp2_with (go_at_call 16; refine HEQ.out.mono ?_; rintro e wz ⟨rfl, hbz⟩)
    go_ret
    exact ⟨rfl, HBX.out _ (HSR.out.trans (hbz.mono HSR.out.size))⟩
  · -- all letters negated
    have HMV := Lib.hid (mv_neg HBV.out HCB.out)
    have HNL := Lib.hid (show (ng6 W).length = nw by rw [HNW.out]; simp [ng6])
    go_upto_region 14 with fail
    clear y0 y1
    go_loopg [10, 88] nw (fun gk s10 s88 wr => ∃ (jx : Nat) (v : Value), jx ≤ nw ∧ gk = nw - jx ∧ s88 = .int .i64 (jx : Int) ∧ Arr wr gC 24 [.int .i64 N, v] ∧ OwnA 3 1 eI5 w5.heap.size wr v ((ng6 W).take jx) ∧ Below w3.heap.size w3 wr ∧ w5.heap.size ≤ wr.heap.size)
    case atStart => exact ⟨0, _, by omega, rfl, rfl, HQC.out, OwnA.nil _ _ _ _ _, HT5.out, Nat.le_refl _⟩
    case round =>
      obtain ⟨jx, v9, hj, rfl, rfl, hq, ho, hb, hsz⟩ := hrel
      obtain ⟨wo, rfl⟩ : ∃ wo : World, wo = wr := ⟨_, rfl⟩
      obtain ⟨A9, c9, rfl⟩ := ho.form
      have hlen : ((ng6 W).take jx).length = jx := by rw [List.length_take, HNL.out]; omega
      rw [hlen] at ho hq
      have HO := Lib.hid ho
      have HQ9 := Lib.hid hq
      have HB9 := Lib.hid hb
      have HSZ := Lib.hid hsz
      clear ho hq hb hsz
      by_cases hjt : jx < nw
      · have z2 : (jx : Int) < (nw : Int) := by omega
        have hjw : jx < W.length := by rw [← HNW.out]; exact hjt
        have HTK := Lib.hid (show (ng6 W).take (jx + 1) = (ng6 W).take jx ++ [-W[jx]] by
          rw [List.take_succ_eq_append_getElem (by rw [HNL.out]; exact hjt)]
          simp [ng6])
        obtain ⟨b1, o1, hA1, hx1⟩ : ∃ b1 o1, some (⟨bWd, oWd, none⟩ : Addr) = some ⟨b1, o1, none⟩ ∧ wo.cell? ⟨b1, o1 + jx, none⟩ = some (.int .i64 W[jx]) := by
          obtain ⟨A0, c0, hv, -, hx⟩ := HH.out wo (HBX.out wo HB9.out)
          injection hv with e1 _ _
          subst e1
          obtain ⟨b, o, hA, hc⟩ := hx jx W[jx] (List.getElem?_eq_getElem hjw)
          exact ⟨b, o, hA, hc⟩
        injection hA1 with hA1
        injection hA1 with e1 e2
        subst e1; subst e2
        have hbd : -10 ≤ W[jx] ∧ W[jx] ≤ 10 := by have := (brV_iff.1 HBV.out).2.2.2 _ (List.getElem_mem hjw); omega
        generalize W[jx] = xl at *
        have x1 := HQ9.out.cell 1
        have hal := (Below.refl wo.heap.size wo).alloc (Nat.le_refl _) (.cells #[.int .i64 (-xl)] 3)
        have HS7 := Lib.hid (HO.out.below hal)
        have HSL := Lib.hid (sl5_one wo (-xl))
        have HB7 := Lib.hid (HB9.out.trans (hal.mono HB9.out.size))
        have HQ7 := Lib.hid (HQ9.out.below hal HQ9.out.lt)
        have HS2 := Lib.hid (show w5.heap.size ≤ (wo.alloc (.cells #[.int .i64 (-xl)] 3)).heap.size by have := HSZ.out; simp; omega)
        have HRL := Lib.hid (show ((ng6 W).take jx).length + [-xl].length ≤ 1000000000 by rw [hlen]; simp; omega)
        have HRK := Lib.hid hlen
        clear hal hlen hjw
        go_wp2_with (at_builtin; go_loud (refine wpList_appA rfl elI5 (.tmp 93) (.tmp 96) 22 22 rfl Tryz.underlying22 Tryz.underlying22 (by first | rfl | (simp [Act.eval]; exact HRK.out)) HS7.out rfl HSL.out HRL.out HS2.out ?_); go_loud (intro v' w8 h1 h2 h3 h4; have HO8 := Lib.hid h1; have HB8 := Lib.hid h2; have HQ8 := Lib.hid (HQ7.out.below h2 HG5.out); obtain ⟨A8, c8, e8⟩ := h1.form; obtain ⟨n8, hn8⟩ : ∃ n, n = ((ng6 W).take jx ++ [-xl]).length := ⟨_, rfl⟩; rw [← hn8] at e8; subst e8; clear h1 h2 h3 h4 hn8; have x1 := HQ8.out.cell 1; have f1 := HQ8.out.frozen 1))
        go_roundg (nw - (jx + 1))
        case measure => omega
        case rel => exact ⟨jx + 1, _, by omega, rfl, by go_num, HQ8.out.set 1 _, by rw [HTK.out]; exact HO8.out.far6 (ne_block HO8.out HQ8.out (by decide)) _, (HB7.out.trans ((HB8.out).mono (Nat.le_trans HT5.out.size (Nat.le_refl _)))).setCell (p := ⟨gC, 1, none⟩) HGC.out _, by have := HB8.out.size; have := HS2.out; simp; omega⟩
      · have z2 : ¬ (jx : Int) < (nw : Int) := by omega
        have e7 : jx = nw := by omega
        have ho := HO.out
        have htk : (ng6 W).take jx = ng6 W := List.take_of_length_le (by rw [HNL.out]; omega)
        rw [htk] at ho
        have HI9 := Lib.hid (own5_ints ho)
        have HAC := Lib.hid HQ9.out
        have HBS := Lib.hid HB9.out
        clear ho htk hlen HO HQ9 HB9 HSZ
        obtain ⟨n9, hn9⟩ : ∃ n : Nat, n = jx := ⟨_, rfl⟩
        rw [← hn9] at HI9 HAC
        clear e7 hn9
        obtain ⟨wS, rfl⟩ : ∃ wS : World, wS = wo := ⟨_, rfl⟩
        have hS := HBS.out
        have y0 := (HKY.out wS hS).cell 0
        have y1 := (HKY.out wS hS).cell 1
        have HMB := Lib.hid (matrix_ok (HH.out wS (HBX.out wS hS)) (by have := HNW.out; omega) (by omega) HBV.out HCB.out HLN.out)
        clear hS
        go_wp2_with fail
        refine HMB.out.mono ?_
        rintro e wm ⟨hbm, Am, nm, cm, rfl, hmm⟩
        have HMM := Lib.hid hmm
        have HBM := Lib.hid hbm
        have HSM := Lib.hid (HBS.out.trans (hbm.mono HBS.out.size))
        clear y0 y1 HMB hmm hbm
        have qc := HAC.out.below HBM.out HAC.out.lt
        have x0 := qc.cell 0
        have x1 := qc.cell 1
        have HMC := Lib.hid (matrix_ok (HI9.out.below HBM.out) (by have := (brV_iff.1 HMV.out.1).2.2.1; omega) (by omega) HMV.out.1 HMV.out.2.1 (by rw [HMV.out.2.2.1]; exact HLN.out))
        clear qc
        go_wp2_with fail
        refine HMC.out.mono ?_
        rintro e wn ⟨hbn, An, nn, cn, rfl, hnn⟩
        have HNM := Lib.hid (hnn)
        have HMN := Lib.hid (HMM.out.below hbn)
        have HSN := Lib.hid (HSM.out.trans (hbn.mono HSM.out.size))
        have HAP := Lib.hid (alex_ok HMN.out HLN.out (HT6.out _ (HBX.out _ HSN.out)))
        clear x0 x1 HMC hnn hbn
        go_wp2_with fail
        refine HAP.out.mono ?_
        rintro e wp_ ⟨hbp, bp, Ap, np, cp, gp, rfl, hp⟩
        have HPP := Lib.hid hp
        have HNP := Lib.hid (HNM.out.below hbp)
        have HSP := Lib.hid (HSN.out.trans (hbp.mono HSN.out.size))
        have hal := (Below.refl wp_.heap.size wp_).alloc (Nat.le_refl _) (.cells #[.bool bp, .slice Ap np cp] 40)
        have HQP := Lib.hid (show Arr (wp_.alloc (.cells #[.bool bp, .slice Ap np cp] 40)) wp_.heap.size 40 [.bool bp, .slice Ap np cp] from Arr.new wp_ _ [_, _])
        have HBA := Lib.hid hal
        have HSA := Lib.hid (HSP.out.trans (hal.mono HSP.out.size))
        clear hp hbp hal HAP
        go_upto_region 21 with fail
        obtain ⟨wa, hwa⟩ : ∃ W', W' = wp_.alloc (.cells #[.bool bp, .slice Ap np cp] 40) := ⟨_, rfl⟩
        rw [← hwa] at HQP HBA HSA ⊢
        obtain ⟨gP, hgP⟩ : ∃ g, g = wp_.heap.size := ⟨_, rfl⟩
        rw [← hgP] at HQP ⊢
        clear hwa hgP
        have HAQ := Lib.hid (alex_ok (HNP.out.below HBA.out) (by rw [HMV.out.2.2.1]; exact HLN.out) (HT6.out _ (HBX.out _ HSA.out)))
        go_wp2_with fail
        refine HAQ.out.mono ?_
        rintro e wq ⟨hbq, bq, Aq, nq, cq, gq, rfl, hq⟩
        have HQQ := Lib.hid hq
        have HBQ := Lib.hid hbq
        have HSQ := Lib.hid (HSA.out.trans (hbq.mono HSA.out.size))
        have hal := (Below.refl wq.heap.size wq).alloc (Nat.le_refl _) (.cells #[.bool bq, .slice Aq nq cq] 40)
        have HQR := Lib.hid (show Arr (wq.alloc (.cells #[.bool bq, .slice Aq nq cq] 40)) wq.heap.size 40 [.bool bq, .slice Aq nq cq] from Arr.new wq _ [_, _])
        have HBR := Lib.hid hal
        have HSR := Lib.hid (HSQ.out.trans (hal.mono HSQ.out.size))
        clear hq hbq hal HAQ
        go_upto_region 22 with fail
        obtain ⟨wr, hwr⟩ : ∃ W', W' = wq.alloc (.cells #[.bool bq, .slice Aq nq cq] 40) := ⟨_, rfl⟩
        rw [← hwr] at HQR HBR HSR ⊢
        obtain ⟨gQ, hgQ⟩ : ∃ g, g = wq.heap.size := ⟨_, rfl⟩
        rw [← hgQ] at HQR ⊢
        clear hwr hgQ
        have hpp := HPP.out
        rcases hpp with rfl | ⟨rfl, D, hpv, cD, lD, D0, hD⟩
        · go_wp2_with fail
          go_ret
          exact ⟨rfl, HBX.out _ HSR.out⟩
        have hqq := HQQ.out
        rcases hqq with rfl | ⟨rfl, F, hqv, cF, lF, F0, hF⟩
        · clear hpv cD lD D0 hD
          go_wp2_with fail
          go_ret
          exact ⟨rfl, HBX.out _ HSR.out⟩
        have hbe := HBQ.out.trans (HBR.out.mono HBQ.out.size)
        have hsame : norP (some F) = norP (some D) := by
          have k1 : (sfM W (lsF N W)).length ≤ 13 := by rw [sfM_length]; exact HLN.out
          rcases HMV.out.2.2.2 with hx | ⟨τ, ht, hx⟩
          · exact (nor_same k1 cD D0 hD cF F0 hF (.inl rfl) fun x h1 => by rw [detE_DW, detE_DW, hx x h1, Int.one_mul]).1
          · exact (nor_same k1 cD D0 hD cF F0 hF ht fun x h1 => by rw [detE_DW, detE_DW, hx x h1]).1
        have HEQ := Lib.hid ((Equal_any (.agg #[.bool bp, .slice Ap np cp]) (.agg #[.bool bq, .slice Aq nq cq]) (norP (some D)) (norP (some F)) wr (hpv.below (HBA.out.trans (hbe.mono HBA.out.size))) (hqv.below HBR.out) (okP_nor cD lD) (okP_nor cF lF)).mono fun e w' h => show e = .returned (.bool true) ∧ Below wr.heap.size wr w' from ⟨by rw [h.1, hsame]; simp [eqP], h.2⟩)
        have qp := HQP.out.below hbe HQP.out.lt
        have x0 := qp.cell 0
        have x1 := qp.cell 1
        have x2 := HQR.out.cell 0
        have x3 := HQR.out.cell 1
        clear hbe hsame hpv cD lD D0 hD hqv cF lF F0 hF qp
        go_wp2_with (go_at_call 16; refine HEQ.out.mono ?_; rintro e wz ⟨rfl, hbz⟩)
        go_ret
        exact ⟨rfl, HBX.out _ (HSR.out.trans (hbz.mono HSR.out.size))⟩
end Go.Proofs.YtbkgpfalljgdcaaGreatDoor
