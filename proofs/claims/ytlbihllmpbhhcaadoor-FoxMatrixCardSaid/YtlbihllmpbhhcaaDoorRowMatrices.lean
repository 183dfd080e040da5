/- FoxMatrix: for every input the law returns true, and the arguments read afterwards as before: the tied card. -/
import Derived.Test.YtlbihllmpbhhcaaDoorRowF
import Derived.Test.YtlbihllmpbhhcaaDoorGvl
import Derived.Deep.Matrix
import Derived.Test.YtlbihllmpbhhcaaDoorLmx2
namespace Go.Proofs.YtlbihllmpbhhcaaDoor
open Go.ChangeShapes Go.WideShapes Go.ChangeAt Go.RowKit Go.Joins
set_option linter.unusedVariables false

section
variable {H : Type} {enc : TypeId × Value → H} {P : Program} {w : World} {base : Nat} {held : Bool}
theorem wds_of_trod {t e q : TypeId} {fuel : Nat} {v : Value} {x : DataW H × List MemPlace} (ht : P.underlying t = some (.slice e)) (he : P.underlying e = some (.slice q)) (hq : P.underlying q = some (.int .i64)) (ce : P.cellsOf e = 1) (cq : P.cellsOf q = 1)
    (h : DataW.trod enc P w base (fun _ => true) held fuel t [v] = some x) : ∃ wss, Wds w v wss ∧ wss.length ≤ maxLen ∧ ∀ ws ∈ wss, ws.length ≤ maxLen := by
  rcases Go.Deep.open_int_rows ht he hq ce cq h with ⟨hcs, _⟩ | ⟨a, len, cap, A, L, C, Z, hcs, _, hl, hm, _, hr⟩
  · injection hcs with e1 _
    subst e1
    exact ⟨[], ⟨none, 0, rfl, fun k hk => by simp at hk⟩, by simp, fun ws hw => by cases hw⟩
  · injection hcs with e1 _
    subst e1
    have hlen : ((List.range len).map fun r => (Z r).take (L r)).length = len := by simp
    refine ⟨(List.range len).map fun r => (Z r).take (L r), ⟨some a, cap, by rw [hlen], fun k hk => ?_⟩, by rw [hlen]; omega, fun ws hw => ?_⟩
    · have hk2 : k < len := by rw [hlen] at hk; exact hk
      obtain ⟨h1, h2, h3, h4, h5, h6, h7⟩ := hr k (by omega)
      obtain ⟨b, o, sp⟩ := a
      have hsp : sp = none := by
        have := (hr 0 (by omega)).1
        simpa [Addr.add] using World.cell?_spot this
      subst hsp
      have hadd : (⟨b, o, none⟩ : Addr).add k = ⟨b, o + k, none⟩ := by unfold Addr.add; split <;> simp_all
      rw [hadd] at h1
      refine ⟨b, o, _, rfl, h1, ?_⟩
      have hg : ((List.range len).map fun r => (Z r).take (L r))[k] = (Z k).take (L k) := by simp
      rw [hg]
      refine ⟨A k, C k, by simp [Nat.min_eq_left (show L k ≤ (Z k).length by omega)], by simp; omega, fun i y hi => ?_⟩
      have hiL : i < L k := by
        have := (List.getElem?_eq_some_iff.1 hi).1
        simp at this; omega
      rw [List.getElem?_take, if_pos hiL] at hi
      cases hA : A k with
      | none => have := h6 hA; omega
      | some a' =>
        obtain ⟨_, h8⟩ := h7 a' hA
        have h9 := h8 i (by omega)
        have h90 := h8 0 (by omega)
        obtain ⟨b', o', sp'⟩ := a'
        have hsp' : sp' = none := by simpa [Addr.add] using World.cell?_spot h90
        subst hsp'
        have hadd' : (⟨b', o', none⟩ : Addr).add i = ⟨b', o' + i, none⟩ := by unfold Addr.add; split <;> simp_all
        rw [hadd', List.getD_eq_getElem?_getD, hi] at h9
        exact ⟨b', o', rfl, h9⟩
    · obtain ⟨r, hr1, rfl⟩ := List.mem_map.1 hw
      obtain ⟨h1, h2, h3, h4, _⟩ := hr r (by have := List.mem_range.1 hr1; omega)
      simp; omega
end


namespace matrices
set_option maxHeartbeats 2000000 in
set_option maxRecDepth 100000 in
theorem lifted (os : Os) (started : os.Started) (H : Type) (enc : TypeId × Value → H) :
    ReturnsInHanded {} Tryd.checked os 4 .any (fun w args => (Rows.foxMatrixSpec.pre enc Tryd.prog Tryd.f4 [] false w args ∧ laidMetH Tryd.prog laid3 w) ∧ sizedMet enc Tryd.prog Tryd.f4 (OpenSpec.ofChange Rows.foxMatrixSpec) false w args)
      (Rows.foxMatrixSpec.post enc Tryd.prog Tryd.f4 false true false false) := by
  refine returnsInHanded_of_change_and (C := Tryd.checked) (X := fun w _ => laidMetH Tryd.prog laid3 w) (fun _ _ _ hh h => h.of_heap hh) Tryd.own started (by kernel_rfl) Tryd.func4
    (ChangeSpec.witness_shaped (enc := enc) (C := Tryd.checked) (os := os) (X := fun w _ => laidMetH Tryd.prog laid3 w) false (World.doorLaid Tryd.prog 400 os) #[.agg #[.int .i64 0, .slice none 0 0, .slice none 0 0]] 8 rfl (World.shaped_of_RefB (by kernel_rfl) (by kernel_rfl)) (by kernel_rfl) (by kernel_rfl) (by kernel_rfl) (door_met os _)) ?_
  intro W base args ds gs before hval0 hW _ _ hL _
  have hval : ∀ (j : Nat) t v, Tryd.f4.params[j]? = some t → args[j]? = some v → Value.okWide Tryd.prog W .any base t v := hval0
  have hW' := hW
  obtain ⟨p, q, hA0, hV, rfl, hfz, hnd⟩ := hW
  have hA : DataW.TrodAll enc Tryd.prog W 0 (fun _ => true) true Tryd.f4.params.toList args.toList ds p := hA0
  rw [Tryd.params4] at hA hval
  have ht := tb_of_laid hL
  obtain ⟨v0, vs0, d0, ds0, p0, q0, hargs, rfl, rfl, h0, r0⟩ := trodAll_cons hA
  obtain ⟨rfl, rfl, rfl⟩ := trodAll_nil r0
  obtain rfl : args = #[v0] := by cases args; simp_all
  obtain ⟨rfl, rfl⟩ := trodVars_none hV
  have k0 := h0
  have lt0 : ∀ x ∈ p0, x.block < W.heap.size := by obtain ⟨m, hm⟩ := k0; exact DataW.trod_lt m _ _ _ hm
  obtain ⟨c00, c01, c02, y00, y01, y02, m0, rfl, _, _, hy00, hy01, hy02⟩ := open_agg3 Tryd.underlying41 (by kernel_rfl) (by kernel_rfl) (hval 0 41 v0 rfl rfl) h0
  obtain ⟨M0, hM0, bM0⟩ := ints_of_trod Tryd.underlying22 Tryd.underlying3 (by kernel_rfl) hy01
  obtain ⟨N0, hN0, bN0, bW0⟩ := wds_of_trod Tryd.underlying39 Tryd.underlying42 Tryd.underlying3 (by kernel_rfl) (by kernel_rfl) hy02
  obtain ⟨L0, g0, _, _⟩ := DataW.trod_int Tryd.underlying3 hy00
  simp only [List.cons.injEq, and_true] at g0
  subst g0
  clear hA0 hval0
  refine (fmatrix_law L0 c01 c02 M0 N0 W hM0 hN0 bM0 bN0 bW0  ht).mono fun e W' ⟨he, bel⟩ => ?_
  subst he
  exact ⟨_, rfl, _, _, _, [], _, [], hW', trodAll_mk1 (shut_bool Tryd.underlying4 _), (trodAll_cons_mk (Below.trod Tryd.laidOut (by kernel_rfl) (of_decide_eq_true (by kernel_rfl)) k0 bel lt0) (trodAll_mk0)), rfl, bel.frame _, fun h => by cases h⟩
end matrices

theorem matrices_row : Rows.FoxMatrixSaid :=
  OpenClaim.holds_of_wide 4 Tryd.f4 rfl rfl rfl rfl rfl rfl rfl ⟨rfl, rfl, rfl, rfl, rfl⟩ rfl rfl rfl rfl rfl (by kernel_rfl) Tryd.func4 (by kernel_rfl)
    (of_decide_eq_true (by kernel_rfl)) (by unfold Func.isWrapper; rw [if_neg (of_decide_eq_false (by kernel_rfl))]; exact ⟨rfl, rfl⟩)
    (fun os started H enc _ => matrices.lifted os started H enc)
theorem matrices_holds : Rows.FoxMatrixCardSaid :=
  Claim7.holds_tied_plain_at .later [] [.data, .data, .data] true (true, "da3396efb13340fd73a3b96d72aa1a99991052e025188a7fe0d29355c442b459") false
    matrices_row (fun _ h => by cases h) (by kernel_rfl) (fun _ h => by cases h) foxMatrix_row_tie rfl ⟨rfl, rfl⟩ (by kernel_rfl) rfl
    (fun f fn hf hfn => by
      obtain rfl : f = 4 := Option.some.inj ((show Tryd.prog.funcNamed "unravel/unravellaw23.FoxMatrix" = some 4 by kernel_rfl).symm.trans hf) |>.symm
      obtain rfl : fn = Tryd.f4 := (Option.some.inj (Tryd.func4.symm.trans hfn)).symm
      exact ⟨by kernel_rfl, fun j t ht => by
        rw [Tryd.params4] at ht
        have hm : t ∈ [41] := by simpa using Array.mem_of_getElem? ht
        have hall : ([41].all fun u => !Tryd.prog.wantsStandIn u) = true := by kernel_rfl
        exact (show Tryd.prog.wantsStandIn t = false by simpa using List.all_eq_true.1 hall t hm)⟩)
    (by kernel_rfl)
end Go.Proofs.YtlbihllmpbhhcaaDoor
