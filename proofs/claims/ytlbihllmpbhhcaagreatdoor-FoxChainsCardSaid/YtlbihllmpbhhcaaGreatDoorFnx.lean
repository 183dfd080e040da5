/- fox.derive's closure next. -/
import Derived.Test.YtlbihllmpbhhcaaGreatDoorFdr
import Derived.Test.YtlbihllmpbhhcaaGreatDoorFod
import Derived.Test.YtlbihllmpbhhcaaGreatDoorTab
namespace Go.Proofs.YtlbihllmpbhhcaaGreatDoor
open Go.RowKit
set_option linter.unusedVariables false

/-- blocks of other types are other blocks -/
theorem Arr.ne {w : World} {a b : Nat} {t u : TypeId} {cs ds : List Value} (h : Arr w a t cs) (k : Arr w b u ds) (hne : t ≠ u) : a ≠ b := fun e => by
  subst e
  unfold Arr at h k
  rw [h] at k
  injection k with k
  injection k with _ h2 _
  exact hne h2
theorem ints_at {w : World} {v : Value} {xs : List Int} {k : Nat} (h : Ints w v xs) (hk : k < xs.length) : ∃ b o, (∃ c, v = .slice (some ⟨b, o, none⟩) xs.length c) ∧ b < w.heap.size ∧ w.cell? ⟨b, o + k, none⟩ = some (.int .i64 xs[k]) := by
  obtain ⟨A, c, rfl, _, hx⟩ := h
  obtain ⟨b, o, rfl, hc⟩ := hx k xs[k] (List.getElem?_eq_getElem hk)
  exact ⟨b, o, ⟨c, rfl⟩, block_lt_of_cell hc, hc⟩
/-- the state of derive -/
structure DSt (base gb tmb ab db cb : Nat) (gen d : Int) (vc : Value) (comp : List Int) (s : Value) (R : List (Int × Int)) (w W : World) : Prop where
  own : OwnF base W s R
  tt : Arr W tmb 44 [s]
  gg : Arr W gb 3 [.int .i64 gen]
  aa : Arr W ab 48 [.func (.func 19) #[] #[.pointer (some ⟨gb, 0, none⟩), .pointer (some ⟨tmb, 0, none⟩)]]
  dd : Arr W db 3 [.int .i64 d]
  cc : Arr W cb 22 [vc]
  ii : ∀ W', Below base w W' → Ints W' vc comp
  bel : Below base w W
  bt : base ≤ tmb
  bd : base ≤ db
  bs : base ≤ W.heap.size
  nd : db ≠ gb
theorem cg_get {comp : List Int} {i : Nat} (h : i < comp.length) : cg comp (i : Int) = comp[i] := by
  unfold cg
  rw [Int.toNat_natCast, List.getElem?_eq_getElem h]; rfl
set_option maxHeartbeats 2000000 in
set_option maxRecDepth 100000 in
theorem next_pos (base gb tmb ab db cb : Nat) (gen d x : Int) (vc : Value) (comp : List Int) (s : Value) (R : List (Int × Int)) (w W : World) (hst : DSt base gb tmb ab db cb gen d vc comp s R w W)
    (hc : ∀ c ∈ comp, -1000 ≤ c ∧ c ≤ 1000) (hd : -1000000000 ≤ d ∧ d ≤ 1000000000) (hR : R.length ≤ 1000000) (h0 : 0 < x) (h1 : x ≤ comp.length) (hcl : comp.length ≤ 1000000) :
    Calls Tryz.prog 39 #[.int .i64 x, .pointer (some ⟨ab, 0, none⟩), .pointer (some ⟨db, 0, none⟩), .pointer (some ⟨cb, 0, none⟩)] W fun e w' => e = .returned (.tuple #[]) ∧ ∃ s', DSt base gb tmb ab db cb gen (stepD comp d x) vc comp s' (addR R (gnr x) gen (trm comp d x)) w w' := by
  obtain ⟨iz, hi⟩ : ∃ i : Nat, x - 1 = (i : Int) := ⟨(x - 1).toNat, by omega⟩
  have hil : iz < comp.length := by omega
  have hcv := hc _ (List.getElem_mem hil)
  have e1 : stepD comp d x = d + comp[iz] := by unfold stepD; rw [if_pos h0, hi, cg_get hil]
  have e2 : gnr x = (iz : Int) := by unfold gnr; rw [if_pos h0, hi]
  have e3 : trm comp d x = (d, 1) := by unfold trm; rw [if_pos h0]
  rw [e1, e2, e3]
  clear e1 e2 e3 hc
  have hxi : IntKind.i64.wrap (x - 1) = (iz : Int) := by rw [hi]; exact IntWalk.i64_in _ (by omega)
  have HA := Lib.hid (addD_any (iz : Int) gen 1 d gb tmb base s R W hst.gg hst.tt hst.own (by omega) hst.bt hst.bs)
  obtain ⟨cv, hcv2⟩ : ∃ v, v = comp[iz] := ⟨_, rfl⟩
  rw [← hcv2] at hcv ⊢
  have HCV := Lib.hid hcv2
  clear hcv2
  have HST := Lib.hid hst
  have y0 := hst.aa.cell 0
  have y1 := hst.dd.cell 0
  clear hst
  go_enter Tryz.func39, Tryz.ntmps39
  go_wp2_with fail
  refine HA.out.mono ?_
  rintro e w1 ⟨rfl, s', ho, hq, hk⟩
  have hst := HST.out
  have kk : ∀ k t cs, Arr W k t cs → 44 ≠ t → 47 ≠ t → Arr w1 k t cs := fun k t cs ha n1 n2 => (hk.keep k ha.lt (fun e => (hst.tt.ne ha n1) e.symm) (hst.own.apart ha n2)).trans ha
  have dd1 := kk _ _ _ hst.dd (by decide) (by decide)
  have cc1 := kk _ _ _ hst.cc (by decide) (by decide)
  have gg1 := kk _ _ _ hst.gg (by decide) (by decide)
  have aa1 := kk _ _ _ hst.aa (by decide) (by decide)
  have bel1 := hst.bel.trans hk.below
  have HO := Lib.hid ho
  have HQ := Lib.hid (show Arr w1 tmb 44 [s'] from hq)
  obtain ⟨bz, o, hA, hbl, hcell⟩ := ints_at (hst.ii _ bel1) hil
  obtain ⟨c, hvc⟩ := hA
  subst hvc
  rw [← HCV.out] at hcell
  have HN := Lib.hid (show ∀ (u : Value) (n : Nat), DSt base gb tmb ab db cb gen (d + cv) _ comp s' _ w ((w1.drewN n).setCell ⟨db, 0, none⟩ (.int .i64 (d + cv))) from fun u n => ⟨HO.out.far (p := ⟨db, 0, none⟩) (HO.out.apart dd1 (by decide)) _, HQ.out.far (p := ⟨db, 0, none⟩) (HQ.out.ne dd1 (by decide)) _, gg1.far (p := ⟨db, 0, none⟩) (fun e => hst.nd e.symm) _, aa1.far (p := ⟨db, 0, none⟩) (aa1.ne dd1 (by decide)) _, dd1.set 0 _, cc1.far (p := ⟨db, 0, none⟩) (cc1.ne dd1 (by decide)) _, hst.ii, (bdrewN bel1 n).setCell (p := ⟨db, 0, none⟩) hst.bd _, hst.bt, hst.bd, by have := hst.bs; have := hk.below.size; simp; omega, hst.nd⟩)
  have x0 := dd1.cell 0
  have x1 := dd1.frozen 0
  have x2 := cc1.cell 0
  have zi : (iz : Int) < (comp.length : Int) := by omega
  clear hst kk dd1 cc1 gg1 aa1 bel1 hq ho y0 y1 HO HQ HA HST hk
  go_upto_region 2 with fail
  refine wp_region_table 7 (by kernel_rfl) (by kernel_rfl) (by kernel_rfl) (by kernel_rfl) (by kernel_rfl) rfl (by kernel_rfl) (fun i => [Value.int .i64 d, Value.slice (some ⟨bz, o, none⟩) comp.length c, Value.int .i64 x, Value.int .i64 (iz : Int), Value.pointer (some ⟨bz, o + iz, none⟩), Value.int .i64 cv, Value.int .i64 (d + cv), undef].getD i undef) (fun W => W.setCell ⟨db, 0, none⟩ (.int .i64 (d + cv))) ⟨?_, ?_, ?_, ?_, ?_, ?_, ?_, ?_, trivial⟩ ?_
  · intro m b hb
    have e2 : b.tmps[2]?.getD undef = Value.pointer (some ⟨db, 0, none⟩) := hb 2 rfl
    refine tab_run (by decide) (Value.int .i64 d) rfl ?_
    clear hb
    go_simp
  · intro m b hb
    have e3 : b.tmps[3]?.getD undef = Value.pointer (some ⟨cb, 0, none⟩) := hb 3 rfl
    refine tab_run (by decide) (Value.slice (some ⟨bz, o, none⟩) comp.length c) rfl ?_
    clear hb
    go_simp
  · intro m b hb
    have e0 : b.tmps[0]?.getD undef = Value.int .i64 x := hb 0 rfl
    refine tab_run (by decide) (Value.int .i64 x) rfl ?_
    clear hb
    go_simp
  · intro m b hb
    have e15 : b.tmps[15]?.getD undef = Value.int .i64 x := hb 15 rfl
    refine tab_run (by decide) (Value.int .i64 (iz : Int)) rfl ?_
    clear hb
    go_simp
    exact IntWalk.i64_in _ (by omega)
  · intro m b hb
    have e14 : b.tmps[14]?.getD undef = Value.slice (some ⟨bz, o, none⟩) comp.length c := hb 14 rfl
    have e16 : b.tmps[16]?.getD undef = Value.int .i64 (iz : Int) := hb 16 rfl
    refine tab_run (by decide) (Value.pointer (some ⟨bz, o + iz, none⟩)) rfl ?_
    clear hb
    go_simp
  · intro m b hb
    have e17 : b.tmps[17]?.getD undef = Value.pointer (some ⟨bz, o + iz, none⟩) := hb 17 rfl
    refine tab_run (by decide) (Value.int .i64 cv) rfl ?_
    clear hb
    go_simp
  · intro m b hb
    have e13 : b.tmps[13]?.getD undef = Value.int .i64 d := hb 13 rfl
    have e18 : b.tmps[18]?.getD undef = Value.int .i64 cv := hb 18 rfl
    refine tab_run (by decide) (Value.int .i64 (d + cv)) rfl ?_
    clear hb
    go_simp
    exact IntWalk.i64_in _ (by omega)
  · intro m b hb
    have e2 : b.tmps[2]?.getD undef = Value.pointer (some ⟨db, 0, none⟩) := hb 2 rfl
    have e19 : b.tmps[19]?.getD undef = Value.int .i64 (d + cv) := hb 19 rfl
    refine tab_store undef rfl _ rfl ?_ rfl
    clear hb
    go_simp
  intro m
  simp only [putAll, dstOf, Act.put, List.map_cons, List.map_nil, List.setIfInBounds_toArray, List.set_cons_succ, List.set_cons_zero, Nat.reduceAdd, List.getD_cons_succ, List.getD_cons_zero]
  clear x0 x1 x2
  go_wp2_with fail
  go_end0
  exact ⟨rfl, s', HN.out undef _⟩
set_option maxHeartbeats 2000000 in
set_option maxRecDepth 100000 in
theorem next_neg (base gb tmb ab db cb : Nat) (gen d x : Int) (vc : Value) (comp : List Int) (s : Value) (R : List (Int × Int)) (w W : World) (hst : DSt base gb tmb ab db cb gen d vc comp s R w W)
    (hc : ∀ c ∈ comp, -1000 ≤ c ∧ c ≤ 1000) (hd : -1000000000 ≤ d ∧ d ≤ 1000000000) (hR : R.length ≤ 1000000) (h0 : x < 0) (h1 : -x ≤ comp.length) (hcl : comp.length ≤ 1000000) :
    Calls Tryz.prog 39 #[.int .i64 x, .pointer (some ⟨ab, 0, none⟩), .pointer (some ⟨db, 0, none⟩), .pointer (some ⟨cb, 0, none⟩)] W fun e w' => e = .returned (.tuple #[]) ∧ ∃ s', DSt base gb tmb ab db cb gen (stepD comp d x) vc comp s' (addR R (gnr x) gen (trm comp d x)) w w' := by
  obtain ⟨iz, hi⟩ : ∃ i : Nat, -x - 1 = (i : Int) := ⟨(-x - 1).toNat, by omega⟩
  have hil : iz < comp.length := by omega
  have hcv := hc _ (List.getElem_mem hil)
  have e1 : stepD comp d x = d - comp[iz] := by unfold stepD; rw [if_neg (by omega), hi, cg_get hil]
  have e2 : gnr x = (iz : Int) := by unfold gnr; rw [if_neg (by omega), hi]
  have e3 : trm comp d x = (d - comp[iz], -1) := by unfold trm; rw [if_neg (by omega), hi, cg_get hil]
  rw [e1, e2, e3]
  clear e1 e2 e3 hc
  obtain ⟨cv, hcv2⟩ : ∃ v, v = comp[iz] := ⟨_, rfl⟩
  rw [← hcv2] at hcv ⊢
  obtain ⟨bz, o, hA, hbl, hcell⟩ := ints_at (hst.ii _ hst.bel) hil
  obtain ⟨c, hvc⟩ := hA
  subst hvc
  rw [← hcv2] at hcell
  clear hcv2
  have zi : (iz : Int) < (comp.length : Int) := by omega
  have zx : ¬ (0 < x) := by omega
  have HST := Lib.hid (fun n => (show DSt base gb tmb ab db cb gen (d - cv) (.slice (some ⟨bz, o, none⟩) comp.length c) comp s R w ((W.drewN n).setCell ⟨db, 0, none⟩ (.int .i64 (d - cv))) from ⟨hst.own.far (p := ⟨db, 0, none⟩) (hst.own.apart hst.dd (by decide)) _, hst.tt.far (p := ⟨db, 0, none⟩) (hst.tt.ne hst.dd (by decide)) _, hst.gg.far (p := ⟨db, 0, none⟩) (fun e => hst.nd e.symm) _, hst.aa.far (p := ⟨db, 0, none⟩) (hst.aa.ne hst.dd (by decide)) _, hst.dd.set 0 _, hst.cc.far (p := ⟨db, 0, none⟩) (hst.cc.ne hst.dd (by decide)) _, hst.ii, (bdrewN hst.bel n).setCell (p := ⟨db, 0, none⟩) hst.bd _, hst.bt, hst.bd, by have := hst.bs; simpa using this, hst.nd⟩))
  have x0 := hst.dd.cell 0
  have x1 := hst.dd.frozen 0
  have x2 := hst.cc.cell 0
  clear hst
  go_enter Tryz.func39, Tryz.ntmps39
  go_upto_region 3 with fail
  refine wp_region_table 8 (by kernel_rfl) (by kernel_rfl) (by kernel_rfl) (by kernel_rfl) (by kernel_rfl) rfl (by kernel_rfl) (fun i => [Value.int .i64 d, Value.slice (some ⟨bz, o, none⟩) comp.length c, Value.int .i64 x, Value.int .i64 (-x), Value.int .i64 (iz : Int), Value.pointer (some ⟨bz, o + iz, none⟩), Value.int .i64 cv, Value.int .i64 (d - cv), undef].getD i undef) (fun W => W.setCell ⟨db, 0, none⟩ (.int .i64 (d - cv))) ⟨?_, ?_, ?_, ?_, ?_, ?_, ?_, ?_, ?_, trivial⟩ ?_
  · intro m b hb
    have e2 : b.tmps[2]?.getD undef = Value.pointer (some ⟨db, 0, none⟩) := hb 2 rfl
    refine tab_run (by decide) (Value.int .i64 d) rfl ?_
    clear hb
    go_simp
  · intro m b hb
    have e3 : b.tmps[3]?.getD undef = Value.pointer (some ⟨cb, 0, none⟩) := hb 3 rfl
    refine tab_run (by decide) (Value.slice (some ⟨bz, o, none⟩) comp.length c) rfl ?_
    clear hb
    go_simp
  · intro m b hb
    have e0 : b.tmps[0]?.getD undef = Value.int .i64 x := hb 0 rfl
    refine tab_run (by decide) (Value.int .i64 x) rfl ?_
    clear hb
    go_simp
  · intro m b hb
    have e22 : b.tmps[22]?.getD undef = Value.int .i64 x := hb 22 rfl
    refine tab_run (by decide) (Value.int .i64 (-x)) rfl ?_
    clear hb
    go_simp
    exact IntWalk.i64_in _ (by omega)
  · intro m b hb
    have e23 : b.tmps[23]?.getD undef = Value.int .i64 (-x) := hb 23 rfl
    refine tab_run (by decide) (Value.int .i64 (iz : Int)) rfl ?_
    clear hb
    go_simp
    exact IntWalk.i64_in _ (by omega)
  · intro m b hb
    have e21 : b.tmps[21]?.getD undef = Value.slice (some ⟨bz, o, none⟩) comp.length c := hb 21 rfl
    have e24 : b.tmps[24]?.getD undef = Value.int .i64 (iz : Int) := hb 24 rfl
    refine tab_run (by decide) (Value.pointer (some ⟨bz, o + iz, none⟩)) rfl ?_
    clear hb
    go_simp
  · intro m b hb
    have e25 : b.tmps[25]?.getD undef = Value.pointer (some ⟨bz, o + iz, none⟩) := hb 25 rfl
    refine tab_run (by decide) (Value.int .i64 cv) rfl ?_
    clear hb
    go_simp
  · intro m b hb
    have e20 : b.tmps[20]?.getD undef = Value.int .i64 d := hb 20 rfl
    have e26 : b.tmps[26]?.getD undef = Value.int .i64 cv := hb 26 rfl
    refine tab_run (by decide) (Value.int .i64 (d - cv)) rfl ?_
    clear hb
    go_simp
    exact IntWalk.i64_in _ (by omega)
  · intro m b hb
    have e2 : b.tmps[2]?.getD undef = Value.pointer (some ⟨db, 0, none⟩) := hb 2 rfl
    have e27 : b.tmps[27]?.getD undef = Value.int .i64 (d - cv) := hb 27 rfl
    refine tab_store undef rfl _ rfl ?_ rfl
    clear hb
    go_simp
  intro m
  simp only [putAll, dstOf, Act.put, List.map_cons, List.map_nil, List.setIfInBounds_toArray, List.set_cons_succ, List.set_cons_zero, Nat.reduceAdd, List.getD_cons_succ, List.getD_cons_zero]
  clear x0 x1 x2 hcell
  have hst := HST.out m
  generalize (W.drewN m).setCell ⟨db, 0, none⟩ (.int .i64 (d - cv)) = w1 at *
  clear HST
  have HA := Lib.hid (addD_any (iz : Int) gen (-1) (d - cv) gb tmb base s R w1 hst.gg hst.tt hst.own (by omega) hst.bt hst.bs)
  have HST := Lib.hid hst
  have y0 := hst.aa.cell 0
  have y1 := hst.dd.cell 0
  have zn : IntKind.i64.wrap (-x - 1) = (iz : Int) := by rw [hi]; exact IntWalk.i64_in _ (by omega)
  clear hst
  go_wp2_with fail
  refine HA.out.mono ?_
  rintro e w2 ⟨rfl, s', ho, hq, hk⟩
  have hst := HST.out
  have kk : ∀ k t cs, Arr w1 k t cs → 44 ≠ t → 47 ≠ t → Arr w2 k t cs := fun k t cs ha n1 n2 => (hk.keep k ha.lt (fun e => (hst.tt.ne ha n1) e.symm) (hst.own.apart ha n2)).trans ha
  have HN := Lib.hid (show DSt base gb tmb ab db cb gen (d - cv) _ comp s' _ w w2 from ⟨ho, hq, kk _ _ _ hst.gg (by decide) (by decide), kk _ _ _ hst.aa (by decide) (by decide), kk _ _ _ hst.dd (by decide) (by decide), kk _ _ _ hst.cc (by decide) (by decide), hst.ii, hst.bel.trans hk.below, hst.bt, hst.bd, Nat.le_trans hst.bs hk.below.size, hst.nd⟩)
  clear hst kk hq ho y0 y1 HA HST hk
  go_wp2_with fail
  go_end0
  exact ⟨rfl, s', HN.out⟩
end Go.Proofs.YtlbihllmpbhhcaaGreatDoor
