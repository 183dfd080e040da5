/- fox.derive's closure next. -/
/- fox.derive with the closure of Derivative. -/
import Derived.Test.YtlbihllmpbhhcaaDoorZFdr
import Derived.Test.YtlbihllmpbhhcaaDoorZPsh
import Derived.Test.YtlbihllmpbhhcaaDoorZTab
namespace Go.Proofs.YtlbihllmpbhhcaaDoor
open Go.RowKit
set_option linter.unusedVariables false

/-- blocks of other types are other blocks -/
theorem Arr.ne {w : World} {a b : Nat} {t u : TypeId} {cs ds : List Value} (h : Arr w a t cs) (k : Arr w b u ds) (hne : t ≠ u) : a ≠ b := fun e => by
  subst e
  unfold Arr at h k
  rw [h] at k
  injection k with k
  injection k with _ h2 _
  exact hne h2
theorem ints_at {w : World} {v : Value} {xs : List Int} {k : Nat} (h : Ints w v xs) (hk : k < xs.length) : ∃ b o, (∃ c, v = .slice (some ⟨b, o, none⟩) xs.length c) ∧ b < w.heap.size ∧ w.cell? ⟨b, o + k, none⟩ = some (.int .i64 xs[k]) := by
  obtain ⟨A, c, rfl, _, hx⟩ := h
  obtain ⟨b, o, rfl, hc⟩ := hx k xs[k] (List.getElem?_eq_getElem hk)
  exact ⟨b, o, ⟨c, rfl⟩, block_lt_of_cell hc, hc⟩
/-- the state of derive -/
structure DSt (base gb tmb ab db cb : Nat) (gen d : Int) (vc : Value) (comp : List Int) (s : Value) (R : List (Int × Int)) (w W : World) : Prop where
  own : OwnF base W s R
  tt : Arr W tmb 66 [s]
  gg : Arr W gb 3 [.int .i64 gen]
  aa : Arr W ab 70 [.func (.func 33) #[] #[.pointer (some ⟨gb, 0, none⟩), .pointer (some ⟨tmb, 0, none⟩)]]
  dd : Arr W db 3 [.int .i64 d]
  cc : Arr W cb 22 [vc]
  ii : ∀ W', Below base w W' → Ints W' vc comp
  bel : Below base w W
  bt : base ≤ tmb
  bd : base ≤ db
  bs : base ≤ W.heap.size
  nd : db ≠ gb
theorem cg_get {comp : List Int} {i : Nat} (h : i < comp.length) : cg comp (i : Int) = comp[i] := by
  unfold cg
  rw [Int.toNat_natCast, List.getElem?_eq_getElem h]; rfl
set_option maxHeartbeats 2000000 in
set_option maxRecDepth 100000 in
theorem next_pos (base gb tmb ab db cb : Nat) (gen d x : Int) (vc : Value) (comp : List Int) (s : Value) (R : List (Int × Int)) (w W : World) (hst : DSt base gb tmb ab db cb gen d vc comp s R w W)
    (hc : ∀ c ∈ comp, -1000 ≤ c ∧ c ≤ 1000) (hd : -1000000000 ≤ d ∧ d ≤ 1000000000) (hR : R.length ≤ 1000000) (h0 : 0 < x) (h1 : x ≤ comp.length) (hcl : comp.length ≤ 1000000) :
    Calls Tryd.prog 58 #[.int .i64 x, .pointer (some ⟨ab, 0, none⟩), .pointer (some ⟨db, 0, none⟩), .pointer (some ⟨cb, 0, none⟩)] W fun e w' => e = .returned (.tuple #[]) ∧ ∃ s', DSt base gb tmb ab db cb gen (stepD comp d x) vc comp s' (addR R (gnr x) gen (trm comp d x)) w w' := by
  obtain ⟨iz, hi⟩ : ∃ i : Nat, x - 1 = (i : Int) := ⟨(x - 1).toNat, by omega⟩
  have hil : iz < comp.length := by omega
  have hcv := hc _ (List.getElem_mem hil)
  have e1 : stepD comp d x = d + comp[iz] := by unfold stepD; rw [if_pos h0, hi, cg_get hil]
  have e2 : gnr x = (iz : Int) := by unfold gnr; rw [if_pos h0, hi]
  have e3 : trm comp d x = (d, 1) := by unfold trm; rw [if_pos h0]
  rw [e1, e2, e3]
  clear e1 e2 e3 hc
  have hxi : IntKind.i64.wrap (x - 1) = (iz : Int) := by rw [hi]; exact IntWalk.i64_in _ (by omega)
  have HA := Lib.hid (addD_any (iz : Int) gen 1 d gb tmb base s R W hst.gg hst.tt hst.own (by omega) hst.bt hst.bs)
  obtain ⟨cv, hcv2⟩ : ∃ v, v = comp[iz] := ⟨_, rfl⟩
  rw [← hcv2] at hcv ⊢
  have HCV := Lib.hid hcv2
  clear hcv2
  have HST := Lib.hid hst
  have y0 := hst.aa.cell 0
  have y1 := hst.dd.cell 0
  clear hst
  go_enter Tryd.func58, Tryd.ntmps58
  go_wp2_with fail
  refine HA.out.mono ?_
  rintro e w1 ⟨rfl, s', ho, hq, hk⟩
  have hst := HST.out
  have kk : ∀ k t cs, Arr W k t cs → 66 ≠ t → 69 ≠ t → Arr w1 k t cs := fun k t cs ha n1 n2 => (hk.keep k ha.lt (fun e => (hst.tt.ne ha n1) e.symm) (hst.own.apart ha n2)).trans ha
  have dd1 := kk _ _ _ hst.dd (by decide) (by decide)
  have cc1 := kk _ _ _ hst.cc (by decide) (by decide)
  have gg1 := kk _ _ _ hst.gg (by decide) (by decide)
  have aa1 := kk _ _ _ hst.aa (by decide) (by decide)
  have bel1 := hst.bel.trans hk.below
  have HO := Lib.hid ho
  have HQ := Lib.hid (show Arr w1 tmb 66 [s'] from hq)
  obtain ⟨bz, o, hA, hbl, hcell⟩ := ints_at (hst.ii _ bel1) hil
  obtain ⟨c, hvc⟩ := hA
  subst hvc
  rw [← HCV.out] at hcell
  have HN := Lib.hid (show ∀ (u : Value) (n : Nat), DSt base gb tmb ab db cb gen (d + cv) _ comp s' _ w ((w1.drewN n).setCell ⟨db, 0, none⟩ (.int .i64 (d + cv))) from fun u n => ⟨HO.out.far (p := ⟨db, 0, none⟩) (HO.out.apart dd1 (by decide)) _, HQ.out.far (p := ⟨db, 0, none⟩) (HQ.out.ne dd1 (by decide)) _, gg1.far (p := ⟨db, 0, none⟩) (fun e => hst.nd e.symm) _, aa1.far (p := ⟨db, 0, none⟩) (aa1.ne dd1 (by decide)) _, dd1.set 0 _, cc1.far (p := ⟨db, 0, none⟩) (cc1.ne dd1 (by decide)) _, hst.ii, (bdrewN bel1 n).setCell (p := ⟨db, 0, none⟩) hst.bd _, hst.bt, hst.bd, by have := hst.bs; have := hk.below.size; simp; omega, hst.nd⟩)
  have x0 := dd1.cell 0
  have x1 := dd1.frozen 0
  have x2 := cc1.cell 0
  have zi : (iz : Int) < (comp.length : Int) := by omega
  clear hst kk dd1 cc1 gg1 aa1 bel1 hq ho y0 y1 HO HQ HA HST hk
  go_upto_region 2 with fail
  refine wp_region_table 7 (by kernel_rfl) (by kernel_rfl) (by kernel_rfl) (by kernel_rfl) (by kernel_rfl) rfl (by kernel_rfl) (fun i => [Value.int .i64 d, Value.slice (some ⟨bz, o, none⟩) comp.length c, Value.int .i64 x, Value.int .i64 (iz : Int), Value.pointer (some ⟨bz, o + iz, none⟩), Value.int .i64 cv, Value.int .i64 (d + cv), undef].getD i undef) (fun W => W.setCell ⟨db, 0, none⟩ (.int .i64 (d + cv))) ⟨?_, ?_, ?_, ?_, ?_, ?_, ?_, ?_, trivial⟩ ?_
  · intro m b hb
    have e2 : b.tmps[2]?.getD undef = Value.pointer (some ⟨db, 0, none⟩) := hb 2 rfl
    refine tab_run (by decide) (Value.int .i64 d) rfl ?_
    clear hb
    go_simp
  · intro m b hb
    have e3 : b.tmps[3]?.getD undef = Value.pointer (some ⟨cb, 0, none⟩) := hb 3 rfl
    refine tab_run (by decide) (Value.slice (some ⟨bz, o, none⟩) comp.length c) rfl ?_
    clear hb
    go_simp
  · intro m b hb
    have e0 : b.tmps[0]?.getD undef = Value.int .i64 x := hb 0 rfl
    refine tab_run (by decide) (Value.int .i64 x) rfl ?_
    clear hb
    go_simp
  · intro m b hb
    have e15 : b.tmps[15]?.getD undef = Value.int .i64 x := hb 15 rfl
    refine tab_run (by decide) (Value.int .i64 (iz : Int)) rfl ?_
    clear hb
    go_simp
    exact IntWalk.i64_in _ (by omega)
  · intro m b hb
    have e14 : b.tmps[14]?.getD undef = Value.slice (some ⟨bz, o, none⟩) comp.length c := hb 14 rfl
    have e16 : b.tmps[16]?.getD undef = Value.int .i64 (iz : Int) := hb 16 rfl
    refine tab_run (by decide) (Value.pointer (some ⟨bz, o + iz, none⟩)) rfl ?_
    clear hb
    go_simp
  · intro m b hb
    have e17 : b.tmps[17]?.getD undef = Value.pointer (some ⟨bz, o + iz, none⟩) := hb 17 rfl
    refine tab_run (by decide) (Value.int .i64 cv) rfl ?_
    clear hb
    go_simp
  · intro m b hb
    have e13 : b.tmps[13]?.getD undef = Value.int .i64 d := hb 13 rfl
    have e18 : b.tmps[18]?.getD undef = Value.int .i64 cv := hb 18 rfl
    refine tab_run (by decide) (Value.int .i64 (d + cv)) rfl ?_
    clear hb
    go_simp
    exact IntWalk.i64_in _ (by omega)
  · intro m b hb
    have e2 : b.tmps[2]?.getD undef = Value.pointer (some ⟨db, 0, none⟩) := hb 2 rfl
    have e19 : b.tmps[19]?.getD undef = Value.int .i64 (d + cv) := hb 19 rfl
    refine tab_store undef rfl _ rfl ?_ rfl
    clear hb
    go_simp
  intro m
  simp only [putAll, dstOf, Act.put, List.map_cons, List.map_nil, List.setIfInBounds_toArray, List.set_cons_succ, List.set_cons_zero, Nat.reduceAdd, List.getD_cons_succ, List.getD_cons_zero]
  clear x0 x1 x2
  go_wp2_with fail
  go_end0
  exact ⟨rfl, s', HN.out undef _⟩
set_option maxHeartbeats 2000000 in
set_option maxRecDepth 100000 in
theorem next_neg (base gb tmb ab db cb : Nat) (gen d x : Int) (vc : Value) (comp : List Int) (s : Value) (R : List (Int × Int)) (w W : World) (hst : DSt base gb tmb ab db cb gen d vc comp s R w W)
    (hc : ∀ c ∈ comp, -1000 ≤ c ∧ c ≤ 1000) (hd : -1000000000 ≤ d ∧ d ≤ 1000000000) (hR : R.length ≤ 1000000) (h0 : x < 0) (h1 : -x ≤ comp.length) (hcl : comp.length ≤ 1000000) :
    Calls Tryd.prog 58 #[.int .i64 x, .pointer (some ⟨ab, 0, none⟩), .pointer (some ⟨db, 0, none⟩), .pointer (some ⟨cb, 0, none⟩)] W fun e w' => e = .returned (.tuple #[]) ∧ ∃ s', DSt base gb tmb ab db cb gen (stepD comp d x) vc comp s' (addR R (gnr x) gen (trm comp d x)) w w' := by
  obtain ⟨iz, hi⟩ : ∃ i : Nat, -x - 1 = (i : Int) := ⟨(-x - 1).toNat, by omega⟩
  have hil : iz < comp.length := by omega
  have hcv := hc _ (List.getElem_mem hil)
  have e1 : stepD comp d x = d - comp[iz] := by unfold stepD; rw [if_neg (by omega), hi, cg_get hil]
  have e2 : gnr x = (iz : Int) := by unfold gnr; rw [if_neg (by omega), hi]
  have e3 : trm comp d x = (d - comp[iz], -1) := by unfold trm; rw [if_neg (by omega), hi, cg_get hil]
  rw [e1, e2, e3]
  clear e1 e2 e3 hc
  obtain ⟨cv, hcv2⟩ : ∃ v, v = comp[iz] := ⟨_, rfl⟩
  rw [← hcv2] at hcv ⊢
  obtain ⟨bz, o, hA, hbl, hcell⟩ := ints_at (hst.ii _ hst.bel) hil
  obtain ⟨c, hvc⟩ := hA
  subst hvc
  rw [← hcv2] at hcell
  clear hcv2
  have zi : (iz : Int) < (comp.length : Int) := by omega
  have zx : ¬ (0 < x) := by omega
  have HST := Lib.hid (fun n => (show DSt base gb tmb ab db cb gen (d - cv) (.slice (some ⟨bz, o, none⟩) comp.length c) comp s R w ((W.drewN n).setCell ⟨db, 0, none⟩ (.int .i64 (d - cv))) from ⟨hst.own.far (p := ⟨db, 0, none⟩) (hst.own.apart hst.dd (by decide)) _, hst.tt.far (p := ⟨db, 0, none⟩) (hst.tt.ne hst.dd (by decide)) _, hst.gg.far (p := ⟨db, 0, none⟩) (fun e => hst.nd e.symm) _, hst.aa.far (p := ⟨db, 0, none⟩) (hst.aa.ne hst.dd (by decide)) _, hst.dd.set 0 _, hst.cc.far (p := ⟨db, 0, none⟩) (hst.cc.ne hst.dd (by decide)) _, hst.ii, (bdrewN hst.bel n).setCell (p := ⟨db, 0, none⟩) hst.bd _, hst.bt, hst.bd, by have := hst.bs; simpa using this, hst.nd⟩))
  have x0 := hst.dd.cell 0
  have x1 := hst.dd.frozen 0
  have x2 := hst.cc.cell 0
  clear hst
  go_enter Tryd.func58, Tryd.ntmps58
  go_upto_region 3 with fail
  refine wp_region_table 8 (by kernel_rfl) (by kernel_rfl) (by kernel_rfl) (by kernel_rfl) (by kernel_rfl) rfl (by kernel_rfl) (fun i => [Value.int .i64 d, Value.slice (some ⟨bz, o, none⟩) comp.length c, Value.int .i64 x, Value.int .i64 (-x), Value.int .i64 (iz : Int), Value.pointer (some ⟨bz, o + iz, none⟩), Value.int .i64 cv, Value.int .i64 (d - cv), undef].getD i undef) (fun W => W.setCell ⟨db, 0, none⟩ (.int .i64 (d - cv))) ⟨?_, ?_, ?_, ?_, ?_, ?_, ?_, ?_, ?_, trivial⟩ ?_
  · intro m b hb
    have e2 : b.tmps[2]?.getD undef = Value.pointer (some ⟨db, 0, none⟩) := hb 2 rfl
    refine tab_run (by decide) (Value.int .i64 d) rfl ?_
    clear hb
    go_simp
  · intro m b hb
    have e3 : b.tmps[3]?.getD undef = Value.pointer (some ⟨cb, 0, none⟩) := hb 3 rfl
    refine tab_run (by decide) (Value.slice (some ⟨bz, o, none⟩) comp.length c) rfl ?_
    clear hb
    go_simp
  · intro m b hb
    have e0 : b.tmps[0]?.getD undef = Value.int .i64 x := hb 0 rfl
    refine tab_run (by decide) (Value.int .i64 x) rfl ?_
    clear hb
    go_simp
  · intro m b hb
    have e22 : b.tmps[22]?.getD undef = Value.int .i64 x := hb 22 rfl
    refine tab_run (by decide) (Value.int .i64 (-x)) rfl ?_
    clear hb
    go_simp
    exact IntWalk.i64_in _ (by omega)
  · intro m b hb
    have e23 : b.tmps[23]?.getD undef = Value.int .i64 (-x) := hb 23 rfl
    refine tab_run (by decide) (Value.int .i64 (iz : Int)) rfl ?_
    clear hb
    go_simp
    exact IntWalk.i64_in _ (by omega)
  · intro m b hb
    have e21 : b.tmps[21]?.getD undef = Value.slice (some ⟨bz, o, none⟩) comp.length c := hb 21 rfl
    have e24 : b.tmps[24]?.getD undef = Value.int .i64 (iz : Int) := hb 24 rfl
    refine tab_run (by decide) (Value.pointer (some ⟨bz, o + iz, none⟩)) rfl ?_
    clear hb
    go_simp
  · intro m b hb
    have e25 : b.tmps[25]?.getD undef = Value.pointer (some ⟨bz, o + iz, none⟩) := hb 25 rfl
    refine tab_run (by decide) (Value.int .i64 cv) rfl ?_
    clear hb
    go_simp
  · intro m b hb
    have e20 : b.tmps[20]?.getD undef = Value.int .i64 d := hb 20 rfl
    have e26 : b.tmps[26]?.getD undef = Value.int .i64 cv := hb 26 rfl
    refine tab_run (by decide) (Value.int .i64 (d - cv)) rfl ?_
    clear hb
    go_simp
    exact IntWalk.i64_in _ (by omega)
  · intro m b hb
    have e2 : b.tmps[2]?.getD undef = Value.pointer (some ⟨db, 0, none⟩) := hb 2 rfl
    have e27 : b.tmps[27]?.getD undef = Value.int .i64 (d - cv) := hb 27 rfl
    refine tab_store undef rfl _ rfl ?_ rfl
    clear hb
    go_simp
  intro m
  simp only [putAll, dstOf, Act.put, List.map_cons, List.map_nil, List.setIfInBounds_toArray, List.set_cons_succ, List.set_cons_zero, Nat.reduceAdd, List.getD_cons_succ, List.getD_cons_zero]
  clear x0 x1 x2 hcell
  have hst := HST.out m
  generalize (W.drewN m).setCell ⟨db, 0, none⟩ (.int .i64 (d - cv)) = w1 at *
  clear HST
  have HA := Lib.hid (addD_any (iz : Int) gen (-1) (d - cv) gb tmb base s R w1 hst.gg hst.tt hst.own (by omega) hst.bt hst.bs)
  have HST := Lib.hid hst
  have y0 := hst.aa.cell 0
  have y1 := hst.dd.cell 0
  have zn : IntKind.i64.wrap (-x - 1) = (iz : Int) := by rw [hi]; exact IntWalk.i64_in _ (by omega)
  clear hst
  go_wp2_with fail
  refine HA.out.mono ?_
  rintro e w2 ⟨rfl, s', ho, hq, hk⟩
  have hst := HST.out
  have kk : ∀ k t cs, Arr w1 k t cs → 66 ≠ t → 69 ≠ t → Arr w2 k t cs := fun k t cs ha n1 n2 => (hk.keep k ha.lt (fun e => (hst.tt.ne ha n1) e.symm) (hst.own.apart ha n2)).trans ha
  have HN := Lib.hid (show DSt base gb tmb ab db cb gen (d - cv) _ comp s' _ w w2 from ⟨ho, hq, kk _ _ _ hst.gg (by decide) (by decide), kk _ _ _ hst.aa (by decide) (by decide), kk _ _ _ hst.dd (by decide) (by decide), kk _ _ _ hst.cc (by decide) (by decide), hst.ii, hst.bel.trans hk.below, hst.bt, hst.bd, Nat.le_trans hst.bs hk.below.size, hst.nd⟩)
  clear hst kk hq ho y0 y1 HA HST hk
  go_wp2_with fail
  go_end0
  exact ⟨rfl, s', HN.out⟩
end Go.Proofs.YtlbihllmpbhhcaaDoor

namespace Go.Proofs.YtlbihllmpbhhcaaDoor
open Go.RowKit
set_option linter.unusedVariables false

theorem degW_bd {comp : List Int} {N : Int} (hN : 0 ≤ N) (h : ∀ c ∈ comp, -N ≤ c ∧ c ≤ N) : ∀ (u : List Int) (d : Int), d - N * u.length ≤ degW comp u d ∧ degW comp u d ≤ d + N * u.length
  | [], d => by simp [degW]
  | x :: u, d => by
    have h1 := degW_bd hN h u (stepD comp d x)
    have h2 := cg_bd hN h (x - 1)
    have h3 := cg_bd hN h (-x - 1)
    have h4 : d - N ≤ stepD comp d x ∧ stepD comp d x ≤ d + N := by unfold stepD; split <;> omega
    have e1 : N * ((x :: u).length : Int) = N * u.length + N := by rw [List.length_cons, Int.natCast_add, Int.mul_add]; simp
    rw [degW, e1]
    omega
theorem drv_snoc (comp : List Int) (g : Int) (u : List Int) (x d : Int) : drv comp g (u ++ [x]) d = addR (drv comp g u d) (gnr x) g (trm comp (degW comp u d) x) := by
  rw [drv_append]
  unfold addR
  rw [drv, drv, List.append_nil]
theorem degW_snoc (comp : List Int) (u : List Int) (x d : Int) : degW comp (u ++ [x]) d = stepD comp (degW comp u d) x := by rw [degW_append]; rfl
theorem take_snocI {l : List Int} {i : Nat} (h : i < l.length) : l.take (i + 1) = l.take i ++ [l[i]] := by
  rw [List.take_add_one, List.getElem?_eq_getElem h]; rfl
set_option maxHeartbeats 2000000 in
set_option maxRecDepth 100000 in
theorem derive_any (base gb tmb : Nat) (gen : Int) (vw vc : Value) (ws comp : List Int) (w W : World) (hw : ∀ W', Below base w W' → Ints W' vw ws) (hcm : ∀ W', Below base w W' → Ints W' vc comp) (hbel : Below base w W) (hbt : base ≤ tmb) (hbs : base ≤ W.heap.size)
    (qt : Arr W tmb 66 [.slice none 0 0]) (qg : Arr W gb 3 [.int .i64 gen]) (hc : ∀ c ∈ comp, -1000 ≤ c ∧ c ≤ 1000) (hcl : comp.length ≤ 1000000) (hwl : ws.length ≤ 1000) (hx : ∀ x ∈ ws, x ≠ 0 ∧ -(comp.length : Int) ≤ x ∧ x ≤ comp.length) :
    Calls Tryd.prog 32 #[vw, vc, .func (.func 33) #[] #[.pointer (some ⟨gb, 0, none⟩), .pointer (some ⟨tmb, 0, none⟩)]] W fun e w' => e = .returned (.tuple #[]) ∧ ∃ s', OwnF base w' s' (drv comp gen ws 0) ∧ Arr w' tmb 66 [s'] ∧ Below base w w' := by
  have hX : ∀ W3, W3 = ((W.alloc (.cells #[vc] 22)).alloc (.cells #[.func (.func 33) #[] #[.pointer (some ⟨gb, 0, none⟩), .pointer (some ⟨tmb, 0, none⟩)]] 70)).alloc (.cells #[.int .i64 0] 3) → DSt base gb tmb (W.heap.size + 1) (W.heap.size + 2) W.heap.size gen 0 vc comp (.slice none 0 0) [] w W3 := by
    intro W3 h
    subst h
    exact ⟨OwnF.nil _ _, ((qt.alloc _).alloc _).alloc _, ((qg.alloc _).alloc _).alloc _, (Arr.newAt (W.alloc _) _ [_] _ (by simp)).alloc _, Arr.newAt ((W.alloc _).alloc _) _ [_] _ (by simp), ((Arr.new _ _ [_]).alloc _).alloc _, hcm, ((hbel.alloc hbs _).alloc (by simp; omega) _).alloc (by simp; omega) _, hbt, by omega, by simp; omega, by have := qg.lt; omega⟩
  have HN : ∀ (k : Nat) (hk : k < ws.length) (s : Value) (wr : World), DSt base gb tmb (W.heap.size + 1) (W.heap.size + 2) W.heap.size gen (degW comp (ws.take k) 0) vc comp s (drv comp gen (ws.take k) 0) w wr → Calls Tryd.prog 58 #[.int .i64 ws[k], .pointer (some ⟨W.heap.size + 1, 0, none⟩), .pointer (some ⟨W.heap.size + 2, 0, none⟩), .pointer (some ⟨W.heap.size, 0, none⟩)] wr fun e w' => e = .returned (.tuple #[]) ∧ ∃ s', DSt base gb tmb (W.heap.size + 1) (W.heap.size + 2) W.heap.size gen (degW comp (ws.take (k + 1)) 0) vc comp s' (drv comp gen (ws.take (k + 1)) 0) w w' := by
    intro k hk s wr hst
    obtain ⟨x0, x1, x2⟩ := hx _ (List.getElem_mem hk)
    have hd := degW_bd (N := 1000) (by omega) hc (ws.take k) 0
    have hl : ((ws.take k).length : Int) ≤ 1000 := by simp; omega
    have hR := drv_len comp gen (ws.take k) 0
    have hR2 : (ws.take k).length ≤ 1000 := by simp; omega
    rw [take_snocI hk, degW_snoc, drv_snoc]
    rcases Int.lt_trichotomy ws[k] 0 with q | q | q
    · exact next_neg base gb tmb _ _ _ gen _ _ vc comp s _ w wr hst hc (by omega) (by omega) q (by omega) hcl
    · exact absurd q x0
    · exact next_pos base gb tmb _ _ _ gen _ _ vc comp s _ w wr hst hc (by omega) (by omega) q (by omega) hcl
  have HNX := Lib.hid HN
  have hwW := hw W hbel
  obtain ⟨A, c, rfl, _, _⟩ := hwW
  obtain ⟨A2, c2, hvc, _, _⟩ := hcm W hbel
  have HW := Lib.hid hw
  clear HN hw hcm hx hc qt qg hbt
  subst hvc
  go_enter Tryd.func32, Tryd.ntmps32
  go_upto_region 2 with fail
  have hst0 := hX _ rfl
  clear hX
  generalize (((W.alloc (.cells #[.slice A2 comp.length c2] 22)).alloc (.cells #[.func (.func 33) #[] #[.pointer (some ⟨gb, 0, none⟩), .pointer (some ⟨tmb, 0, none⟩)]] 70)).alloc (.cells #[.int .i64 0] 3)) = w3 at *
  go_wp2_with fail
  go_loopg [9, 13] ws.length (fun gk s9 s13 wr => ∃ (k : Nat) (s : Value), k ≤ ws.length ∧ gk = ws.length - k ∧ s13 = .int .i64 (k : Int) ∧ DSt base gb tmb (W.heap.size + 1) (W.heap.size + 2) W.heap.size gen (degW comp (ws.take k) 0) (.slice A2 comp.length c2) comp s (drv comp gen (ws.take k) 0) w wr)
  case atStart => exact ⟨0, _, Nat.zero_le _, rfl, rfl, hst0⟩
  case round =>
    clear hst0
    obtain ⟨k, s, hk, rfl, rfl, hst⟩ := hrel
    by_cases hlt : k < ws.length
    · have z1 : (k : Int) < (ws.length : Int) := by omega
      obtain ⟨b, o, ⟨c', hv⟩, hbl, hcell⟩ := ints_at (HW.out wr hst.bel) hlt
      injection hv with hv1 hv2 hv3
      subst hv1 hv3
      clear hv2
      have HC := Lib.hid (HNX.out k hlt s wr hst)
      generalize ws[k] = x at *
      clear hst
      go_wp2_with fail
      refine HC.out.mono ?_
      rintro e w5 ⟨rfl, s', hst5⟩
      go_wp2_with fail
      go_roundg (ws.length - (k + 1))
      case measure => omega
      case rel => exact ⟨k + 1, s', by omega, rfl, by go_num, hst5⟩
    · have z1 : ¬ ((k : Int) < (ws.length : Int)) := by omega
      obtain rfl : k = ws.length := by omega
      rw [List.take_length] at hst
      have HF := Lib.hid (show ∃ s', OwnF base wr s' (drv comp gen ws 0) ∧ Arr wr tmb 66 [s'] ∧ Below base w wr from ⟨s, hst.own, hst.tt, hst.bel⟩)
      clear hst hlt hk
      go_wp2_with fail
      go_end0
      exact ⟨rfl, HF.out⟩
end Go.Proofs.YtlbihllmpbhhcaaDoor
