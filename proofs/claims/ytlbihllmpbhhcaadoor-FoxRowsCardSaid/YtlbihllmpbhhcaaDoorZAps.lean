/- fox.derive with any closure that collects. -/
/- A region that draws its order, reads, appends one element to an own slice and stores the slice back. -/
import Derived.Test.YtlbihllmpbhhcaaDoorZFdv
import Derived.Test.YtlbihllmpbhhcaaDoorZCha
namespace Go.Proofs.YtlbihllmpbhhcaaDoor
open Go.RowKit
set_option linter.unusedVariables false

/-- blocks of other types are kept -/
def KeepT (w w' : World) : Prop := ∀ k t cs, Arr w k t cs → 66 ≠ t → 69 ≠ t → Arr w' k t cs
/-- a closure that takes the terms of the letters, one by one; P: what it has when the letters u are done -/
structure CloG (F : FuncId) (tb base : Nat) (comp : List Int) (P : List Int → World → Prop) : Prop where
  eg : ∀ args W, (callFunc F args).run Tryd.prog W = .ok (.enter F args) W
  step : ∀ u x W, base ≤ W.heap.size → P u W → u.length ≤ 1000 → x ≠ 0 → -(comp.length : Int) ≤ x → x ≤ comp.length → Calls Tryd.prog F #[.int .i64 (gnr x), .agg #[.int .i64 (trm comp (degW comp u 0) x).2, .int .i64 (trm comp (degW comp u 0) x).1], .pointer (some ⟨tb, 0, none⟩)] W fun e w' => e = .returned (.tuple #[]) ∧ P (u ++ [x]) w' ∧ Below base W w' ∧ KeepT W w'
  grow : ∀ u W W', P u W → Below W.heap.size W W' → P u W'
  far : ∀ u W db d v, P u W → Arr W db 3 [d] → P u (W.setCell ⟨db, 0, none⟩ v)
/-- the state of derive -/
structure DSg (F : FuncId) (tb base ab db cb : Nat) (P : List Int → World → Prop) (u : List Int) (vc : Value) (comp : List Int) (w W : World) : Prop where
  pp : P u W
  aa : Arr W ab 70 [.func (.func F) #[] #[.pointer (some ⟨tb, 0, none⟩)]]
  dd : Arr W db 3 [.int .i64 (degW comp u 0)]
  cc : Arr W cb 22 [vc]
  ii : ∀ W', Below base w W' → Ints W' vc comp
  bel : Below base w W
  bd : base ≤ db
  bs : base ≤ W.heap.size
set_option maxHeartbeats 2000000 in
set_option maxRecDepth 100000 in
theorem gnext_pos (F : FuncId) (tb base ab db cb : Nat) (P : List Int → World → Prop) (u : List Int) (x : Int) (vc : Value) (comp : List Int) (w W : World) (hP : CloG F tb base comp P) (hst : DSg F tb base ab db cb P u vc comp w W)
    (hc : ∀ c ∈ comp, -1000 ≤ c ∧ c ≤ 1000) (hu : u.length ≤ 1000) (h0 : 0 < x) (h1 : x ≤ comp.length) (hcl : comp.length ≤ 1000000) :
    Calls Tryd.prog 58 #[.int .i64 x, .pointer (some ⟨ab, 0, none⟩), .pointer (some ⟨db, 0, none⟩), .pointer (some ⟨cb, 0, none⟩)] W fun e w' => e = .returned (.tuple #[]) ∧ DSg F tb base ab db cb P (u ++ [x]) vc comp w w' := by
  obtain ⟨iz, hi⟩ : ∃ i : Nat, x - 1 = (i : Int) := ⟨(x - 1).toNat, by omega⟩
  have hil : iz < comp.length := by omega
  have hcv := hc _ (List.getElem_mem hil)
  have hd := degW_bd (N := 1000) (by omega) hc u 0
  have hd2 : -1000000 ≤ degW comp u 0 ∧ degW comp u 0 ≤ 1000000 := by omega
  have HA := Lib.hid (hP.step u x W hst.bs hst.pp hu (by omega) (by omega) h1)
  have HDN := Lib.hid (show degW comp (u ++ [x]) 0 = degW comp u 0 + comp[iz] from by rw [degW_snoc]; unfold stepD; rw [if_pos h0, hi, cg_get hil])
  have e2 : gnr x = (iz : Int) := by unfold gnr; rw [if_pos h0, hi]
  have e3 : trm comp (degW comp u 0) x = (degW comp u 0, 1) := by unfold trm; rw [if_pos h0]
  rw [e2, e3] at HA
  simp only at HA
  have hxi : IntKind.i64.wrap (x - 1) = (iz : Int) := by rw [hi]; exact IntWalk.i64_in _ (by omega)
  obtain ⟨cv, hcv2⟩ : ∃ v, v = comp[iz] := ⟨_, rfl⟩
  rw [← hcv2] at hcv HDN
  have HCV := Lib.hid hcv2
  clear hcv2 e2 e3 hd hc
  have HST := Lib.hid hst
  have y0 := hst.aa.cell 0
  have y1 := hst.dd.cell 0
  clear hst
  have HDE : Hid (∃ d, d = degW comp u 0) := Lib.hid ⟨_, rfl⟩
  obtain ⟨d, hd0⟩ := HDE.out
  rw [← hd0] at HA HDN hd2 y1
  have HD0 := Lib.hid hd0
  clear hd0 HDE
  have hEG := hP.eg
  go_enter Tryd.func58, Tryd.ntmps58
  go_wp2_with fail
  refine HA.out.mono ?_
  rintro e w1 ⟨rfl, hpp, hbk, hkt⟩
  have hst := HST.out
  have dd1 : Arr w1 db 3 [.int .i64 d] := by rw [HD0.out]; exact hkt _ _ _ hst.dd (by decide) (by decide)
  have cc1 := hkt _ _ _ hst.cc (by decide) (by decide)
  have aa1 := hkt _ _ _ hst.aa (by decide) (by decide)
  have bel1 := hst.bel.trans hbk
  obtain ⟨bz, o, hA, hbl, hcell⟩ := ints_at (hst.ii _ bel1) hil
  obtain ⟨c, hvc⟩ := hA
  subst hvc
  rw [← HCV.out] at hcell
  have HN := Lib.hid (show ∀ (n : Nat), DSg F tb base ab db cb P (u ++ [x]) _ comp w ((w1.drewN n).setCell ⟨db, 0, none⟩ (.int .i64 (d + cv))) from fun n => ⟨hP.far _ _ db (.int .i64 d) _ (hP.grow _ _ _ hpp (bdrewN (Below.refl _ _) n)) dd1, aa1.far (p := ⟨db, 0, none⟩) (aa1.ne dd1 (by decide)) _, by rw [HDN.out]; exact dd1.set 0 _, cc1.far (p := ⟨db, 0, none⟩) (cc1.ne dd1 (by decide)) _, hst.ii, (bdrewN bel1 n).setCell (p := ⟨db, 0, none⟩) hst.bd _, hst.bd, by have := hst.bs; have := hbk.size; simp; omega⟩)
  have x0 := dd1.cell 0
  have x1 := dd1.frozen 0
  have x2 := cc1.cell 0
  have zi : (iz : Int) < (comp.length : Int) := by omega
  clear hst hkt dd1 cc1 aa1 bel1 hpp y0 y1 HST hbk HA
  go_upto_region 2 with fail
  refine wp_region_table 7 (by kernel_rfl) (by kernel_rfl) (by kernel_rfl) (by kernel_rfl) (by kernel_rfl) rfl (by kernel_rfl) (fun i => [Value.int .i64 d, Value.slice (some ⟨bz, o, none⟩) comp.length c, Value.int .i64 x, Value.int .i64 (iz : Int), Value.pointer (some ⟨bz, o + iz, none⟩), Value.int .i64 cv, Value.int .i64 (d + cv), undef].getD i undef) (fun W => W.setCell ⟨db, 0, none⟩ (.int .i64 (d + cv))) ⟨?_, ?_, ?_, ?_, ?_, ?_, ?_, ?_, trivial⟩ ?_
  · intro m b hb
    have e2 : b.tmps[2]?.getD undef = Value.pointer (some ⟨db, 0, none⟩) := hb 2 rfl
    refine tab_run (by decide) (Value.int .i64 d) rfl ?_
    clear hb
    go_simp
  · intro m b hb
    have e3 : b.tmps[3]?.getD undef = Value.pointer (some ⟨cb, 0, none⟩) := hb 3 rfl
    refine tab_run (by decide) (Value.slice (some ⟨bz, o, none⟩) comp.length c) rfl ?_
    clear hb
    go_simp
  · intro m b hb
    have e0 : b.tmps[0]?.getD undef = Value.int .i64 x := hb 0 rfl
    refine tab_run (by decide) (Value.int .i64 x) rfl ?_
    clear hb
    go_simp
  · intro m b hb
    have e15 : b.tmps[15]?.getD undef = Value.int .i64 x := hb 15 rfl
    refine tab_run (by decide) (Value.int .i64 (iz : Int)) rfl ?_
    clear hb
    go_simp
    exact IntWalk.i64_in _ (by omega)
  · intro m b hb
    have e14 : b.tmps[14]?.getD undef = Value.slice (some ⟨bz, o, none⟩) comp.length c := hb 14 rfl
    have e16 : b.tmps[16]?.getD undef = Value.int .i64 (iz : Int) := hb 16 rfl
    refine tab_run (by decide) (Value.pointer (some ⟨bz, o + iz, none⟩)) rfl ?_
    clear hb
    go_simp
  · intro m b hb
    have e17 : b.tmps[17]?.getD undef = Value.pointer (some ⟨bz, o + iz, none⟩) := hb 17 rfl
    refine tab_run (by decide) (Value.int .i64 cv) rfl ?_
    clear hb
    go_simp
  · intro m b hb
    have e13 : b.tmps[13]?.getD undef = Value.int .i64 d := hb 13 rfl
    have e18 : b.tmps[18]?.getD undef = Value.int .i64 cv := hb 18 rfl
    refine tab_run (by decide) (Value.int .i64 (d + cv)) rfl ?_
    clear hb
    go_simp
    exact IntWalk.i64_in _ (by omega)
  · intro m b hb
    have e2 : b.tmps[2]?.getD undef = Value.pointer (some ⟨db, 0, none⟩) := hb 2 rfl
    have e19 : b.tmps[19]?.getD undef = Value.int .i64 (d + cv) := hb 19 rfl
    refine tab_store undef rfl _ rfl ?_ rfl
    clear hb
    go_simp
  intro m
  simp only [putAll, dstOf, Act.put, List.map_cons, List.map_nil, List.setIfInBounds_toArray, List.set_cons_succ, List.set_cons_zero, Nat.reduceAdd, List.getD_cons_succ, List.getD_cons_zero]
  clear x0 x1 x2
  go_wp2_with fail
  go_end0
  exact ⟨rfl, HN.out _⟩
set_option maxHeartbeats 2000000 in
set_option maxRecDepth 100000 in
theorem gnext_neg (F : FuncId) (tb base ab db cb : Nat) (P : List Int → World → Prop) (u : List Int) (x : Int) (vc : Value) (comp : List Int) (w W : World) (hP : CloG F tb base comp P) (hst : DSg F tb base ab db cb P u vc comp w W)
    (hc : ∀ c ∈ comp, -1000 ≤ c ∧ c ≤ 1000) (hu : u.length ≤ 1000) (h0 : x < 0) (h1 : -x ≤ comp.length) (hcl : comp.length ≤ 1000000) :
    Calls Tryd.prog 58 #[.int .i64 x, .pointer (some ⟨ab, 0, none⟩), .pointer (some ⟨db, 0, none⟩), .pointer (some ⟨cb, 0, none⟩)] W fun e w' => e = .returned (.tuple #[]) ∧ DSg F tb base ab db cb P (u ++ [x]) vc comp w w' := by
  obtain ⟨iz, hi⟩ : ∃ i : Nat, -x - 1 = (i : Int) := ⟨(-x - 1).toNat, by omega⟩
  have hil : iz < comp.length := by omega
  have hcv := hc _ (List.getElem_mem hil)
  have hd := degW_bd (N := 1000) (by omega) hc u 0
  have hd2 : -1000000 ≤ degW comp u 0 ∧ degW comp u 0 ≤ 1000000 := by omega
  have HDN := Lib.hid (show degW comp (u ++ [x]) 0 = degW comp u 0 - comp[iz] from by rw [degW_snoc]; unfold stepD; rw [if_neg (by omega), hi, cg_get hil])
  have e2 : gnr x = (iz : Int) := by unfold gnr; rw [if_neg (by omega), hi]
  have e3 : trm comp (degW comp u 0) x = (degW comp u 0 - comp[iz], -1) := by unfold trm; rw [if_neg (by omega), hi, cg_get hil]
  have HS := Lib.hid (fun W h1 h2 => hP.step u x W h1 h2 hu (by omega) (by omega) (by omega))
  rw [e2, e3] at HS
  simp only at HS
  obtain ⟨cv, hcv2⟩ : ∃ v, v = comp[iz] := ⟨_, rfl⟩
  rw [← hcv2] at hcv HDN HS
  obtain ⟨bz, o, hA, hbl, hcell⟩ := ints_at (hst.ii _ hst.bel) hil
  obtain ⟨c, hvc⟩ := hA
  subst hvc
  rw [← hcv2] at hcell
  clear hcv2 e2 e3 hd hc
  have zi : (iz : Int) < (comp.length : Int) := by omega
  have zx : ¬ (0 < x) := by omega
  have HST := Lib.hid (fun n => (show P u ((W.drewN n).setCell ⟨db, 0, none⟩ (.int .i64 (degW comp u 0 - cv))) ∧ Arr ((W.drewN n).setCell ⟨db, 0, none⟩ (.int .i64 (degW comp u 0 - cv))) ab 70 [.func (.func F) #[] #[.pointer (some ⟨tb, 0, none⟩)]] ∧ Arr ((W.drewN n).setCell ⟨db, 0, none⟩ (.int .i64 (degW comp u 0 - cv))) db 3 [.int .i64 (degW comp u 0 - cv)] ∧ Arr ((W.drewN n).setCell ⟨db, 0, none⟩ (.int .i64 (degW comp u 0 - cv))) cb 22 [.slice (some ⟨bz, o, none⟩) comp.length c] ∧ Below base w ((W.drewN n).setCell ⟨db, 0, none⟩ (.int .i64 (degW comp u 0 - cv))) ∧ base ≤ ((W.drewN n).setCell ⟨db, 0, none⟩ (.int .i64 (degW comp u 0 - cv))).heap.size from
    ⟨hP.far _ _ db (.int .i64 (degW comp u 0)) _ (hP.grow _ _ _ hst.pp (bdrewN (Below.refl _ _) n)) hst.dd, hst.aa.far (p := ⟨db, 0, none⟩) (hst.aa.ne hst.dd (by decide)) _, hst.dd.set 0 _, hst.cc.far (p := ⟨db, 0, none⟩) (hst.cc.ne hst.dd (by decide)) _, (bdrewN hst.bel n).setCell (p := ⟨db, 0, none⟩) hst.bd _, by have := hst.bs; simpa using this⟩))
  have HIB := Lib.hid (And.intro hst.ii hst.bd)
  have x0 := hst.dd.cell 0
  have x1 := hst.dd.frozen 0
  have x2 := hst.cc.cell 0
  clear hst
  generalize degW comp u 0 = d at *
  have hEG := hP.eg
  go_enter Tryd.func58, Tryd.ntmps58
  go_upto_region 3 with fail
  refine wp_region_table 8 (by kernel_rfl) (by kernel_rfl) (by kernel_rfl) (by kernel_rfl) (by kernel_rfl) rfl (by kernel_rfl) (fun i => [Value.int .i64 d, Value.slice (some ⟨bz, o, none⟩) comp.length c, Value.int .i64 x, Value.int .i64 (-x), Value.int .i64 (iz : Int), Value.pointer (some ⟨bz, o + iz, none⟩), Value.int .i64 cv, Value.int .i64 (d - cv), undef].getD i undef) (fun W => W.setCell ⟨db, 0, none⟩ (.int .i64 (d - cv))) ⟨?_, ?_, ?_, ?_, ?_, ?_, ?_, ?_, ?_, trivial⟩ ?_
  · intro m b hb
    have e2 : b.tmps[2]?.getD undef = Value.pointer (some ⟨db, 0, none⟩) := hb 2 rfl
    refine tab_run (by decide) (Value.int .i64 d) rfl ?_
    clear hb
    go_simp
  · intro m b hb
    have e3 : b.tmps[3]?.getD undef = Value.pointer (some ⟨cb, 0, none⟩) := hb 3 rfl
    refine tab_run (by decide) (Value.slice (some ⟨bz, o, none⟩) comp.length c) rfl ?_
    clear hb
    go_simp
  · intro m b hb
    have e0 : b.tmps[0]?.getD undef = Value.int .i64 x := hb 0 rfl
    refine tab_run (by decide) (Value.int .i64 x) rfl ?_
    clear hb
    go_simp
  · intro m b hb
    have e22 : b.tmps[22]?.getD undef = Value.int .i64 x := hb 22 rfl
    refine tab_run (by decide) (Value.int .i64 (-x)) rfl ?_
    clear hb
    go_simp
    exact IntWalk.i64_in _ (by omega)
  · intro m b hb
    have e23 : b.tmps[23]?.getD undef = Value.int .i64 (-x) := hb 23 rfl
    refine tab_run (by decide) (Value.int .i64 (iz : Int)) rfl ?_
    clear hb
    go_simp
    exact IntWalk.i64_in _ (by omega)
  · intro m b hb
    have e21 : b.tmps[21]?.getD undef = Value.slice (some ⟨bz, o, none⟩) comp.length c := hb 21 rfl
    have e24 : b.tmps[24]?.getD undef = Value.int .i64 (iz : Int) := hb 24 rfl
    refine tab_run (by decide) (Value.pointer (some ⟨bz, o + iz, none⟩)) rfl ?_
    clear hb
    go_simp
  · intro m b hb
    have e25 : b.tmps[25]?.getD undef = Value.pointer (some ⟨bz, o + iz, none⟩) := hb 25 rfl
    refine tab_run (by decide) (Value.int .i64 cv) rfl ?_
    clear hb
    go_simp
  · intro m b hb
    have e20 : b.tmps[20]?.getD undef = Value.int .i64 d := hb 20 rfl
    have e26 : b.tmps[26]?.getD undef = Value.int .i64 cv := hb 26 rfl
    refine tab_run (by decide) (Value.int .i64 (d - cv)) rfl ?_
    clear hb
    go_simp
    exact IntWalk.i64_in _ (by omega)
  · intro m b hb
    have e2 : b.tmps[2]?.getD undef = Value.pointer (some ⟨db, 0, none⟩) := hb 2 rfl
    have e27 : b.tmps[27]?.getD undef = Value.int .i64 (d - cv) := hb 27 rfl
    refine tab_store undef rfl _ rfl ?_ rfl
    clear hb
    go_simp
  intro m
  simp only [putAll, dstOf, Act.put, List.map_cons, List.map_nil, List.setIfInBounds_toArray, List.set_cons_succ, List.set_cons_zero, Nat.reduceAdd, List.getD_cons_succ, List.getD_cons_zero]
  clear x0 x1 x2 hcell
  have hst := HST.out m
  generalize (W.drewN m).setCell ⟨db, 0, none⟩ (.int .i64 (d - cv)) = w1 at *
  clear HST
  obtain ⟨hpp, aa, dd, cc, bel, bs⟩ := hst
  have HA := Lib.hid (HS.out w1 bs hpp)
  have y0 := aa.cell 0
  have y1 := dd.cell 0
  have HQ := Lib.hid (And.intro aa (And.intro dd (And.intro cc (And.intro bel bs))))
  have zn : IntKind.i64.wrap (-x - 1) = (iz : Int) := by rw [hi]; exact IntWalk.i64_in _ (by omega)
  clear hpp aa dd cc bel bs HS
  go_wp2_with fail
  refine HA.out.mono ?_
  rintro e w2 ⟨rfl, hpp, hbk, hkt⟩
  obtain ⟨aa, dd, cc, bel, bs⟩ := HQ.out
  have HN := Lib.hid (show DSg F tb base ab db cb P (u ++ [x]) _ comp w w2 from ⟨hpp, hkt _ _ _ aa (by decide) (by decide), by rw [HDN.out]; exact hkt _ _ _ dd (by decide) (by decide), hkt _ _ _ cc (by decide) (by decide), HIB.out.1, bel.trans hbk, HIB.out.2, Nat.le_trans bs hbk.size⟩)
  clear aa dd cc bel bs hkt hpp y0 y1 HA hbk
  go_wp2_with fail
  go_end0
  exact ⟨rfl, HN.out⟩


set_option maxHeartbeats 2000000 in
set_option maxRecDepth 100000 in
theorem gderive_any (F : FuncId) (tb base : Nat) (P : List Int → World → Prop) (vw vc : Value) (ws comp : List Int) (w W : World) (hP : CloG F tb base comp P) (hp0 : P [] W) (hw : ∀ W', Below base w W' → Ints W' vw ws) (hcm : ∀ W', Below base w W' → Ints W' vc comp) (hbel : Below base w W) (hbs : base ≤ W.heap.size)
    (hc : ∀ c ∈ comp, -1000 ≤ c ∧ c ≤ 1000) (hcl : comp.length ≤ 1000000) (hwl : ws.length ≤ 1000) (hx : ∀ x ∈ ws, x ≠ 0 ∧ -(comp.length : Int) ≤ x ∧ x ≤ comp.length) :
    Calls Tryd.prog 32 #[vw, vc, .func (.func F) #[] #[.pointer (some ⟨tb, 0, none⟩)]] W fun e w' => e = .returned (.tuple #[]) ∧ P ws w' ∧ Below base w w' := by
  have hX : ∀ W3, W3 = ((W.alloc (.cells #[vc] 22)).alloc (.cells #[.func (.func F) #[] #[.pointer (some ⟨tb, 0, none⟩)]] 70)).alloc (.cells #[.int .i64 0] 3) → DSg F tb base (W.heap.size + 1) (W.heap.size + 2) W.heap.size P [] vc comp w W3 := by
    intro W3 h
    subst h
    exact ⟨hP.grow _ _ _ hp0 ((((Below.refl _ _).alloc (Nat.le_refl _) _).alloc (by simp) _).alloc (by simp <;> omega) _), (Arr.newAt (W.alloc _) _ [_] _ (by simp)).alloc _, Arr.newAt ((W.alloc _).alloc _) _ [_] _ (by simp), ((Arr.new _ _ [_]).alloc _).alloc _, hcm, ((hbel.alloc hbs _).alloc (by simp; omega) _).alloc (by simp; omega) _, by omega, by simp; omega⟩
  have HN : ∀ (k : Nat) (hk : k < ws.length) (wr : World), DSg F tb base (W.heap.size + 1) (W.heap.size + 2) W.heap.size P (ws.take k) vc comp w wr → Calls Tryd.prog 58 #[.int .i64 ws[k], .pointer (some ⟨W.heap.size + 1, 0, none⟩), .pointer (some ⟨W.heap.size + 2, 0, none⟩), .pointer (some ⟨W.heap.size, 0, none⟩)] wr fun e w' => e = .returned (.tuple #[]) ∧ DSg F tb base (W.heap.size + 1) (W.heap.size + 2) W.heap.size P (ws.take (k + 1)) vc comp w w' := by
    intro k hk wr hst
    obtain ⟨x0, x1, x2⟩ := hx _ (List.getElem_mem hk)
    have hl : (ws.take k).length ≤ 1000 := by simp; omega
    rw [take_snocI hk]
    rcases Int.lt_trichotomy ws[k] 0 with q | q | q
    · exact gnext_neg F tb base _ _ _ P _ _ vc comp w wr hP hst hc hl q (by omega) hcl
    · exact absurd q x0
    · exact gnext_pos F tb base _ _ _ P _ _ vc comp w wr hP hst hc hl q (by omega) hcl
  have HNX := Lib.hid HN
  have hwW := hw W hbel
  obtain ⟨A, c, rfl, -, -⟩ := hwW
  obtain ⟨A2, c2, hvc, -, -⟩ := hcm W hbel
  have HW := Lib.hid hw
  clear HN hw hcm hx hc hP hp0
  subst hvc
  go_enter Tryd.func32, Tryd.ntmps32
  go_upto_region 2 with fail
  have hst0 := hX _ rfl
  clear hX
  generalize (((W.alloc (.cells #[.slice A2 comp.length c2] 22)).alloc (.cells #[.func (.func F) #[] #[.pointer (some ⟨tb, 0, none⟩)]] 70)).alloc (.cells #[.int .i64 0] 3)) = w3 at *
  go_wp2_with fail
  go_loopg [9, 13] ws.length (fun gk s9 s13 wr => ∃ (k : Nat), k ≤ ws.length ∧ gk = ws.length - k ∧ s13 = .int .i64 (k : Int) ∧ DSg F tb base (W.heap.size + 1) (W.heap.size + 2) W.heap.size P (ws.take k) (.slice A2 comp.length c2) comp w wr)
  case atStart => exact ⟨0, Nat.zero_le _, rfl, rfl, hst0⟩
  case round =>
    clear hst0
    obtain ⟨k, hk, rfl, rfl, hst⟩ := hrel
    by_cases hlt : k < ws.length
    · have z1 : (k : Int) < (ws.length : Int) := by omega
      obtain ⟨b, o, ⟨c', hv⟩, hbl, hcell⟩ := ints_at (HW.out wr hst.bel) hlt
      injection hv with hv1 hv2 hv3
      subst hv1 hv3
      clear hv2
      have HC := Lib.hid (HNX.out k hlt wr hst)
      generalize ws[k] = x at *
      clear hst
      go_wp2_with fail
      refine HC.out.mono ?_
      rintro e w5 ⟨rfl, hst5⟩
      go_wp2_with fail
      go_roundg (ws.length - (k + 1))
      case measure => omega
      case rel => exact ⟨k + 1, by omega, rfl, by go_num, hst5⟩
    · have z1 : ¬ ((k : Int) < (ws.length : Int)) := by omega
      obtain rfl : k = ws.length := by omega
      rw [List.take_length] at hst
      have HF := Lib.hid (show P ws wr ∧ Below base w wr from ⟨hst.pp, hst.bel⟩)
      clear hst hlt hk
      go_wp2_with fail
      go_end0
      exact ⟨rfl, HF.out⟩
end Go.Proofs.YtlbihllmpbhhcaaDoor

namespace Go.Proofs.YtlbihllmpbhhcaaDoor
open Go.RowKit
set_option linter.unusedVariables false

/-- what an append to v0 has left as it was; v: the slice that came -/
structure Kpt (B : Nat) (w0 w : World) (v0 v : Value) : Prop where
  bel : Below B w0 w
  keep : ∀ k, k < w0.heap.size → v0.ownBlock ≠ some k → w.heap[k]? = w0.heap[k]?
  blk : ∀ k, v.ownBlock = some k → v0.ownBlock = some k ∨ w0.heap.size ≤ k
section
variable {α : Type}
/-- c: the literal; a: the append; f: the store at p -/
structure ApS (e : TypeId) (sz : Nat) (enc : α → List Value) (B : Nat) (w0 : World) (ev : Nat → Option Value) (c a f : Nat) (v0 : Value) (p : Addr) (L LIT : List α) (D : Nat → Bool) (x : Nat → Value) (w : World) : Prop where
  kn : ∀ i v, ev i = some v → D i = true → x i = v
  pre : D a = false → D f = false → Below w0.heap.size w0 w
  lit : D c = true → D a = false → D f = false → OwnA e sz enc w0.heap.size w (x c) LIT
  mid : D a = true → D f = false → OwnA e sz enc B w (x a) (L ++ LIT) ∧ Kpt B w0 w v0 (x a)
  fin : D f = true → ∃ W v, w = W.setCell p v ∧ OwnA e sz enc B W v (L ++ LIT) ∧ Kpt B w0 W v0 v
variable {e : TypeId} {sz : Nat} {enc : α → List Value} {B : Nat} {w0 w w' : World} {ev : Nat → Option Value} {c a f : Nat} {v0 : Value} {p : Addr} {L LIT : List α} {D : Nat → Bool} {x : Nat → Value}
theorem ApS.start : ApS e sz enc B w0 ev c a f v0 p L LIT (fun _ => false) x w0.drew :=
  ⟨fun i v _ h => Bool.noConfusion h, fun _ _ => (Below.refl _ _).drew, fun h => Bool.noConfusion h, fun h => Bool.noConfusion h, fun h => Bool.noConfusion h⟩
theorem ApS.val (h : ApS e sz enc B w0 ev c a f v0 p L LIT D x w) {i : Nat} {v : Value} (hv : ev i = some v) (h1 : i ≠ c) (h2 : i ≠ a) (h3 : i ≠ f) : ApS e sz enc B w0 ev c a f v0 p L LIT (upd D i true) (upd x i v) w := by
  refine ⟨fun j u hu hd => ?_, fun d1 d2 => ?_, fun d1 d2 d3 => ?_, fun d1 d2 => ?_, fun d => ?_⟩
  · by_cases e : j = i
    · subst e; rw [upd_same]; rw [hv] at hu; injection hu
    · rw [upd_ne _ _ e] at hd ⊢; exact h.kn j u hu hd
  · rw [upd_ne _ _ (Ne.symm h2)] at d1; rw [upd_ne _ _ (Ne.symm h3)] at d2; exact h.pre d1 d2
  · rw [upd_ne _ _ (Ne.symm h1)] at d1 ⊢; rw [upd_ne _ _ (Ne.symm h2)] at d2; rw [upd_ne _ _ (Ne.symm h3)] at d3; exact h.lit d1 d2 d3
  · rw [upd_ne _ _ (Ne.symm h2)] at d1 ⊢; rw [upd_ne _ _ (Ne.symm h3)] at d2; exact h.mid d1 d2
  · rw [upd_ne _ _ (Ne.symm h3)] at d; exact h.fin d
theorem ApS.call (h : ApS e sz enc B w0 ev c a f v0 p L LIT D x w) {v : Value} (hev : ev c = none) (h1 : c ≠ a) (h2 : c ≠ f) (ha : D a = false) (hf : D f = false) (hb : Below w.heap.size w w') (ho : OwnA e sz enc w.heap.size w' v LIT) : ApS e sz enc B w0 ev c a f v0 p L LIT (upd D c true) (upd x c v) w' := by
  have hp := h.pre ha hf
  refine ⟨fun j u hu hd => ?_, fun d1 d2 => hp.trans (hb.mono hp.size), fun d1 d2 d3 => by rw [upd_same]; exact ho.low hp.size, fun d1 d2 => ?_, fun d => ?_⟩
  · have e : j ≠ c := fun e => (by rw [e, hev] at hu; cases hu)
    rw [upd_ne _ _ e] at hd ⊢; exact h.kn j u hu hd
  · rw [upd_ne _ _ (Ne.symm h1), ha] at d1; cases d1
  · rw [upd_ne _ _ (Ne.symm h2), hf] at d; cases d
theorem ApS.app {P : Program} (E : ElA P e sz enc) (h : ApS e sz enc B w0 ev c a f v0 p L LIT D x w) {o : Oper} {b : Act} (sx ux : Operand) (t t2 : TypeId) (ho : o.op = .call { callee := .builtin .append, args := #[sx, ux], argTypes := #[t, t2] })
    (ht : P.underlying t = some (.slice e)) (ht2 : P.underlying t2 = some (.slice e)) (hev : ev a = none) (hca : c ≠ a) (haf : a ≠ f) (hc : D c = true) (ha : D a = false) (hf : D f = false)
    (he1 : b.eval sx = v0) (he2 : b.eval ux = x c) (hv0 : OwnA e sz enc B w0 v0 L) (hB : B ≤ w0.heap.size) (hlen : L.length + LIT.length ≤ 100000000) : o.wp P b w (StepPost (ApS e sz enc B w0 ev c a f v0 p L LIT) D x a b o.dst) NoQ := by
  have hp := h.pre ha hf
  have hl := h.lit hc ha hf
  refine wp_appA (P := P) (base := B) E sx ux t t2 ho ht ht2 he1 (hv0.below hp) he2 hl.sl (by omega) (Nat.le_trans hB hp.size) ?_
  intro v' w' h1 h2 h3 h4
  refine ⟨v', rfl, fun j u hu hd => ?_, fun d1 d2 => ?_, fun d1 d2 d3 => ?_, fun d1 d2 => ?_, fun d => ?_⟩
  · have e : j ≠ a := fun e => (by rw [e, hev] at hu; cases hu)
    rw [upd_ne _ _ e] at hd ⊢; exact h.kn j u hu hd
  · rw [upd_same] at d1; cases d1
  · rw [upd_same] at d2; cases d2
  · rw [upd_same]
    refine ⟨h1, (hp.mono hB).trans h2, fun k hk hne => (h3 k (Nat.lt_of_lt_of_le hk hp.size) hne).trans (hp.block k hk), fun k hk => ?_⟩
    rcases h4 with q | q
    · rw [q] at hk; exact .inl hk
    · rw [q] at hk
      injection hk with hk
      subst hk
      exact .inr hp.size
  · rw [upd_ne _ _ (Ne.symm haf), hf] at d; cases d
theorem ApS.store (h : ApS e sz enc B w0 ev c a f v0 p L LIT D x w) (hev : ev f = none) (ha : D a = true) (hf : D f = false) (v : Value) : ApS e sz enc B w0 ev c a f v0 p L LIT (upd D f true) (upd x f v) (w.setCell p (x a)) := by
  obtain ⟨m1, m2⟩ := h.mid ha hf
  refine ⟨fun j u hu hd => ?_, fun d1 d2 => ?_, fun d1 d2 d3 => ?_, fun d1 d2 => ?_, fun d => ⟨w, x a, rfl, m1, m2⟩⟩
  · have e : j ≠ f := fun e => (by rw [e, hev] at hu; cases hu)
    rw [upd_ne _ _ e] at hd ⊢; exact h.kn j u hu hd
  · rw [upd_same] at d2; cases d2
  · rw [upd_same] at d3; cases d3
  · rw [upd_same] at d2; cases d2
theorem Kpt.arr {g : Nat} {t : TypeId} {cs : List Value} {v : Value} (h : Kpt B w0 w v0 v) (hg : Arr w0 g t cs) (hne : v0.ownBlock ≠ some g) : Arr w g t cs := (h.keep g hg.lt hne).trans hg
/-- a block that the append does not write, at any time before the store -/
theorem ApS.arrK (h : ApS e sz enc B w0 ev c a f v0 p L LIT D x w) (hf : D f = false) {g : Nat} {t : TypeId} {cs : List Value} (hg : Arr w0 g t cs) (hne : v0.ownBlock ≠ some g) : Arr w g t cs := by
  cases ha : D a with
  | false => exact hg.below (h.pre ha hf) hg.lt
  | true => exact (h.mid ha hf).2.arr hg hne
end
end Go.Proofs.YtlbihllmpbhhcaaDoor
