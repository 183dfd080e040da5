/- package unknot: explore. -/
/- package unknot: Decide. -/
/- package unravellaw45: awake, great. -/
import Derived.Test.YteliflcbegcdlaaGreatDoorWwPlr
import Derived.Test.YteliflcbegcdlaaGreatDoorWwCmp
import Derived.Test.YteliflcbegcdlaaGreatDoorWwKln
import Derived.Test.YteliflcbegcdlaaGreatDoorWwPth
import Derived.Test.YteliflcbegcdlaaGreatDoorWwPlc
namespace Go.Proofs.YteliflcbegcdlaaGreatDoor
open Go.RowKit Go.Shelf
set_option linter.unusedVariables false
attribute [local go_sem] Oper.semAt_some
/-- the boxes of explore's start -/
structure Ex0 (n0 b3 b4 b6 b7 b8 : Nat) (g : List Value) (most : Int) (w W : World) : Prop where
  bel : Below n0 w W
  le : n0 ≤ W.heap.size
  x3 : Arr W b3 24 g
  x4 : Arr W b4 3 [.int .i64 most]
  x6 : ∃ v, Arr W b6 44 [.pointer v]
  x7 : ∃ v, Arr W b7 9 [.string v]
  x8 : Arr W b8 28 [.int .i64 0]
theorem Ex0.below {n0 b3 b4 b6 b7 b8 : Nat} {g : List Value} {most : Int} {w W W' : World} (h : Ex0 n0 b3 b4 b6 b7 b8 g most w W) (hb : Below W.heap.size W W') : Ex0 n0 b3 b4 b6 b7 b8 g most w W' := by
  obtain ⟨v6, h6⟩ := h.x6
  obtain ⟨v7, h7⟩ := h.x7
  have h8 := h.x8
  exact ⟨h.bel.trans (hb.mono h.le), Nat.le_trans h.le hb.size, h.x3.below hb h.x3.lt, h.x4.below hb h.x4.lt, ⟨v6, h6.below hb h6.lt⟩, ⟨v7, h7.below hb h7.lt⟩, h8.below hb h8.lt⟩
theorem arr_ne {W : World} {b b' : Nat} {t t' : TypeId} {a a' : List Value} (h : Arr W b t a) (h' : Arr W b' t' a') (ht : t ≠ t') : b ≠ b' := by
  rintro rfl
  have h1 : W.heap[_]? = _ := h
  have h2 : W.heap[_]? = _ := h'
  rw [h1] at h2
  injection h2 with h2
  injection h2 with _ h2 _
  exact ht h2
/-- the results of explore -/
def Rs3 (b6 b7 b8 : Nat) (v6 v7 v8 : Value) (W : World) : Prop := Arr W b6 44 [v6] ∧ Arr W b7 9 [v7] ∧ Arr W b8 28 [v8]
theorem rs3_set {b6 b7 b8 : Nat} {u6 u7 u8 : Value} {W : World} (h6 : Arr W b6 44 [u6]) (h7 : Arr W b7 9 [u7]) (h8 : Arr W b8 28 [u8]) (v6 v7 v8 : Value) :
    Rs3 b6 b7 b8 v6 v7 v8 (((W.setCell ⟨b6, 0, none⟩ v6).setCell ⟨b7, 0, none⟩ v7).setCell ⟨b8, 0, none⟩ v8) := by
  have n67 := arr_ne h6 h7 (by decide)
  have n68 := arr_ne h6 h8 (by decide)
  have n78 := arr_ne h7 h8 (by decide)
  exact ⟨((h6.set 0 v6).far (p := ⟨b7, 0, none⟩) n67 v7).far (p := ⟨b8, 0, none⟩) n68 v8, ((h7.far (p := ⟨b6, 0, none⟩) (Ne.symm n67) v6).set 0 v7).far (p := ⟨b8, 0, none⟩) n78 v8, ((h8.far (p := ⟨b6, 0, none⟩) (Ne.symm n68) v6).far (p := ⟨b7, 0, none⟩) (Ne.symm n78) v7).set 0 v8⟩
theorem rs3_below {n0 b6 b7 b8 : Nat} {w W : World} (h : Below n0 w W) (hl : n0 ≤ W.heap.size) (l6 : n0 ≤ b6) (l7 : n0 ≤ b7) (l8 : n0 ≤ b8) (v6 v7 v8 : Value) : Below n0 w (((W.setCell ⟨b6, 0, none⟩ v6).setCell ⟨b7, 0, none⟩ v7).setCell ⟨b8, 0, none⟩ v8) :=
  ((h.setCell (p := ⟨b6, 0, none⟩) l6 v6).setCell (p := ⟨b7, 0, none⟩) l7 v7).setCell (p := ⟨b8, 0, none⟩) l8 v8
theorem rs3_run {b6 b7 b8 : Nat} {v6 v7 v8 : Value} {W : World} {tmps : Array Value} (h : Rs3 b6 b7 b8 v6 v7 v8 W) (h6 : tmps[6]?.getD undef = .pointer (some ⟨b6, 0, none⟩)) (h7 : tmps[7]?.getD undef = .pointer (some ⟨b7, 0, none⟩)) (h8 : tmps[8]?.getD undef = .pointer (some ⟨b8, 0, none⟩)) :
    (results Tryz.f15 tmps).run Tryz.prog W = .ok (.tuple #[v6, v7, v8]) W := by
  have c6 := h.1.cell 0
  have c7 := h.2.1.cell 0
  have c8 := h.2.2.cell 0
  have hr : (Tryz.f15).results = #[.cell 6 44, .cell 7 9, .cell 8 28] := rfl
  have a6 := Tryz.isAgg44 W
  have a7 := Tryz.isAgg9 W
  have a8 := Tryz.isAgg28 W
  simp only [List.getElem?_cons_zero] at c6 c7 c8
  simp [results, hr, h6, h7, h8, asAddr, loadVar, a6, a7, a8, c6, c7, c8]
theorem run_mkMap (t : TypeId) (w : World) : Sem.run Tryz.prog (Instr.makeMap t none) w = .ok (.map (some w.heap.size)) (w.alloc (.map #[] 0)) := by
  simp [Instr.makeMap, Result.andThen]
theorem below_put {n0 D : Nat} {w W : World} {o : Obj} (h : Below n0 w W) (hD : n0 ≤ D) : Below n0 w (W.putObj D o) :=
  ⟨h.os, h.tape, h.output, by rw [World.putObj_size]; exact h.size, fun b hb => (World.putObj_heap_other (by omega)).trans (h.block b hb)⟩
/-- the state at the start -/
def ag44 (m1 m2 : Nat) : List Value := .map (some m1) :: .map (some m2) :: .slice none 0 0 :: List.replicate 41 (.slice none 0 0)
def p00 (m1 m2 : Nat) : SP := ⟨m1, m2, .slice none 0 0, List.replicate 41 (.slice none 0 0), [], 0, 0⟩
theorem si_start (w : World) : SI (w.heap.size + 1 + 1) (((w.alloc (.map #[] 0)).alloc (.map #[] 0)).alloc (.cells (rowOf (ag44 w.heap.size (w.heap.size + 1))) 52)) st00 (p00 w.heap.size (w.heap.size + 1)) := by
  have h1 : MpS (w.alloc (.map #[] 0)) w.heap.size [] 0 := MpS.new w
  have h2 : MpS ((w.alloc (.map #[] 0)).alloc (.map #[] 0)) (w.heap.size + 1) [] 0 := by
    have := MpS.new (w.alloc (.map #[] 0))
    simp only [World.size_alloc] at this
    exact this
  have hrep : ∀ (i : Nat) v, (List.replicate 41 (Value.slice none 0 0))[i]? = some v → v = .slice none 0 0 := fun i v h => List.eq_of_mem_replicate (List.mem_of_getElem? h)
  refine ⟨?_, rfl, rfl, by simp [p00], ?_, ?_, ⟨rfl, fun i q e h => by simp [p00] at h⟩, ⟨[], QA.nil _ _ _ _ _, trivial⟩, ?_, ?_, ?_⟩
  · have := Arr.new ((w.alloc (.map #[] 0)).alloc (.map #[] 0)) 52 (ag44 w.heap.size (w.heap.size + 1))
    simp only [World.size_alloc] at this
    exact this
  · refine h1.keep ?_
    exact (Below.heap_alloc _ _ _ (by simp only [World.size_alloc]; omega)).trans (Below.heap_alloc _ _ _ (by simp only [World.size_alloc]; omega))
  · refine h2.keep ?_
    exact Below.heap_alloc _ _ _ (by simp only [World.size_alloc]; show w.heap.size + 1 < _; omega)
  · intro i v gs hv hgs
    have e1 := hrep i v hv
    have e2 : gs = [] := List.eq_of_mem_replicate (List.mem_of_getElem? hgs)
    subst e1; subst e2
    exact ⟨[], QA.nil _ _ _ _ _, trivial⟩
  · intro i v b hv hb
    rw [hrep i v hv] at hb; cases hb
  · intro i j v u b hv hu hij hb
    rw [hrep i v hv] at hb; cases hb
theorem ow_start {w : World} {b : Nat} (h : Ow (w.heap.size + 1 + 1) (p00 w.heap.size (w.heap.size + 1)) b) : w.heap.size ≤ b := by
  rcases h with h | h | h | h | ⟨v, hv, h⟩
  · omega
  · rw [h]; exact Nat.le_refl _
  · rw [h]; show w.heap.size ≤ w.heap.size + 1; omega
  · cases h
  · rw [List.eq_of_mem_replicate hv] at h; cases h
theorem gres_gv {w : World} {g : Gd} {e : Ending} {w' : World} (h : GRes w.heap.size w (0, g.1, g.2) e w') : ∃ q : GV, e = .returned (.tuple #[.agg #[sv q.1, sv q.2], .int .i64 0]) ∧ GvI w' q g ∧ Below w.heap.size w w' := by
  obtain ⟨hb, v, he, hv⟩ := h
  rw [if_pos rfl] at hv
  obtain ⟨gx, go, rfl, _, _, _, hx, ho⟩ := hv
  exact ⟨((some ⟨gx, 0, none⟩, g.1.length, g.1.length), (some ⟨go, 0, none⟩, g.2.length, g.2.length)), he, ⟨Ints.of_arr hx, Ints.of_arr ho⟩, hb⟩
/-- what the loop of explore keeps -/
structure LpI (n0 b4 b6 b7 b8 b9 gS : Nat) (most : Int) (w : World) (s : St) (p : SP) (Ds : List Nat) (W : World) : Prop where
  si : SI gS W s p
  st : StP s
  ow : ∀ b, Ow gS p b → n0 ≤ b
  ex : ExB n0 b4 b6 b7 b8 b9 gS most w W
  mks : MkD n0 Ds W
theorem LpI.below {n0 b4 b6 b7 b8 b9 gS : Nat} {most : Int} {w W W' : World} {s : St} {p : SP} {Ds : List Nat} (h : LpI n0 b4 b6 b7 b8 b9 gS most w s p Ds W) (hb : Below W.heap.size W W') : LpI n0 b4 b6 b7 b8 b9 gS most w s p Ds W' :=
  ⟨h.si.below hb, h.st, h.ow, h.ex.below hb, h.mks.keep fun D hD => hb.block D (h.mks.lt D hD)⟩
/-- the three stores leave the state and the marks as they were -/
theorem rs3_keeps {n0 b4 b6 b7 b8 b9 gS : Nat} {most : Int} {w W : World} {s : St} {p : SP} {Ds : List Nat} (h : LpI n0 b4 b6 b7 b8 b9 gS most w s p Ds W) (v6 v7 : Value) :
    SI gS (((W.setCell ⟨b6, 0, none⟩ v6).setCell ⟨b7, 0, none⟩ v7).setCell ⟨b8, 0, none⟩ (.int .i64 0)) s p := by
  obtain ⟨u6, h6⟩ := h.ex.x6
  obtain ⟨u7, h7⟩ := h.ex.x7
  have h8 := h.ex.x8
  have n86 : b8 ≠ b6 := arr_ne h8 h6 (by decide)
  have n87 : b8 ≠ b7 := arr_ne h8 h7 (by decide)
  have e8 : (((W.setCell ⟨b6, 0, none⟩ v6).setCell ⟨b7, 0, none⟩ v7).setCell ⟨b8, 0, none⟩ (.int .i64 0)).heap[b8]? = W.heap[b8]? := by
    have a := (((h8.far (p := ⟨b6, 0, none⟩) n86 v6).far (p := ⟨b7, 0, none⟩) n87 v7).set 0 (.int .i64 0))
    have a1 : _ = some (Obj.cells _ _ _) := a
    have a2 : W.heap[b8]? = some (Obj.cells _ _ _) := h8
    rw [a1, a2]; rfl
  have hff : ∀ b, b ≠ b6 → b ≠ b7 → (((W.setCell ⟨b6, 0, none⟩ v6).setCell ⟨b7, 0, none⟩ v7).setCell ⟨b8, 0, none⟩ (.int .i64 0)).heap[b]? = W.heap[b]? := fun b h1 h2 => by
    by_cases e : b = b8
    · rw [e]; exact e8
    · exact (Below.heap_setCell _ ⟨b8, 0, none⟩ _ b (fun k => e k)).trans ((Below.heap_setCell _ ⟨b7, 0, none⟩ _ b (fun k => h2 k)).trans (Below.heap_setCell _ ⟨b6, 0, none⟩ _ b (fun k => h1 k)))
  refine h.si.hold (fun b hb => hff b ?_ ?_) (fun b i k n hc => hff b ?_ ?_)
  · rintro rfl; exact h.si.other h6 (by decide) (by decide) hb
  · rintro rfl; exact h.si.other h7 (by decide) (by decide) hb
  · rintro rfl
    rw [h6.cell i] at hc
    cases i with
    | zero => cases hc
    | succ i => simp at hc
  · rintro rfl
    rw [h7.cell i] at hc
    cases i with
    | zero => cases hc
    | succ i => simp at hc
theorem rs3_mks {n0 b6 b7 b8 : Nat} {t6 t7 t8 : TypeId} {u6 u7 u8 : Value} {W : World} {Ds : List Nat} (h : MkD n0 Ds W) (h6 : Arr W b6 t6 [u6]) (h7 : Arr W b7 t7 [u7]) (h8 : Arr W b8 t8 [u8]) (v6 v7 v8 : Value) : MkD n0 Ds (((W.setCell ⟨b6, 0, none⟩ v6).setCell ⟨b7, 0, none⟩ v7).setCell ⟨b8, 0, none⟩ v8) := by
  have ne : ∀ {b D : Nat} {t : TypeId} {u : Value}, Arr W b t [u] → W.heap[D]? = some (.deferred (some [])) → D ≠ b := fun ha hd e => by
    subst e
    have ha' : W.heap[_]? = _ := ha
    rw [hd] at ha'; cases ha'
  refine h.keep fun D hD => ?_
  have hd := (h.2 D hD).2
  exact (Below.heap_setCell _ ⟨b8, 0, none⟩ _ D (fun k => ne h8 hd k)).trans ((Below.heap_setCell _ ⟨b7, 0, none⟩ _ D (fun k => ne h7 hd k)).trans (Below.heap_setCell _ ⟨b6, 0, none⟩ _ D (fun k => ne h6 hd k)))
theorem act_gen {P : Program} {code : Code} {Q : Exit → Act → World → Prop} {w : World} {a : Act} (F : (Nat → Value) → Act) (h : ∀ U, code.wp P Q (F U) w) (e : F (fun i => a.tmps[i]?.getD undef) = a) : code.wp P Q a w := e ▸ h _
theorem MkD.putL {n0 l : Nat} {Ds : List Nat} {W : World} {o : Obj} (h : MkD n0 Ds W) (hl : Lp l W) : MkD n0 Ds (W.putObj l o) := h.keep fun D hD => World.putObj_heap_other (fun e => by
  obtain ⟨r, hl⟩ := hl
  have := (h.2 D hD).2
  rw [e, hl] at this
  cases this)
theorem LpI.putL {n0 b4 b6 b7 b8 b9 gS l : Nat} {most : Int} {w W : World} {s : St} {p : SP} {Ds : List Nat} {o : Obj} (h : LpI n0 b4 b6 b7 b8 b9 gS most w s p Ds W) (hl : Lp l W) (hn : n0 ≤ l) : LpI n0 b4 b6 b7 b8 b9 gS most w s p Ds (W.putObj l o) :=
  ⟨h.si.putN hl.nc, h.st, h.ow, h.ex.putN hl.nc hn, h.mks.putL hl⟩
/-- what a round has taken up -/
def AxE (F : Value → Value → Nat → Act) (v ug : Value) (a' : Act) (W1 : World) : Prop := ∃ (q : GV) (b17 : Nat), ug = .agg #[sv q.1, sv q.2] ∧ a' = F v ug b17 ∧ Arr W1 b17 24 [sv q.1, sv q.2]
theorem GdI.gq {W : World} {q : GV} {g : Gd} (h : GdI W (.agg #[sv q.1, sv q.2]) g) : GvI W q g := by
  obtain ⟨A, n, c, B, m, d, e, a, b⟩ := h
  injection e with e
  injection e with e
  injection e with e1 e
  injection e with e2 _
  exact ⟨by rw [e1]; exact a, by rw [e2]; exact b⟩
theorem two6_kf {gS D : Nat} {W W' : World} {s : St} {p : SP} {r : Loop} (h : SI gS W s p) (k : Kf gS p W W') (t : Two6 D r W) : Two6 D r W' := by
  refine ⟨(k.keep D (Array.getElem?_eq_some_iff.1 t.mark).1 fun hb => ?_).trans t.mark, (k.keep (D + 1) (Array.getElem?_eq_some_iff.1 t.lrec).1 fun hb => ?_).trans t.lrec⟩
  · have hd := t.mark
    rcases h.typ hb with ⟨es, c, e⟩ | ⟨cs, t, fr, e, _⟩ <;> (rw [hd] at e; cases e)
  · have hd := t.lrec
    rcases h.typ hb with ⟨es, c, e⟩ | ⟨cs, t, fr, e, _⟩ <;> (rw [hd] at e; cases e)
theorem two6_set {D b : Nat} {W : World} {t : TypeId} {u v : Value} {r : Loop} (h : Two6 D r W) (ha : Arr W b t [u]) : Two6 D r (W.setCell ⟨b, 0, none⟩ v) := by
  have ha' : W.heap[b]? = _ := ha
  refine ⟨(Below.heap_setCell W ⟨b, 0, none⟩ v D fun e => ?_).trans h.mark, (Below.heap_setCell W ⟨b, 0, none⟩ v (D + 1) fun e => ?_).trans h.lrec⟩
  · have := h.mark
    rw [show D = b from e, ha'] at this; cases this
  · have := h.lrec
    rw [show D + 1 = b from e, ha'] at this; cases this
/-- what the range over the neighbors keeps, k of them having been added -/
def RgI (n0 b4 b6 b7 b8 b9 gS b15 gB : Nat) (most : Int) (w : World) (Ds : List Nat) (h : Gd) (s0 : St) (cs : List Value) (k : Nat) (W : World) : Prop :=
  ∃ s p, addAll most (some (lstM h)) s0 ((nbrs h).take k) = some s ∧ LpI n0 b4 b6 b7 b8 b9 gS most w s p Ds W ∧ Arr W b15 9 [.string ⟨(fmG (lstM h)).toArray⟩] ∧ Arr W gB 24 cs ∧ ¬ Ow gS p gB
/-- what it ends with where there is no room -/
def RgX (n0 b6 b7 b8 : Nat) (most : Int) (w : World) (Ds : List Nat) (h : Gd) (s0 : St) (W : World) : Prop :=
  addAll most (some (lstM h)) s0 (nbrs h) = none ∧ Rs3 b6 b7 b8 (.pointer none) (.string ⟨#[]⟩) (.int .i64 13) W ∧ Below n0 w W ∧ n0 ≤ W.heap.size ∧ MkD n0 Ds W
section
variable {n0 b4 b6 b7 b8 b9 gS b15 gB k l : Nat} {most : Int} {w W W' : World} {Ds : List Nat} {h : Gd} {s0 : St} {cs : List Value} {o : Obj}
theorem RgI.below (hh : RgI n0 b4 b6 b7 b8 b9 gS b15 gB most w Ds h s0 cs k W) (hb : Below W.heap.size W W') : RgI n0 b4 b6 b7 b8 b9 gS b15 gB most w Ds h s0 cs k W' := by
  obtain ⟨s, p, h1, h2, h3, h4, h5⟩ := hh
  exact ⟨s, p, h1, h2.below hb, h3.below hb h3.lt, h4.below hb h4.lt, h5⟩
theorem RgI.put (hh : RgI n0 b4 b6 b7 b8 b9 gS b15 gB most w Ds h s0 cs k W) (hl : Lp l W) (hn : n0 ≤ l) : RgI n0 b4 b6 b7 b8 b9 gS b15 gB most w Ds h s0 cs k (W.putObj l o) := by
  obtain ⟨s, p, h1, h2, h3, h4, h5⟩ := hh
  exact ⟨s, p, h1, h2.putL hl hn, hl.nc.arr h3, hl.nc.arr h4, h5⟩
theorem RgX.below (hh : RgX n0 b6 b7 b8 most w Ds h s0 W) (hb : Below W.heap.size W W') : RgX n0 b6 b7 b8 most w Ds h s0 W' := by
  obtain ⟨h1, ⟨h2, h3, h4⟩, h5, h6, h7⟩ := hh
  exact ⟨h1, ⟨h2.below hb h2.lt, h3.below hb h3.lt, h4.below hb h4.lt⟩, h5.trans (hb.mono h6), Nat.le_trans h6 hb.size, h7.keep fun D hD => hb.block D (h7.lt D hD)⟩
theorem RgX.put (hh : RgX n0 b6 b7 b8 most w Ds h s0 W) (hl : Lp l W) (hn : n0 ≤ l) : RgX n0 b6 b7 b8 most w Ds h s0 (W.putObj l o) := by
  obtain ⟨h1, ⟨h2, h3, h4⟩, h5, h6, h7⟩ := hh
  exact ⟨h1, ⟨hl.nc.arr h2, hl.nc.arr h3, hl.nc.arr h4⟩, below_put h5 hn, by rw [World.putObj_size]; exact h6, h7.putL hl⟩
end
theorem exl (a : Act) (F : (Nat → Value) → Act) (h : F (fun i => a.tmps[i]?.getD undef) = a) : ∃ u, a = F u := ⟨_, h.symm⟩
/-- how explore ends -/
theorem ex_end {tmps : Array Value} {R : Ending → World → Prop} {v6 v7 v8 : Value} {n0 b6 b7 b8 : Nat} {w : World} (J : World → Prop) (hJ : ∀ W D o, Nc D W → J W → J (W.putObj D o))
    (h6 : tmps[6]?.getD undef = .pointer (some ⟨b6, 0, none⟩)) (h7 : tmps[7]?.getD undef = .pointer (some ⟨b7, 0, none⟩)) (h8 : tmps[8]?.getD undef = .pointer (some ⟨b8, 0, none⟩))
    (hP : ∀ W, J W → Below n0 w W → R (.returned (.tuple #[v6, v7, v8])) W) (Ds : List Nat) (W : World) (hm : MkD n0 Ds W) (hr : Rs3 b6 b7 b8 v6 v7 v8 W) (hb : Below n0 w W) (hj : J W) :
    LeavesInM Fence.wide 9 Tryz.prog Tryz.f15 tmps R (Ds.map mrkD) .returning W := by
  refine leaves_mrkD (N := n0) (fun W => Rs3 b6 b7 b8 v6 v7 v8 W ∧ Below n0 w W ∧ J W) ?_ ?_ Ds W hm ⟨hr, hb, hj⟩
  · rintro W D hD ⟨a, b, c⟩ hK
    have hn := Nc.of_def hK
    exact ⟨⟨hn.arr a.1, hn.arr a.2.1, hn.arr a.2.2⟩, below_put b hD, hJ W D _ hn c⟩
  · rintro W ⟨a, b, c⟩
    exact ⟨_, rs3_run a h6 h7 h8, hP W c b⟩
/-- what explore hands back -/
def ExP (most : Int) (short : Bool) (g : Gd) (w : World) (e : Ending) (w' : World) : Prop :=
  Below w.heap.size w w' ∧
  ((¬ VdG g ∧ e = .returned (.tuple #[.pointer none, .string ⟨#[]⟩, .int .i64 1])) ∨
   (VdG g ∧ 1 < comp g.1 g.2 ∧ e = .returned (.tuple #[.pointer none, .string ⟨#[]⟩, .int .i64 16])) ∨
   (VdG g ∧ comp g.1 g.2 ≤ 1 ∧ ∃ r, Exq most short g r ∧
     ((r = .fuel ∧ e = .returned (.tuple #[.pointer none, .string ⟨#[]⟩, .int .i64 13])) ∨
      ∃ K W gS p, SI gS w' (K, W) p ∧ StP (K, W) ∧ (∀ b, Ow gS p b → w.heap.size ≤ b) ∧
        ((r = .done K ∧ e = .returned (.tuple #[.pointer (some ⟨gS, 0, none⟩), .string ⟨#[]⟩, .int .i64 0])) ∨
         ∃ c, r = .found K c ∧ e = .returned (.tuple #[.pointer (some ⟨gS, 0, none⟩), .string ⟨(fmG c).toArray⟩, .int .i64 0])))))
set_option maxHeartbeats 4000000 in
set_option maxRecDepth 100000 in
theorem explore_anyW (vx vo : Value) (X O : List Int) (most : Int) (short : Bool) (w : World) (hX : Ints w vx X) (hO : Ints w vo O) (lX : X.length ≤ 1000) (lO : O.length ≤ 1000) (hm : most ≤ 90000000 ∨ X.length ≤ 5) (ht : Tb w) :
    Calls Tryz.prog 15 #[.agg #[vx, vo], .int .i64 most, .bool short] w (ExP most short (X, O) w) := by
  have HX := Lib.hid (fun W (hb : Below w.heap.size w W) => hX.below hb)
  have HO := Lib.hid (fun W (hb : Below w.heap.size w W) => hO.below hb)
  have HT := Lib.hid (fun W (hb : Below w.heap.size w W) => ht.below hb)
  have HV := Lib.hid (fun W (hb : Below w.heap.size w W) => valid_any vx vo X O W (hX.below hb) (hO.below hb) lX lO)
  have HC := Lib.hid (fun W (hv : Vd X O) (hb : Below w.heap.size w W) => components_any vx vo X O W (hX.below hb) (hO.below hb) hv)
  have HSH := Lib.hid (fun W (hb : Below w.heap.size w W) => shift_any vx vo X O 0 0 W (hX.below hb) (hO.below hb) lX lO)
  have HM := Lib.hid hm
  obtain ⟨A, c, rfl, hc, -⟩ := hX
  obtain ⟨A2, c2, rfl, hc2, -⟩ := hO
  obtain ⟨nX, hnX⟩ : ∃ n, n = X.length := ⟨_, rfl⟩
  obtain ⟨nO, hnO⟩ : ∃ n, n = O.length := ⟨_, rfl⟩
  rw [← hnX] at hc lX HX HV HC HSH ⊢
  rw [← hnO] at hc2 lO HO HV HC HSH ⊢
  have HNX := Lib.hid hnX
  have HNO := Lib.hid hnO
  clear ht hm hc hc2 lX lO hnX hnO
  refine (callsIn_wide (n := 9)).1 ?_
  refine callsIn_of_wp_marks Tryz.func15 rfl trivial ?_ rfl
  simp only [Tryz.ntmps15, List.size_toArray, List.length_cons, List.length_nil, Nat.reduceAdd, Nat.reduceSub, Array.replicate_succ, Array.replicate_zero, List.push_toArray, List.append_toArray, List.nil_append, List.cons_append]
  refine wpIn_wide.2 ?_
  go_upto_region 1 with fail
  obtain ⟨n0, hn0⟩ : ∃ n, n = w.heap.size := ⟨_, rfl⟩
  rw [← hn0] at HX HO HT HV HC HSH
  have hW : ∀ W, W = (((((w.alloc (.cells #[.slice A nX c, .slice A2 nO c2] 24)).alloc (.cells #[.int .i64 most] 3)).alloc (.cells #[.pointer none] 44)).alloc (.cells #[.string ⟨#[]⟩] 9)).alloc (.cells #[.int .i64 0] 28)) →
      Ex0 n0 w.heap.size (w.heap.size + 1) (w.heap.size + 1 + 1) (w.heap.size + 1 + 1 + 1) (w.heap.size + 1 + 1 + 1 + 1) [.slice A nX c, .slice A2 nO c2] most w W := by
    rintro W rfl
    refine ⟨by rw [hn0]; exact ((((((Below.refl _ _).alloc (Nat.le_refl _) _).alloc (by simp only [World.size_alloc]; omega) _).alloc (by simp only [World.size_alloc]; omega) _).alloc (by simp only [World.size_alloc]; omega) _).alloc (by simp only [World.size_alloc]; omega) _), by rw [hn0]; simp only [World.size_alloc]; omega, ?_, ?_, ⟨none, ?_⟩, ⟨⟨#[]⟩, ?_⟩, ?_⟩
    · exact ((((Arr.new w _ [_, _]).alloc _).alloc _).alloc _).alloc _
    · have := Arr.new (w.alloc (.cells #[.slice A nX c, .slice A2 nO c2] 24)) 3 [.int .i64 most]
      simp at this
      exact ((this.alloc _).alloc _).alloc _
    · have := Arr.new ((w.alloc (.cells #[.slice A nX c, .slice A2 nO c2] 24)).alloc (.cells #[.int .i64 most] 3)) 44 [.pointer none]
      simp at this
      exact (this.alloc _).alloc _
    · have := Arr.new (((w.alloc (.cells #[.slice A nX c, .slice A2 nO c2] 24)).alloc (.cells #[.int .i64 most] 3)).alloc (.cells #[.pointer none] 44)) 9 [.string ⟨#[]⟩]
      simp at this
      exact this.alloc _
    · have := Arr.new ((((w.alloc (.cells #[.slice A nX c, .slice A2 nO c2] 24)).alloc (.cells #[.int .i64 most] 3)).alloc (.cells #[.pointer none] 44)).alloc (.cells #[.string ⟨#[]⟩] 9)) 28 [.int .i64 0]
      simp at this
      exact this
  generalize (((((w.alloc (.cells #[.slice A nX c, .slice A2 nO c2] 24)).alloc (.cells #[.int .i64 most] 3)).alloc (.cells #[.pointer none] 44)).alloc (.cells #[.string ⟨#[]⟩] 9)).alloc (.cells #[.int .i64 0] 28)) = w1 at hW ⊢
  have E1 := Lib.hid (hW w1 rfl)
  clear hW
  obtain ⟨b3, hb3⟩ : ∃ n, n = w.heap.size := ⟨_, rfl⟩
  rw [← hb3] at E1 ⊢
  obtain ⟨b4, hb4⟩ : ∃ n, n = b3 + 1 := ⟨_, rfl⟩
  rw [← hb4] at E1 ⊢
  obtain ⟨b6, hb6⟩ : ∃ n, n = b4 + 1 := ⟨_, rfl⟩
  rw [← hb6] at E1 ⊢
  have L6 := Lib.hid (show n0 ≤ b6 by omega)
  obtain ⟨b7, hb7⟩ : ∃ n, n = b6 + 1 := ⟨_, rfl⟩
  rw [← hb7] at E1 ⊢
  have L7 := Lib.hid (show n0 ≤ b7 by omega)
  obtain ⟨b8, hb8⟩ : ∃ n, n = b7 + 1 := ⟨_, rfl⟩
  rw [← hb8] at E1 ⊢
  have L8 := Lib.hid (show n0 ≤ b8 by omega)
  have L4 := Lib.hid (show n0 ≤ b4 by omega)
  clear hb3 hb4 hb6 hb7 hb8
  have HN0 := Lib.hid hn0
  clear hn0
  have y0 := E1.out.x3.cell 0
  have y1 := E1.out.x3.cell 1
  by_cases hv : Vd X O
  · have zv : validB X O = true := (validB_iff X O).2 hv
    have HVD := Lib.hid hv
    have HV1 := Lib.hid (HV.out w1 E1.out.bel)
    rw [zv] at HV1
    clear hv zv
    go_upto_region 3 with (go_at_call 28; refine HV1.out.mono ?_; rintro e2 w2 ⟨rfl, hb2⟩)
    have E2 := Lib.hid (E1.out.below hb2)
    clear y0 y1 hb2 HV1 E1
    have y0 := E2.out.x3.cell 0
    have y1 := E2.out.x3.cell 1
    have HC2 := Lib.hid (HC.out w2 HVD.out E2.out.bel)
    obtain ⟨cm, hcm⟩ : ∃ k, k = comp X O := ⟨_, rfl⟩
    rw [← hcm] at HC2
    have HCM := Lib.hid hcm
    clear hcm
    by_cases hc1 : 1 < cm
    · have z1 : (1 : Int) < (cm : Int) := by omega
      go_upto_region 4 with (go_at_call 33; refine HC2.out.mono ?_; rintro e3 w3 ⟨rfl, hb3⟩)
      have E3 := Lib.hid (E2.out.below hb3)
      clear y0 y1 hb3 HC2 E2
      obtain ⟨v6, h6⟩ := E3.out.x6
      obtain ⟨v7, h7⟩ := E3.out.x7
      have h8 := E3.out.x8
      have y6 := h6.cell 0
      have y7 := h7.cell 0
      have y8 := h8.cell 0
      have f6 := h6.frozen 0
      have f7 := h7.frozen 0
      have f8 := h8.frozen 0
      have n67 : ¬ b6 = b7 := arr_ne h6 h7 (by decide)
      have n68 : ¬ b6 = b8 := arr_ne h6 h8 (by decide)
      have n78 : ¬ b7 = b8 := arr_ne h7 h8 (by decide)
      have n76 : ¬ b7 = b6 := fun e => n67 e.symm
      have n86 : ¬ b8 = b6 := fun e => n68 e.symm
      have n87 : ¬ b8 = b7 := fun e => n78 e.symm
      have HR := Lib.hid (rs3_set h6 h7 h8 (.pointer none) (.string ⟨#[]⟩) (.int .i64 16))
      have HRB := Lib.hid (rs3_below E3.out.bel E3.out.le (b6 := b6) (b7 := b7) (b8 := b8) L6.out L7.out L8.out (.pointer none) (.string ⟨#[]⟩) (.int .i64 16))
      clear h6 h7 h8
      go_wp2_with fail
      clear y6 y7 y8 f6 f7 f8 n67 n68 n78 n76 n86 n87
      generalize (((w3.setCell ⟨b6, 0, none⟩ (.pointer none)).setCell ⟨b7, 0, none⟩ (.string ⟨#[]⟩)).setCell ⟨b8, 0, none⟩ (.int .i64 16)) = w9 at HR HRB ⊢
      refine ex_end (n0 := n0) (w := w) (fun _ => True) (fun _ _ _ _ h => h) rfl rfl rfl (fun W _ hb => ⟨by rw [← HN0.out]; exact hb, .inr (.inl ⟨HVD.out, by rw [← HCM.out]; exact hc1, rfl⟩)⟩) [] w9 ⟨by simp, by simp⟩ HR.out HRB.out trivial
    · have z1 : ¬ (1 : Int) < (cm : Int) := by omega
      go_upto_region 5 with (go_at_call 33; refine HC2.out.mono ?_; rintro e3 w3 ⟨rfl, hb3⟩)
      have E3 := Lib.hid (E2.out.below hb3)
      clear y0 y1 hb3 HC2 E2
      have hmm := run_mkMap
      go_upto_region 6 with fail
      clear hmm
      have HSI := Lib.hid (si_start w3)
      have HOW := Lib.hid (fun b (h : Ow (w3.heap.size + 1 + 1) (p00 w3.heap.size (w3.heap.size + 1)) b) => ow_start h)
      have hbx := (((Below.refl w3.heap.size w3).alloc (Nat.le_refl _) (.map #[] 0)).alloc (by simp only [World.size_alloc]; omega) (.map #[] 0)).alloc (by simp only [World.size_alloc]; omega) (.cells (rowOf (ag44 w3.heap.size (w3.heap.size + 1))) 52)
      have hsz : (((w3.alloc (.map #[] 0)).alloc (.map #[] 0)).alloc (.cells (rowOf (ag44 w3.heap.size (w3.heap.size + 1))) 52)).heap.size = w3.heap.size + 1 + 1 + 1 := by simp only [World.size_alloc]
      obtain ⟨w4, hw4⟩ : ∃ W, W = ((w3.alloc (.map #[] 0)).alloc (.map #[] 0)).alloc (.cells (rowOf (ag44 w3.heap.size (w3.heap.size + 1))) 52) := ⟨_, rfl⟩
      rw [← hw4] at HSI hbx hsz
      change Code.wp _ _ _ _ ((((w3.alloc (.map #[] 0)).alloc (.map #[] 0)).alloc (.cells (rowOf (ag44 w3.heap.size (w3.heap.size + 1))) 52)).alloc (.cells #[.pointer (some ⟨w3.heap.size + 1 + 1, 0, none⟩)] 44))
      rw [← hw4, ← hsz]
      clear hw4
      have E4 := Lib.hid (E3.out.below hbx)
      have HS5 := Lib.hid (HSI.out.below ((Below.refl w4.heap.size w4).alloc (Nat.le_refl _) (.cells #[.pointer (some ⟨w3.heap.size + 1 + 1, 0, none⟩)] 44)))
      have E5 := Lib.hid (E4.out.below ((Below.refl w4.heap.size w4).alloc (Nat.le_refl _) (.cells #[.pointer (some ⟨w3.heap.size + 1 + 1, 0, none⟩)] 44)))
      have X9 := Lib.hid (show Arr (w4.alloc (.cells #[.pointer (some ⟨w3.heap.size + 1 + 1, 0, none⟩)] 44)) w4.heap.size 44 [.pointer (some ⟨w3.heap.size + 1 + 1, 0, none⟩)] from Arr.new w4 _ [_])
      have HNW := Lib.hid (show n0 ≤ w3.heap.size from E3.out.le)
      generalize w4.alloc (.cells #[.pointer (some ⟨w3.heap.size + 1 + 1, 0, none⟩)] 44) = w5 at HS5 E5 X9 ⊢
      obtain ⟨b9, hb9⟩ : ∃ n, n = w4.heap.size := ⟨_, rfl⟩
      rw [← hb9] at X9 ⊢
      have L9 := Lib.hid (show n0 ≤ b9 by rw [hb9]; exact E4.out.le)
      have HN96 := Lib.hid (show b9 ≠ b6 by obtain ⟨v6, h6⟩ := E4.out.x6; have := h6.lt; omega)
      clear hb9 hsz hbx E4 E3 HSI
      obtain ⟨p0, hp0⟩ : ∃ p, p = p00 w3.heap.size (w3.heap.size + 1) := ⟨_, rfl⟩
      rw [← hp0] at HS5 HOW
      obtain ⟨gS, hgS⟩ : ∃ n, n = w3.heap.size + 1 + 1 := ⟨_, rfl⟩
      rw [← hgS] at HS5 X9 HOW ⊢
      have HOW0 := Lib.hid (fun b (h : Ow gS p0 b) => show n0 ≤ b from Nat.le_trans HNW.out (HOW.out b h))
      clear hp0 hgS HOW
      have y0 := E5.out.x3.cell 0
      have y1 := E5.out.x3.cell 1
      have HSH5 := Lib.hid (HSH.out w5 E5.out.bel)
      rw [shiftM_zero HVD.out] at HSH5
      go_upto_region 7 with (go_at_call 34; refine HSH5.out.mono ?_; rintro e6 w6 h; obtain ⟨q, rfl, hq, hb6⟩ := gres_gv (g := (X, O)) h; clear h; simp only [sv])
      have hal := (Below.refl w6.heap.size w6).alloc (Nat.le_refl _) (.cells #[.slice q.1.1 q.1.2.1 q.1.2.2, .slice q.2.1 q.2.2.1 q.2.2.2] 24)
      have hb7 := hb6.trans (hal.mono hb6.size)
      have HS7 := Lib.hid (HS5.out.below hb7)
      have E7 := Lib.hid (show ExB n0 b4 b6 b7 b8 b9 gS most w (w6.alloc (.cells #[.slice q.1.1 q.1.2.1 q.1.2.2, .slice q.2.1 q.2.2.1 q.2.2.2] 24)) from
        have h := E5.out.below hb7
        ⟨h.bel, h.le, h.x4, h.x6, h.x7, h.x8, X9.out.below hb7 X9.out.lt, HN96.out⟩)
      have X10 := Lib.hid (show Arr (w6.alloc (.cells #[.slice q.1.1 q.1.2.1 q.1.2.2, .slice q.2.1 q.2.2.1 q.2.2.2] 24)) w6.heap.size 24 [.slice q.1.1 q.1.2.1 q.1.2.2, .slice q.2.1 q.2.2.1 q.2.2.2] from Arr.new w6 _ [_, _])
      have HQ7 := Lib.hid (show GvI (w6.alloc (.cells #[.slice q.1.1 q.1.2.1 q.1.2.2, .slice q.2.1 q.2.2.1 q.2.2.2] 24)) q (X, O) from ⟨hq.1.below hal, hq.2.below hal⟩)
      generalize w6.alloc (.cells #[.slice q.1.1 q.1.2.1 q.1.2.2, .slice q.2.1 q.2.2.1 q.2.2.2] 24) = w7 at HS7 E7 X10 HQ7 ⊢
      obtain ⟨b10, hb10⟩ : ∃ n, n = w6.heap.size := ⟨_, rfl⟩
      rw [← hb10] at X10 ⊢
      clear hb10 hal hb7 hb6 hq E5 HS5 X9 y0 y1 HSH5
      have HADD := Lib.hid (add_any n0 gS p0 st00 most q (X, O) none (.slice none 0 0) [] w7 HS7.out StP.start HOW0.out E7.out.le HQ7.out HVD.out ⟨none, 0, rfl, fun k hk => absurd hk (by simp)⟩ ((KL.start X.length).room StP.start HM.out) (HT.out _ E7.out.bel))
      simp only [sv] at HADD
      have y0 := X10.out.cell 0
      have y1 := X10.out.cell 1
      have y4 := E7.out.x4.cell 0
      have y9 := E7.out.x9.cell 0
      cases ha : addM most st00 (X, O) none [] with
      | none =>
        have HAN := Lib.hid ha
        have HADD2 := Lib.hid (HADD.out.mono (fun e w' (h : AddP n0 gS p0 st00 most (X, O) none [] w7 e w') => show e = .returned (.bool false) ∧ Below w7.heap.size w7 w' from by
          rcases h with ⟨_, h1, h2⟩ | ⟨s', p', h1, _⟩
          · exact ⟨h1, h2⟩
          · rw [ha] at h1; cases h1))
        clear HADD ha
        go_upto_region 8 with (go_at_call 35; refine HADD2.out.mono ?_; rintro e8 w8 ⟨rfl, hb8⟩)
        have E8 := Lib.hid (E7.out.below hb8)
        clear y0 y1 y4 y9 hb8 HADD2 E7
        obtain ⟨v6, h6⟩ := E8.out.x6
        obtain ⟨v7, h7⟩ := E8.out.x7
        have h8 := E8.out.x8
        have y6 := h6.cell 0
        have y7 := h7.cell 0
        have y8 := h8.cell 0
        have f6 := h6.frozen 0
        have f7 := h7.frozen 0
        have f8 := h8.frozen 0
        have n67 : ¬ b6 = b7 := arr_ne h6 h7 (by decide)
        have n68 : ¬ b6 = b8 := arr_ne h6 h8 (by decide)
        have n78 : ¬ b7 = b8 := arr_ne h7 h8 (by decide)
        have n76 : ¬ b7 = b6 := fun e => n67 e.symm
        have n86 : ¬ b8 = b6 := fun e => n68 e.symm
        have n87 : ¬ b8 = b7 := fun e => n78 e.symm
        have HR := Lib.hid (rs3_set h6 h7 h8 (.pointer none) (.string ⟨#[]⟩) (.int .i64 13))
        have HRB := Lib.hid (rs3_below E8.out.bel E8.out.le (b6 := b6) (b7 := b7) (b8 := b8) L6.out L7.out L8.out (.pointer none) (.string ⟨#[]⟩) (.int .i64 13))
        clear h6 h7 h8
        go_wp2_with fail
        clear y6 y7 y8 f6 f7 f8 n67 n68 n78 n76 n86 n87
        generalize (((w8.setCell ⟨b6, 0, none⟩ (.pointer none)).setCell ⟨b7, 0, none⟩ (.string ⟨#[]⟩)).setCell ⟨b8, 0, none⟩ (.int .i64 13)) = w9 at HR HRB ⊢
        refine ex_end (n0 := n0) (w := w) (fun _ => True) (fun _ _ _ _ h => h) rfl rfl rfl (fun W _ hb => ⟨by rw [← HN0.out]; exact hb, .inr (.inr ⟨HVD.out, by have := HCM.out; simp only; omega, .fuel, .none HAN.out, .inl ⟨rfl, rfl⟩⟩)⟩) [] w9 ⟨by simp, by simp⟩ HR.out HRB.out trivial
      | some s1 =>
        have HAS := Lib.hid ha
        have HADD2 := Lib.hid (HADD.out.mono (fun e w' (h : AddP n0 gS p0 st00 most (X, O) none [] w7 e w') => show e = .returned (.bool true) ∧ ∃ p', SI gS w' s1 p' ∧ Below n0 w7 w' ∧ Kf gS p0 w7 w' ∧ ∀ b, Ow gS p' b → Ow gS p0 b ∨ w7.heap.size ≤ b from by
          rcases h with ⟨h1, _⟩ | ⟨s', p', h1, h2, h3⟩
          · rw [ha] at h1; cases h1
          · rw [ha] at h1
            injection h1 with h1
            subst h1
            exact ⟨h2, p', h3⟩))
        clear HADD ha
        go_wp2_with (go_at_call 35; refine HADD2.out.mono ?_; rintro e8 w8 ⟨rfl, p1, hs8, hb8, hk8, ho8⟩)
        have HL8 := Lib.hid (show LpI n0 b4 b6 b7 b8 b9 gS most w s1 p1 [] w8 from ⟨hs8, StP.start.add HVD.out HAS.out, fun b hb => (ho8 b hb).elim (HOW0.out b) (Nat.le_trans E7.out.le), E7.out.kf HS7.out hk8 hb8, ⟨by simp, by simp⟩⟩)
        clear y0 y1 y4 y9 hs8 hb8 hk8 ho8 HADD2 E7 X10 HQ7 HS7
        refine wp_loop_ghost_k (fun k' a' w' => ∃ (ds : List Deferred) (s : St) (p : SP) (Ds : List Nat), k' = meas most s ∧ Ds.map mrkD = ds ∧ Hid (LpI n0 b4 b6 b7 b8 b9 gS most w s p Ds w') ∧ Hid ((∀ r, Run most short s r → Run most short s1 r) ∧ KL X.length s) ∧ ∃ u : Nat → Value, a' = ⟨[.agg #[.slice A nX c, .slice A2 nO c2], .int .i64 most, .bool short, u 3, .pointer (some ⟨b4, 0, none⟩), u 5, .pointer (some ⟨b6, 0, none⟩), .pointer (some ⟨b7, 0, none⟩), .pointer (some ⟨b8, 0, none⟩), .pointer (some ⟨b9, 0, none⟩), u 10, u 11, u 12, u 13, u 14, u 15, u 16, u 17, u 18, u 19, u 20, u 21, u 22, u 23, u 24, u 25, u 26, u 27, u 28, u 29, u 30, u 31, u 32, u 33, u 34, u 35, u 36, u 37, u 38, u 39, u 40, u 41, u 42, u 43, u 44, u 45, u 46, u 47, u 48, u 49, u 50, u 51, u 52, u 53, u 54, u 55, u 56, u 57, u 58, u 59, u 60, u 61, u 62, u 63, u 64, u 65, u 66, u 67, u 68, u 69, u 70].toArray, ds⟩) (meas most s1) ?_ ?_
        · exact ⟨[], s1, p1, [], rfl, rfl, HL8, Lib.hid ⟨fun r h => h, (KL.start _).add (g := (X, O)) HVD.out (Nat.le_refl _) HAS.out⟩, exl _ (fun u => let ds := []; ⟨[.agg #[.slice A nX c, .slice A2 nO c2], .int .i64 most, .bool short, u 3, .pointer (some ⟨b4, 0, none⟩), u 5, .pointer (some ⟨b6, 0, none⟩), .pointer (some ⟨b7, 0, none⟩), .pointer (some ⟨b8, 0, none⟩), .pointer (some ⟨b9, 0, none⟩), u 10, u 11, u 12, u 13, u 14, u 15, u 16, u 17, u 18, u 19, u 20, u 21, u 22, u 23, u 24, u 25, u 26, u 27, u 28, u 29, u 30, u 31, u 32, u 33, u 34, u 35, u 36, u 37, u 38, u 39, u 40, u 41, u 42, u 43, u 44, u 45, u 46, u 47, u 48, u 49, u 50, u 51, u 52, u 53, u 54, u 55, u 56, u 57, u 58, u 59, u 60, u 61, u 62, u 63, u 64, u 65, u 66, u 67, u 68, u 69, u 70].toArray, ds⟩) rfl⟩
        · clear HL8
          rintro gk _ wr ⟨ds, s, p, Ds, rfl, hds, HL, HRUN, u, rfl⟩
          try dsimp only
          intro J K hJ hK
          have y9 := HL.out.ex.x9.cell 0
          have HNX := Lib.hid (next_any n0 gS p s wr HL.out.si HL.out.st HL.out.ow HL.out.ex.le)
          cases hn : nextM s.2 with
          | none =>
            have HN := Lib.hid hn
            have HNX2 := Lib.hid (HNX.out.mono (fun e w' (h : NxtP n0 gS p s wr e w') => show e = .returned (.tuple #[.agg #[.slice none 0 0, .slice none 0 0], .bool false]) ∧ Below wr.heap.size wr w' from by
              rcases h with ⟨_, h1, h2⟩ | ⟨g, W', q, p', h1, _⟩
              · exact ⟨h1, h2⟩
              · rw [hn] at h1; cases h1))
            clear HNX hn
            go_upto_region 11 with (go_at_call 36; refine HNX2.out.mono ?_; rintro e8 w8 ⟨rfl, hb8⟩)
            have HL9 := Lib.hid (HL.out.below (hb8.trans (((Below.refl w8.heap.size w8).alloc (Nat.le_refl _) (.cells #[.slice none 0 0, .slice none 0 0] 24)).mono hb8.size)))
            generalize w8.alloc (.cells #[.slice none 0 0, .slice none 0 0] 24) = w9 at HL9 ⊢
            clear y9 hb8 HNX2 HL
            have y9 := HL9.out.ex.x9.cell 0
            obtain ⟨v6, h6⟩ := HL9.out.ex.x6
            obtain ⟨v7, h7⟩ := HL9.out.ex.x7
            have h8 := HL9.out.ex.x8
            have y6 := h6.cell 0
            have y7 := h7.cell 0
            have y8 := h8.cell 0
            have f6 := h6.frozen 0
            have f7 := h7.frozen 0
            have f8 := h8.frozen 0
            have n67 : ¬ b6 = b7 := arr_ne h6 h7 (by decide)
            have n68 : ¬ b6 = b8 := arr_ne h6 h8 (by decide)
            have n78 : ¬ b7 = b8 := arr_ne h7 h8 (by decide)
            have n76 : ¬ b7 = b6 := fun e => n67 e.symm
            have n86 : ¬ b8 = b6 := fun e => n68 e.symm
            have n87 : ¬ b8 = b7 := fun e => n78 e.symm
            have HR := Lib.hid (rs3_set h6 h7 h8 (.pointer (some ⟨gS, 0, none⟩)) (.string ⟨#[]⟩) (.int .i64 0))
            have HRB := Lib.hid (rs3_below HL9.out.ex.bel HL9.out.ex.le (b6 := b6) (b7 := b7) (b8 := b8) L6.out L7.out L8.out (.pointer (some ⟨gS, 0, none⟩)) (.string ⟨#[]⟩) (.int .i64 0))
            have HRM := Lib.hid (rs3_mks HL9.out.mks h6 h7 h8 (.pointer (some ⟨gS, 0, none⟩)) (.string ⟨#[]⟩) (.int .i64 0))
            clear h6 h7 h8
            have HKS := Lib.hid (rs3_keeps HL9.out (.pointer (some ⟨gS, 0, none⟩)) (.string ⟨#[]⟩))
            go_wp2_with fail
            clear y6 y7 y8 y9 f6 f7 f8 n67 n68 n78 n76 n86 n87
            generalize (((w9.setCell ⟨b6, 0, none⟩ (.pointer (some ⟨gS, 0, none⟩))).setCell ⟨b7, 0, none⟩ (.string ⟨#[]⟩)).setCell ⟨b8, 0, none⟩ (.int .i64 0)) = w10 at HR HRB HKS HRM ⊢
            subst hds
            refine ex_end (n0 := n0) (w := w) (fun W => SI gS W s p) (fun W D o hn h => h.putN hn) rfl rfl rfl (fun W hj hb => ⟨by rw [← HN0.out]; exact hb, .inr (.inr ⟨HVD.out, by have := HCM.out; simp only; omega, .done s.1, .some HAS.out (HRUN.out.1 _ (.done HN.out)), .inr ⟨s.1, s.2, gS, p, hj, HL9.out.st, by rw [← HN0.out]; exact HL9.out.ow, .inl ⟨rfl, rfl⟩⟩⟩)⟩) Ds w10 HRM.out HR.out HRB.out HKS.out
          | some gw =>
            obtain ⟨h, W0⟩ := gw
            have HN := Lib.hid hn
            have HNX2 := Lib.hid (HNX.out.mono (fun e w' (hh : NxtP n0 gS p s wr e w') => show ∃ q p', e = .returned (.tuple #[.agg #[sv q.1, sv q.2], .bool true]) ∧ GvI w' q h ∧ SI gS w' (s.1, W0) p' ∧ Below n0 wr w' ∧ Kf gS p wr w' ∧ ∀ b, Ow gS p' b → Ow gS p b from by
              rcases hh with ⟨h1, _⟩ | ⟨g, W', q, p', h1, h2⟩
              · rw [hn] at h1; cases h1
              · rw [hn] at h1
                injection h1 with h1
                injection h1 with e1 e2
                subst e1; subst e2
                exact ⟨q, p', h2⟩))
            obtain ⟨hst, hvh⟩ := HL.out.st.next hn
            have HST := Lib.hid hst
            have HVH := Lib.hid hvh
            clear HNX hn hst hvh
            go_upto_region 10 with (go_at_call 36; refine HNX2.out.mono ?_; rintro e8 w8 ⟨q, p', rfl, hq8, hs8, hb8, hk8, ho8⟩; obtain ⟨⟨A5, n5, c5⟩, ⟨A6, n6, c6⟩⟩ := q; simp only [sv])
            have hal := (Below.refl w8.heap.size w8).alloc (Nat.le_refl _) (.cells #[.slice A5 n5 c5, .slice A6 n6 c6] 24)
            have HM9 := Lib.hid (show LpI n0 b4 b6 b7 b8 b9 gS most w (s.1, W0) p' Ds (w8.alloc (.cells #[.slice A5 n5 c5, .slice A6 n6 c6] 24)) from
              LpI.below ⟨hs8, HST.out, fun b hb => HL.out.ow b (ho8 b hb), HL.out.ex.kf HL.out.si hk8 hb8, HL.out.mks.keep fun D hD => hk8.keep D (HL.out.mks.lt D hD) (fun hb => by
                have hd := (HL.out.mks.2 D hD).2
                rcases HL.out.si.typ hb with ⟨es, c, e⟩ | ⟨cs, t, fr, e, _⟩ <;> (rw [hd] at e; cases e))⟩ hal)
            have HQ9 := Lib.hid (show GvI (w8.alloc (.cells #[.slice A5 n5 c5, .slice A6 n6 c6] 24)) ((A5, n5, c5), (A6, n6, c6)) h from ⟨hq8.1.below hal, hq8.2.below hal⟩)
            have X12 := Lib.hid (show Arr (w8.alloc (.cells #[.slice A5 n5 c5, .slice A6 n6 c6] 24)) w8.heap.size 24 [.slice A5 n5 c5, .slice A6 n6 c6] from Arr.new w8 _ [_, _])
            have hn5 : n5 = h.1.length := by
              obtain ⟨A7, c7, e7, _⟩ := hq8.1
              injection e7
            have HN5 := Lib.hid hn5
            obtain ⟨b12, hb12⟩ : ∃ n, n = w8.heap.size := ⟨_, rfl⟩
            rw [← hb12] at X12 ⊢
            generalize w8.alloc (.cells #[.slice A5 n5 c5, .slice A6 n6 c6] 24) = w9 at HM9 HQ9 X12 ⊢
            clear hb12 hal hn5 hq8 hs8 hb8 hk8 ho8 HNX2 HL y9
            have y12 := X12.out.cell 0
            have y13 := X12.out.cell 1
            have HCL := Lib.hid (class_any (.agg #[.slice A5 n5 c5, .slice A6 n6 c6]) h w9 HQ9.out.gd HVH.out (HT.out _ HM9.out.ex.bel))
            go_upto_region 13 with (go_at_call 30; refine HCL.out.mono ?_; rintro e10 w10 ⟨v10, rfl, hg10, hb10⟩; obtain ⟨q10, rfl, hq10⟩ := hg10.gv; obtain ⟨⟨A7, n7, c7⟩, ⟨A8, n8, c8⟩⟩ := q10; simp only [sv])
            have hal := ((Below.refl w10.heap.size w10).alloc (Nat.le_refl _) (.cells #[.slice A7 n7 c7, .slice A8 n8 c8] 24)).alloc (by simp only [World.size_alloc]; omega) (.cells #[.string ⟨(fmG (lstM h)).toArray⟩] 9)
            have hb11 := hb10.trans (hal.mono hb10.size)
            have HM11 := Lib.hid (HM9.out.below hb11)
            have HQ11 := Lib.hid (show GvI ((w10.alloc (.cells #[.slice A7 n7 c7, .slice A8 n8 c8] 24)).alloc (.cells #[.string ⟨(fmG (lstM h)).toArray⟩] 9)) ((A5, n5, c5), (A6, n6, c6)) h from ⟨HQ9.out.1.below hb11, HQ9.out.2.below hb11⟩)
            have XA := Lib.hid (X12.out.below hb11 X12.out.lt)
            have X15 := Lib.hid (show Arr ((w10.alloc (.cells #[.slice A7 n7 c7, .slice A8 n8 c8] 24)).alloc (.cells #[.string ⟨(fmG (lstM h)).toArray⟩] 9)) (w10.heap.size + 1) 9 [.string ⟨(fmG (lstM h)).toArray⟩] from by
              have := Arr.new (w10.alloc (.cells #[.slice A7 n7 c7, .slice A8 n8 c8] 24)) 9 [.string ⟨(fmG (lstM h)).toArray⟩]
              simp only [World.size_alloc] at this
              exact this)
            generalize (w10.alloc (.cells #[.slice A7 n7 c7, .slice A8 n8 c8] 24)).alloc (.cells #[.string ⟨(fmG (lstM h)).toArray⟩] 9) = w11 at HM11 HQ11 XA X15 ⊢
            obtain ⟨b15, hb15⟩ : ∃ n, n = w10.heap.size + 1 := ⟨_, rfl⟩
            rw [← hb15] at X15 ⊢
            have LE15 := Lib.hid (show n0 ≤ b15 by have := HM9.out.ex.le; have := hb10.size; omega)
            have HN157 := Lib.hid (show b15 ≠ b7 by obtain ⟨v7, h7⟩ := HM9.out.ex.x7; have := h7.lt; have := hb10.size; omega)
            clear hb15 hal hb11 hb10 HM9 HQ9 X12 y12 y13 HCL hg10 hq10
            have y12 := XA.out.cell 0
            have y13 := XA.out.cell 1
            have y15 := X15.out.cell 0
            have y9 := HM11.out.ex.x9.cell 0
            by_cases hf : short = true ∧ h.1.length = 2
            · obtain ⟨hsh, h2⟩ := hf
              have HSH1 := Lib.hid hsh
              have HH2 := Lib.hid h2
              have e5 : (n5 : Int) = 2 := by have := HN5.out; omega
              clear h2
              subst hsh
              go_upto_region 14 with fail
              obtain ⟨v6, h6⟩ := HM11.out.ex.x6
              have m1 : ¬ b15 = b6 := arr_ne X15.out h6 (by decide)
              have m2 : ¬ b15 = b7 := HN157.out
              have m3 : ¬ b15 = b8 := arr_ne X15.out HM11.out.ex.x8 (by decide)
              have m4 : ¬ b9 = b6 := HM11.out.ex.n9
              obtain ⟨v7, h7⟩ := HM11.out.ex.x7
              have m5 : ¬ b9 = b7 := arr_ne HM11.out.ex.x9 h7 (by decide)
              have m6 : ¬ b9 = b8 := arr_ne HM11.out.ex.x9 HM11.out.ex.x8 (by decide)
              clear h6 h7
              obtain ⟨v6, h6⟩ := HM11.out.ex.x6
              obtain ⟨v7, h7⟩ := HM11.out.ex.x7
              have h8 := HM11.out.ex.x8
              have y6 := h6.cell 0
              have y7 := h7.cell 0
              have y8 := h8.cell 0
              have f6 := h6.frozen 0
              have f7 := h7.frozen 0
              have f8 := h8.frozen 0
              have n67 : ¬ b6 = b7 := arr_ne h6 h7 (by decide)
              have n68 : ¬ b6 = b8 := arr_ne h6 h8 (by decide)
              have n78 : ¬ b7 = b8 := arr_ne h7 h8 (by decide)
              have n76 : ¬ b7 = b6 := fun e => n67 e.symm
              have n86 : ¬ b8 = b6 := fun e => n68 e.symm
              have n87 : ¬ b8 = b7 := fun e => n78 e.symm
              have HR := Lib.hid (rs3_set h6 h7 h8 (.pointer (some ⟨gS, 0, none⟩)) (.string ⟨(fmG (lstM h)).toArray⟩) (.int .i64 0))
              have HRB := Lib.hid (rs3_below HM11.out.ex.bel HM11.out.ex.le (b6 := b6) (b7 := b7) (b8 := b8) L6.out L7.out L8.out (.pointer (some ⟨gS, 0, none⟩)) (.string ⟨(fmG (lstM h)).toArray⟩) (.int .i64 0))
              have HRM := Lib.hid (rs3_mks HM11.out.mks h6 h7 h8 (.pointer (some ⟨gS, 0, none⟩)) (.string ⟨(fmG (lstM h)).toArray⟩) (.int .i64 0))
              clear h6 h7 h8
              have HKS := Lib.hid (rs3_keeps HM11.out (.pointer (some ⟨gS, 0, none⟩)) (.string ⟨(fmG (lstM h)).toArray⟩))
              go_region
              have HR2 := Lib.hid (show Rs3 b6 b7 b8 (.pointer (some ⟨gS, 0, none⟩)) (.string ⟨(fmG (lstM h)).toArray⟩) (.int .i64 0) (((w11.setCell ⟨b6, 0, none⟩ (.pointer (some ⟨gS, 0, none⟩))).setCell ⟨b7, 0, none⟩ (.string ⟨(fmG (lstM h)).toArray⟩)).setCell ⟨b8, 0, none⟩ (.int .i64 0)).drew from HR.out)
              have HRB2 := Lib.hid (show Below n0 w (((w11.setCell ⟨b6, 0, none⟩ (.pointer (some ⟨gS, 0, none⟩))).setCell ⟨b7, 0, none⟩ (.string ⟨(fmG (lstM h)).toArray⟩)).setCell ⟨b8, 0, none⟩ (.int .i64 0)).drew from HRB.out.drew)
              have HRM2 := Lib.hid (show MkD n0 Ds (((w11.setCell ⟨b6, 0, none⟩ (.pointer (some ⟨gS, 0, none⟩))).setCell ⟨b7, 0, none⟩ (.string ⟨(fmG (lstM h)).toArray⟩)).setCell ⟨b8, 0, none⟩ (.int .i64 0)).drew from HRM.out)
              have HKS2 := Lib.hid (show SI gS (((w11.setCell ⟨b6, 0, none⟩ (.pointer (some ⟨gS, 0, none⟩))).setCell ⟨b7, 0, none⟩ (.string ⟨(fmG (lstM h)).toArray⟩)).setCell ⟨b8, 0, none⟩ (.int .i64 0)).drew (s.1, W0) p' from HKS.out.hold (fun _ _ => rfl) (fun _ _ _ _ _ => rfl))
              clear y6 y7 y8 y9 y12 y13 y15 f6 f7 f8 n67 n68 n78 n76 n86 n87 m1 m2 m3 m4 m5 m6 HR HRB HRM HKS
              generalize (((w11.setCell ⟨b6, 0, none⟩ (.pointer (some ⟨gS, 0, none⟩))).setCell ⟨b7, 0, none⟩ (.string ⟨(fmG (lstM h)).toArray⟩)).setCell ⟨b8, 0, none⟩ (.int .i64 0)).drew = w12 at HR2 HRB2 HRM2 HKS2 ⊢
              go_wp2_with fail
              subst hds
              refine ex_end (n0 := n0) (w := w) (fun W => SI gS W (s.1, W0) p') (fun W D o hn h => h.putN hn) rfl rfl rfl (fun W hj hb => ⟨by rw [← HN0.out]; exact hb, .inr (.inr ⟨HVD.out, by have := HCM.out; simp only; omega, .found s.1 (lstM h), .some HAS.out (HRUN.out.1 _ (.found HN.out rfl HH2.out)), .inr ⟨s.1, W0, gS, p', hj, HM11.out.st, by rw [← HN0.out]; exact HM11.out.ow, .inr ⟨lstM h, rfl, rfl⟩⟩⟩)⟩) Ds w12 HRM2.out HR2.out HRB2.out HKS2.out
            · have HNF := Lib.hid hf
              go_cut [57] from 51 to 57 (fun s57 wx => s57 = .bool false ∧ wx = w11)
              case first =>
                cases hsh : short with
                | false =>
                  subst hsh
                  go_wp2_with fail
                  go_meet
                  case rel => exact ⟨rfl, rfl⟩
                | true =>
                  subst hsh
                  have e5 : ¬ (n5 : Int) = 2 := fun e => HNF.out ⟨rfl, by have := HN5.out; omega⟩
                  clear hf
                  go_wp2_with fail
                  go_meet
                  case rel => exact ⟨by rw [beq_eq_false_iff_ne.2 e5], rfl⟩
              case rest =>
                clear hf
                obtain ⟨hs57, hwc⟩ := hcut
                subst hs57
                obtain rfl := hwc.symm
                have HSZ := Lib.hid (neighbors_any (.agg #[.slice A5 n5 c5, .slice A6 n6 c6]) (.bool false) w11 ⟨_, _, rfl⟩)
                go_wp2_with (go_at_call 31; refine HSZ.out.mono ?_; rintro e12 w12 ⟨a1, a2, ha, rfl, XB, hb12, hsz12⟩; injection ha with ha; injection ha with ha; injection ha with ha1 ha; injection ha with ha2 _; subst ha1; subst ha2)
                have HM12 := Lib.hid (HM11.out.below hb12)
                have HQ12 := Lib.hid (show GvI w12 ((A5, n5, c5), (A6, n6, c6)) h from ⟨HQ11.out.1.below hb12, HQ11.out.2.below hb12⟩)
                have XT := Lib.hid (X15.out.below hb12 X15.out.lt)
                have HNO2 := Lib.hid (show ¬ Ow gS p' w11.heap.size from fun hb => by have := HM11.out.si.lt hb; omega)
                have HGE := Lib.hid (show n0 ≤ w11.heap.size from HM11.out.ex.le)
                have HGL := Lib.hid hsz12
                have HXB := Lib.hid XB
                generalize w11.heap.size = gB at HXB HNO2 HGE HGL ⊢
                clear XB hsz12 hb12 HSZ XA X15 HQ11 HM11 y9 y12 y13 y15
                refine act_gen (fun U => ⟨(.agg #[.slice A nX c, .slice A2 nO c2] :: .int .i64 most :: .bool short :: U 3 :: .pointer (some ⟨b4, 0, none⟩) :: U 5 :: .pointer (some ⟨b6, 0, none⟩) :: .pointer (some ⟨b7, 0, none⟩) :: .pointer (some ⟨b8, 0, none⟩) :: .pointer (some ⟨b9, 0, none⟩) :: U 10 :: U 11 :: U 12 :: U 13 :: U 14 :: .pointer (some ⟨b15, 0, none⟩) :: U 16 :: U 17 :: U 18 :: U 19 :: U 20 :: U 21 :: U 22 :: U 23 :: U 24 :: U 25 :: U 26 :: U 27 :: U 28 :: U 29 :: U 30 :: U 31 :: U 32 :: U 33 :: U 34 :: U 35 :: U 36 :: U 37 :: U 38 :: U 39 :: U 40 :: U 41 :: U 42 :: U 43 :: U 44 :: U 45 :: U 46 :: U 47 :: U 48 :: U 49 :: U 50 :: U 51 :: U 52 :: U 53 :: U 54 :: U 55 :: U 56 :: U 57 :: U 58 :: U 59 :: U 60 :: .func (.func 47) #[] #[.pointer (some ⟨gB, 0, none⟩)] :: U 62 :: U 63 :: U 64 :: U 65 :: U 66 :: U 67 :: U 68 :: U 69 :: U 70 :: []).toArray, ds⟩) (fun U => ?_) rfl
                refine (wpIn_wide (n := 9)).1 ?_
                have HNL := Lib.hid (show n0 ≤ w12.heap.size from HM12.out.ex.le)
                refine wpIn_range_tell (n := 9) (by decide) (gf := 47) (lb := #[.pointer (some ⟨gB, 0, none⟩)]) rfl (enters_of Tryz.func47 (by kernel_rfl) rfl) rfl
                  (m := (nbrs h).length) (Rd := NbRd h) (Kp := Kq (w12.heap.size + 1) gB)
                  (fun W1 hb hl => nb_tells (9 - 1) gB (w12.heap.size + 1) (by decide) A5 A6 n5 c5 n6 c6 h W1 HVH.out (by omega) (HXB.out.below hb HXB.out.lt) ⟨HQ12.out.1.below hb, trivial⟩ ⟨HQ12.out.2.below hb, trivial⟩)
                  (fun A B C a b => a.trans b) (fun A o hl => Kq.put (by have := HGL.out; omega) A o hl)
                  (RgI n0 b4 b6 b7 b8 b9 gS b15 gB most w Ds h (s.1, W0) [.slice A5 n5 c5, .slice A6 n6 c6]) (RgX n0 b6 b7 b8 most w Ds h (s.1, W0))
                  (fun k A B hh hb => hh.below hb) (fun k A o hl hh => hh.put hl (by have := HNL.out; omega)) (fun A B hh hb => hh.below hb) (fun A o hl hh => hh.put hl (by have := HNL.out; omega))
                  ⟨(s.1, W0), p', rfl, HM12.out, XT.out, HXB.out, HNO2.out⟩
                  (fun k v ug a' W W1 => AxE (fun v ug b17 => ⟨(.agg #[.slice A nX c, .slice A2 nO c2] :: .int .i64 most :: .bool short :: U 3 :: .pointer (some ⟨b4, 0, none⟩) :: U 5 :: .pointer (some ⟨b6, 0, none⟩) :: .pointer (some ⟨b7, 0, none⟩) :: .pointer (some ⟨b8, 0, none⟩) :: .pointer (some ⟨b9, 0, none⟩) :: U 10 :: U 11 :: U 12 :: U 13 :: U 14 :: .pointer (some ⟨b15, 0, none⟩) :: v :: .pointer (some ⟨b17, 0, none⟩) :: U 18 :: U 19 :: U 20 :: U 21 :: U 22 :: U 23 :: U 24 :: U 25 :: U 26 :: U 27 :: U 28 :: U 29 :: U 30 :: U 31 :: U 32 :: U 33 :: U 34 :: U 35 :: U 36 :: U 37 :: U 38 :: U 39 :: U 40 :: U 41 :: U 42 :: U 43 :: U 44 :: U 45 :: U 46 :: U 47 :: U 48 :: U 49 :: U 50 :: U 51 :: U 52 :: U 53 :: U 54 :: U 55 :: U 56 :: U 57 :: U 58 :: U 59 :: U 60 :: .func (.func 47) #[] #[.pointer (some ⟨gB, 0, none⟩)] :: v :: ug :: U 64 :: U 65 :: U 66 :: U 67 :: U 68 :: U 69 :: U 70 :: []).toArray, []⟩) v ug a' W1)
                  (fun k v ug a' W W1 o hl hh => by
                    obtain ⟨q, b17, h1, h2, h3⟩ := hh
                    exact ⟨q, b17, h1, h2, hl.nc.arr h3⟩)
                  ?_ ?_ (fun k v u A B hh hb => hh.below hb) (fun k v u A o hl hh => hh.put hl) (fun A B hb => Kq.of_below hb) ?_ ?_
                · rintro k v ug W hk hI ⟨ms, g', hgk, hmv, hgd⟩ hsz
                  obtain ⟨⟨⟨A9, n9, c9⟩, ⟨A10, n10, c10⟩⟩, rfl, hq⟩ := hgd.gv
                  simp only [sv, List.zip_toArray, List.zip_cons_cons, List.zip_nil_right, List.foldl_toArray, List.foldl_cons, List.foldl_nil, List.setIfInBounds_toArray, List.set_cons_succ, List.set_cons_zero]
                  gi_wp2_with fail
                  refine ⟨⟨((A9, n9, c9), (A10, n10, c10)), W.heap.size, rfl, rfl, ?_⟩, ?_⟩
                  · exact Arr.new W _ [_, _]
                  · exact (Below.refl _ W).alloc (Nat.le_refl _) _
                · rintro k v ug a' W W1 hk ⟨s2, p2, hs2, hl2, hx15, hxB, hnB⟩ ⟨q, b17, rfl, rfl, hx17⟩ ⟨ms, g', hgk, hmv, hgd⟩ hsz
                  have hq := hgd.gq
                  have hvg := nbrs_vd HVH.out (List.mem_of_getElem? hgk)
                  obtain ⟨⟨A9, n9, c9⟩, ⟨A10, n10, c10⟩⟩ := q
                  have hadd := add_any n0 gS p2 s2 most ((A9, n9, c9), (A10, n10, c10)) g' (some (lstM h)) v ms W1 hl2.si hl2.st hl2.ow hl2.ex.le hq hvg hmv (((HRUN.out.2.next HN.out).1.nbrs HVH.out (HRUN.out.2.next HN.out).2 k hs2).room hl2.st HM.out) (HT.out _ hl2.ex.bel)
                  rw [show frS (some (lstM h)) = fmG (lstM h) from rfl] at hadd
                  simp only [sv] at hadd hx17 ⊢
                  have HADD := Lib.hid hadd
                  have HL2 := Lib.hid hl2
                  have HX15 := Lib.hid hx15
                  have HXB2 := Lib.hid hxB
                  have HNB := Lib.hid hnB
                  have HS2 := Lib.hid hs2
                  have HGK := Lib.hid hgk
                  have HVG := Lib.hid hvg
                  have HSZW := Lib.hid hsz
                  have y9 := hl2.ex.x9.cell 0
                  have y4 := hl2.ex.x4.cell 0
                  have y15 := hx15.cell 0
                  have y17 := hx17.cell 0
                  have y18 := hx17.cell 1
                  clear hadd hl2 hx15 hxB hnB hs2 hgk hvg hq hgd hx17 hmv hsz hk
                  cases ha : addM most s2 g' (some (lstM h)) ms with
                  | none =>
                    have HADD2 := Lib.hid (HADD.out.mono (fun e w' (hh : AddP n0 gS p2 s2 most g' (some (lstM h)) ms W1 e w') => show e = .returned (.bool false) ∧ Below W1.heap.size W1 w' from by
                      rcases hh with ⟨_, h1, h2⟩ | ⟨s', p', h1, _⟩
                      · exact ⟨h1, h2⟩
                      · rw [ha] at h1; cases h1))
                    have HAN := Lib.hid ha
                    clear HADD ha
                    gi_wp2_with (refine ⟨trivial, ?_⟩; gi_at_call 35; refine (CallsIn.inRound (w12.heap.size + 1) (callsIn_wide.2 HADD2.out)).mono ?_; rintro e14 w14 ⟨rfl, hb14⟩; have HM14 := Lib.hid (HL2.out.below hb14); have HB14 := Lib.hid hb14; clear y9 y4 y15 y17 y18 hb14; obtain ⟨v6, h6⟩ := HM14.out.ex.x6; obtain ⟨v7, h7⟩ := HM14.out.ex.x7; have h8 := HM14.out.ex.x8; have n67 : ¬ b6 = b7 := arr_ne h6 h7 (by decide); have n68 : ¬ b6 = b8 := arr_ne h6 h8 (by decide); have n78 : ¬ b7 = b8 := arr_ne h7 h8 (by decide); have n76 : ¬ b7 = b6 := fun e => n67 e.symm; have n86 : ¬ b8 = b6 := fun e => n68 e.symm; have n87 : ¬ b8 = b7 := fun e => n78 e.symm; have y6 := h6.cell 0; have y7 := h7.cell 0; have y8 := h8.cell 0; have f6 := h6.frozen 0; have f7 := h7.frozen 0; have f8 := h8.frozen 0; have H6 := Lib.hid h6; have H7 := Lib.hid h7; clear h6 h7 h8)
                    have h8 := HM14.out.ex.x8
                    have HT6 := Lib.hid (fun r (t : Two6 w12.heap.size r W1) => two6_set (v := .int .i64 13) (two6_set (v := .string ⟨#[]⟩) (two6_set (v := .pointer none) (t.below HB14.out) H6.out) (H7.out.far (p := ⟨b6, 0, none⟩) n76 (.pointer none))) ((h8.far (p := ⟨b6, 0, none⟩) n86 (.pointer none)).far (p := ⟨b7, 0, none⟩) n87 (.string ⟨#[]⟩)))
                    exact ⟨⟨addAll_none ((addAll_succ HS2.out HGK.out).trans HAN.out), rs3_set H6.out H7.out h8 _ _ _, rs3_below HM14.out.ex.bel HM14.out.ex.le L6.out L7.out L8.out _ _ _, by simp; exact HM14.out.ex.le, rs3_mks HM14.out.mks H6.out H7.out h8 _ _ _⟩, HT6.out⟩
                  | some s3 =>
                    have HADD2 := Lib.hid (HADD.out.mono (fun e w' (hh : AddP n0 gS p2 s2 most g' (some (lstM h)) ms W1 e w') => show e = .returned (.bool true) ∧ ∃ p', SI gS w' s3 p' ∧ Below n0 W1 w' ∧ Kf gS p2 W1 w' ∧ ∀ b, Ow gS p' b → Ow gS p2 b ∨ W1.heap.size ≤ b from by
                      rcases hh with ⟨h1, _⟩ | ⟨s', p', h1, h2, h3⟩
                      · rw [ha] at h1; cases h1
                      · rw [ha] at h1
                        injection h1 with h1
                        subst h1
                        exact ⟨h2, p', h3⟩))
                    have HAS2 := Lib.hid ha
                    clear HADD ha
                    gi_wp2_with (refine ⟨trivial, ?_⟩; gi_at_call 35; refine (CallsIn.inRound (w12.heap.size + 1) (callsIn_wide.2 HADD2.out)).mono ?_; rintro e14 w14 ⟨rfl, p3, hs14, hb14, hk14, ho14⟩)
                    refine ⟨⟨s3, p3, (addAll_succ HS2.out HGK.out).trans HAS2.out, ⟨hs14, HL2.out.st.add HVG.out HAS2.out, fun b hb => (ho14 b hb).elim (HL2.out.ow b) (Nat.le_trans HL2.out.ex.le), HL2.out.ex.kf HL2.out.si hk14 hb14, HL2.out.mks.keep fun D hD => hk14.keep D (HL2.out.mks.lt D hD) fun hb => ?_⟩, hk14.arr HX15.out (HL2.out.si.other HX15.out (by decide) (by decide)), hk14.arr HXB2.out HNB.out, fun hb => (ho14 gB hb).elim HNB.out (fun h => by have := HXB2.out.lt; omega)⟩, ⟨hk14.siz, fun b hb hc => hk14.keep b hb ?_, fun v xs hx => hk14.ints HL2.out.si hx⟩, fun r t => two6_kf HL2.out.si hk14 t⟩
                    · have hd := (HL2.out.mks.2 D hD).2
                      rcases HL2.out.si.typ hb with ⟨es, c, e⟩ | ⟨cs, t, fr, e, _⟩ <;> (rw [hd] at e; cases e)
                    · rcases hc with rfl | ⟨_, cs, t, fr, e, ht⟩
                      · exact HNB.out
                      · intro hb2
                        rcases HL2.out.si.typ hb2 with ⟨es, c, e2⟩ | ⟨cs2, t2, fr2, e2, ht2⟩
                        · rw [e] at e2; cases e2
                        · rw [e] at e2
                          injection e2 with e2
                          injection e2 with _ e2 _
                          subst e2
                          unfold KqT at ht
                          rcases ht with ht | ht | ht <;> rcases ht2 with ht2 | ht2 <;> (rw [ht] at ht2; exact absurd ht2 (by decide))
                · rintro W ⟨s3, p3, hs3, hl3, _⟩ hmark
                  rw [List.take_length] at hs3
                  have HM3 := Lib.hid (show LpI n0 b4 b6 b7 b8 b9 gS most w s3 p3 (w12.heap.size :: Ds) W from ⟨hl3.si, hl3.st, hl3.ow, hl3.ex, List.nodup_cons.2 ⟨fun hm => by have := HM12.out.mks.lt _ hm; omega, hl3.mks.1⟩, fun D hD => by
                    rcases List.mem_cons.1 hD with rfl | hD
                    · exact ⟨HNL.out, hmark⟩
                    · exact hl3.mks.2 D hD⟩)
                  have HR3 := Lib.hid (show (∀ r, Run most short s3 r → Run most short s1 r) ∧ KL X.length s3 from ⟨fun r (hr : Run most short s3 r) => HRUN.out.1 r (.step HN.out HNF.out hs3 hr), (HRUN.out.2.next HN.out).1.nbrs HVH.out (HRUN.out.2.next HN.out).2 (nbrs h).length (by rw [List.take_length]; exact hs3)⟩)
                  have hme : meas most s3 < meas most s := by
                    have h1 := meas_next (most := most) HN.out
                    have h2 := meas_all _ hs3
                    omega
                  have HME := Lib.hid hme
                  have HDS2 := Lib.hid (show (w12.heap.size :: Ds).map mrkD = { target := .collected w12.heap.size, args := #[] } :: ds from by rw [List.map_cons, hds]; rfl)
                  clear hs3 hl3 hmark hme
                  go_wp2_with fail
                  refine Handed.intro (meas most s3) HME.out ?_
                  apply hJ
                  exact ⟨_, s3, p3, w12.heap.size :: Ds, rfl, HDS2.out, HM3, HR3, exl _ (fun u => ⟨[.agg #[.slice A nX c, .slice A2 nO c2], .int .i64 most, .bool short, u 3, .pointer (some ⟨b4, 0, none⟩), u 5, .pointer (some ⟨b6, 0, none⟩), .pointer (some ⟨b7, 0, none⟩), .pointer (some ⟨b8, 0, none⟩), .pointer (some ⟨b9, 0, none⟩), u 10, u 11, u 12, u 13, u 14, u 15, u 16, u 17, u 18, u 19, u 20, u 21, u 22, u 23, u 24, u 25, u 26, u 27, u 28, u 29, u 30, u 31, u 32, u 33, u 34, u 35, u 36, u 37, u 38, u 39, u 40, u 41, u 42, u 43, u 44, u 45, u 46, u 47, u 48, u 49, u 50, u 51, u 52, u 53, u 54, u 55, u 56, u 57, u 58, u 59, u 60, u 61, u 62, u 63, u 64, u 65, u 66, u 67, u 68, u 69, u 70].toArray, { target := .collected w12.heap.size, args := #[] } :: ds⟩) rfl⟩
                · rintro W ⟨h1, h2, h3, h4, h5⟩ hmark
                  have HNA := Lib.hid h1
                  have HMX := Lib.hid (show MkD n0 (w12.heap.size :: Ds) W from ⟨List.nodup_cons.2 ⟨fun hm => by have := HM12.out.mks.lt _ hm; omega, h5.1⟩, fun D hD => by
                    rcases List.mem_cons.1 hD with rfl | hD
                    · exact ⟨HNL.out, hmark⟩
                    · exact h5.2 D hD⟩)
                  have HRX := Lib.hid h2
                  have HBX := Lib.hid h3
                  have HDS2 := Lib.hid (show (w12.heap.size :: Ds).map mrkD = { target := .collected w12.heap.size, args := #[] } :: ds from by rw [List.map_cons, hds]; rfl)
                  clear h1 h2 h3 h4 h5 hmark
                  gi_wp2_with fail
                  rw [← HDS2.out]
                  refine ex_end (n0 := n0) (w := w) (fun _ => True) (fun _ _ _ _ h => h) rfl rfl rfl (fun W _ hb => ⟨by rw [← HN0.out]; exact hb, .inr (.inr ⟨HVD.out, by have := HCM.out; simp only; omega, .fuel, .some HAS.out (HRUN.out.1 _ (.fuel HN.out HNF.out HNA.out)), .inl ⟨rfl, rfl⟩⟩)⟩) (w12.heap.size :: Ds) W HMX.out HRX.out HBX.out trivial
  · have zv : validB X O = false := by
      cases h : validB X O with
      | false => rfl
      | true => exact absurd ((validB_iff X O).1 h) hv
    have HVD := Lib.hid (show ¬ VdG (X, O) from hv)
    have HV1 := Lib.hid (HV.out w1 E1.out.bel)
    rw [zv] at HV1
    clear hv zv
    go_upto_region 2 with (go_at_call 28; refine HV1.out.mono ?_; rintro e2 w2 ⟨rfl, hb2⟩)
    have E2 := Lib.hid (E1.out.below hb2)
    clear y0 y1 hb2 HV1 E1
    obtain ⟨v6, h6⟩ := E2.out.x6
    obtain ⟨v7, h7⟩ := E2.out.x7
    have h8 := E2.out.x8
    have y6 := h6.cell 0
    have y7 := h7.cell 0
    have y8 := h8.cell 0
    have f6 := h6.frozen 0
    have f7 := h7.frozen 0
    have f8 := h8.frozen 0
    have n67 : ¬ b6 = b7 := arr_ne h6 h7 (by decide)
    have n68 : ¬ b6 = b8 := arr_ne h6 h8 (by decide)
    have n78 : ¬ b7 = b8 := arr_ne h7 h8 (by decide)
    have n76 : ¬ b7 = b6 := fun e => n67 e.symm
    have n86 : ¬ b8 = b6 := fun e => n68 e.symm
    have n87 : ¬ b8 = b7 := fun e => n78 e.symm
    have HR := Lib.hid (rs3_set h6 h7 h8 (.pointer none) (.string ⟨#[]⟩) (.int .i64 1))
    have HRB := Lib.hid (rs3_below E2.out.bel E2.out.le (b6 := b6) (b7 := b7) (b8 := b8) L6.out L7.out L8.out (.pointer none) (.string ⟨#[]⟩) (.int .i64 1))
    clear h6 h7 h8
    go_wp2_with fail
    clear y6 y7 y8 f6 f7 f8 n67 n68 n78 n76 n86 n87
    generalize (((w2.setCell ⟨b6, 0, none⟩ (.pointer none)).setCell ⟨b7, 0, none⟩ (.string ⟨#[]⟩)).setCell ⟨b8, 0, none⟩ (.int .i64 1)) = w9 at HR HRB ⊢
    refine ex_end (n0 := n0) (w := w) (fun _ => True) (fun _ _ _ _ h => h) rfl rfl rfl (fun W _ hb => ⟨by rw [← HN0.out]; exact hb, .inl ⟨HVD.out, rfl⟩⟩) [] w9 ⟨by simp, by simp⟩ HR.out HRB.out trivial
theorem explore_any (vx vo : Value) (X O : List Int) (most : Int) (short : Bool) (w : World) (hX : Ints w vx X) (hO : Ints w vo O) (lX : X.length ≤ 1000) (lO : O.length ≤ 1000) (hm : most ≤ 90000000) (ht : Tb w) :
    Calls Tryz.prog 15 #[.agg #[vx, vo], .int .i64 most, .bool short] w (ExP most short (X, O) w) := explore_anyW vx vo X O most short w hX hO lX lO (.inl hm) ht
end Go.Proofs.YteliflcbegcdlaaGreatDoor

namespace Go.Proofs.YteliflcbegcdlaaGreatDoor
open Go.RowKit Go.Shelf
set_option linter.unusedVariables false
theorem alg_path {g0 : Gd} {K : List En} {A : List Gd} (h : Alg g0 K A) : ∀ (n i : Nat) (e : En) (a : Gd), i < n → K[i]? = some e → A[i]? = some a → ∃ L, PathK K (some e.key) L ∧ L.length ≤ i + 1 ∧ L.flatten.length ≤ 2 * (i + 1) ∧ Pls g0 L.reverse.flatten a
  | 0, i, e, a, hi, _, _ => by omega
  | n + 1, i, e, a, hi, hK, hA => by
    obtain ⟨hv, hk, hf⟩ := h.2 i e a hK hA
    have hm := List.mem_of_getElem? hK
    rcases hf with ⟨h1, h2, h3⟩ | ⟨j, b, e', hj, k1, k2, k3, k4⟩
    · refine ⟨[e.ms], .cons hm (by rw [h1]; exact .nil), by simp, by simp [h2], ?_⟩
      simp [h2, h3]
      exact .nil g0
    · obtain ⟨L, l1, l2, l3, l4⟩ := alg_path h n j e' b (by omega) k1 k2
      have hvb := (h.2 j e' b k1 k2).1
      obtain ⟨p1, p2⟩ := nbrs_pls hvb k4
      refine ⟨e.ms :: L, .cons hm (by rw [k3]; exact l1), by simp; omega, by simp at l3 ⊢; omega, ?_⟩
      rw [List.reverse_cons, List.flatten_append]
      simp
      have := l4.app p1
      simpa using this
theorem fd_path {g0 : Gd} {K : List En} {c : Gd} (h : Fd g0 K c) : ∃ L a, PathK K (some c) L ∧ L.length ≤ K.length ∧ L.flatten.length ≤ 2 * K.length ∧ Pls g0 L.reverse.flatten a ∧ a.1.length = 2 := by
  obtain ⟨A, a, hA, ha, h2, rfl⟩ := h
  obtain ⟨i, e, k1, k2, k3, k4⟩ := hA.get ha
  obtain ⟨L, l1, l2, l3, l4⟩ := alg_path hA (i + 1) i e a (by omega) k1 k2
  have := (List.getElem?_eq_some_iff.1 k1).1
  exact ⟨L, a, by rw [k3]; exact l1, by omega, by omega, l4, h2⟩
/-- what Decide hands back -/
def DecP (most : Int) (g : Gd) (w : World) (e : Ending) (w' : World) : Prop :=
  Below w.heap.size w w' ∧
  ((¬ VdG g ∧ e = .returned (.tuple #[.agg #[.bool false, .slice none 0 0, .int .i64 0], .int .i64 1])) ∨
   (VdG g ∧ 1 < comp g.1 g.2 ∧ e = .returned (.tuple #[.agg #[.bool false, .slice none 0 0, .int .i64 0], .int .i64 16])) ∨
   (VdG g ∧ comp g.1 g.2 ≤ 1 ∧ ∃ r, Exq most true g r ∧
     ((r = .fuel ∧ e = .returned (.tuple #[.agg #[.bool false, .slice none 0 0, .int .i64 0], .int .i64 13])) ∨
      (∃ K, r = .done K ∧ e = .returned (.tuple #[.agg #[.bool false, .slice none 0 0, .int .i64 (K.length : Int)], .int .i64 0])) ∨
      ∃ K c L a v, r = .found K c ∧ PathK K (some c) L ∧ L.flatten.length ≤ 2 * most.toNat ∧ Pls g L.reverse.flatten a ∧ a.1.length = 2 ∧ Moves w' v L.reverse.flatten ∧ e = .returned (.tuple #[.agg #[.bool true, v, .int .i64 0], .int .i64 0]))))
theorem info_vdt : (Tryz.prog.info? 41).map (fun i => (i.zero, i.size, i.bytes)) = some (some (.agg #[.bool false, .slice none 0 0, .int .i64 0]), 3, 40) := by kernel_rfl
theorem load_vdt {w : World} {R : Nat} {a b c : Value} (h : Arr w R 41 [a, b, c]) : (loadVar 41 ⟨R, 0, none⟩).run Tryz.prog w = .ok (.agg #[a, b, c]) w := by
  obtain ⟨i, hi, hz, hs, hb⟩ := info_parts info_vdt
  exact run_loadVar_row w R _ _ _ _ _ h Tryz.underlying41 rfl (by rw [hi]; show some i.size = _; rw [hs]; rfl)
/-- moves do not lie in a verdict -/
theorem vdt_moves {w : World} {R : Nat} {u : Value} {ms : List Mv} (h : Arr w R 41 [.bool false, .slice none 0 0, .int .i64 0]) (hm : Moves w u ms) (x y z : Value) : Moves (((w.setCell ⟨R, 0, none⟩ x).setCell ⟨R, 1, none⟩ y).setCell ⟨R, 2, none⟩ z) u ms := by
  obtain ⟨A0, c, e, hx⟩ := hm
  refine ⟨A0, c, e, fun j hj => ?_⟩
  obtain ⟨b, off, e1, hcell⟩ := hx j hj
  have hb : b ≠ R := by
    rintro rfl
    have c0 := hcell 0 _ rfl
    have c1 := hcell 1 _ rfl
    rw [h.cell] at c0 c1
    rcases hq : off + j * 4 + 0 with _ | _ | _ | n
    · rw [hq] at c0; cases c0
    · rw [hq] at c0; cases c0
    · rw [show off + j * 4 + 1 = 3 by omega] at c1; cases c1
    · rw [hq] at c0; simp at c0
  exact ⟨b, off, e1, fun i u hu => (World.cell?_of_block ((Below.heap_setCell _ ⟨R, 2, none⟩ _ b (fun e => hb e)).trans ((Below.heap_setCell _ ⟨R, 1, none⟩ _ b (fun e => hb e)).trans (Below.heap_setCell _ ⟨R, 0, none⟩ _ b (fun e => hb e))))).trans (hcell i u hu)⟩
set_option maxHeartbeats 4000000 in
set_option maxRecDepth 100000 in
theorem Decide_any (vx vo : Value) (X O : List Int) (most : Int) (w : World) (hX : Ints w vx X) (hO : Ints w vo O) (lX : X.length ≤ 1000) (lO : O.length ≤ 1000) (hm : most ≤ 10000) (ht : Tb w) :
    Calls Tryz.prog 14 #[.agg #[vx, vo], .int .i64 most] w (DecP most (X, O) w) := by
  have HE := Lib.hid (fun W (hb : Below w.heap.size w W) => explore_any vx vo X O most true W (hX.below hb) (hO.below hb) lX lO (by omega) (ht.below hb))
  obtain ⟨A, c, rfl, -, -⟩ := hX
  obtain ⟨A2, c2, rfl, -, -⟩ := hO
  have HM := Lib.hid hm
  clear lX lO hm ht
  go_enter Tryz.func14, Tryz.ntmps14
  go_upto_region 1 with fail
  have hal := ((Below.refl w.heap.size w).alloc (Nat.le_refl _) (.cells #[.slice A X.length c, .slice A2 O.length c2] 24)).alloc (by simp only [World.size_alloc]; omega) (.cells #[.bool false, .slice none 0 0, .int .i64 0] 41)
  have X0 := Lib.hid (show Arr ((w.alloc (.cells #[.slice A X.length c, .slice A2 O.length c2] 24)).alloc (.cells #[.bool false, .slice none 0 0, .int .i64 0] 41)) w.heap.size 24 [.slice A X.length c, .slice A2 O.length c2] from (Arr.new w _ [_, _]).alloc _)
  have X1 := Lib.hid (show Arr ((w.alloc (.cells #[.slice A X.length c, .slice A2 O.length c2] 24)).alloc (.cells #[.bool false, .slice none 0 0, .int .i64 0] 41)) (w.heap.size + 1) 41 [.bool false, .slice none 0 0, .int .i64 0] from by
    have := Arr.new (w.alloc (.cells #[.slice A X.length c, .slice A2 O.length c2] 24)) 41 [.bool false, .slice none 0 0, .int .i64 0]
    simp only [World.size_alloc] at this
    exact this)
  have HB1 := Lib.hid hal
  generalize (w.alloc (.cells #[.slice A X.length c, .slice A2 O.length c2] 24)).alloc (.cells #[.bool false, .slice none 0 0, .int .i64 0] 41) = w1 at X0 X1 HB1 ⊢
  have HRL := Lib.hid (show w.heap.size ≤ w.heap.size + 1 by omega)
  obtain ⟨R, hRR⟩ : ∃ n, n = w.heap.size + 1 := ⟨_, rfl⟩
  rw [← hRR] at X1 HRL ⊢
  clear hRR hal
  have y0 := X0.out.cell 0
  have y1 := X0.out.cell 1
  have HE1 := Lib.hid (HE.out w1 HB1.out)
  clear HE
  go_wp2_with fail
  refine HE1.out.mono ?_
  rintro e2 w2 ⟨hb2, hc⟩
  have HB2 := Lib.hid (HB1.out.trans (hb2.mono HB1.out.size))
  have hR := X1.out.below hb2 X1.out.lt
  have r0 := hR.cell 0
  have r1 := hR.cell 1
  have r2 := hR.cell 2
  have f0 := hR.frozen 0
  have f1 := hR.frozen 1
  have f2 := hR.frozen 2
  have HR2 := Lib.hid hR
  clear hR y0 y1 HE1
  rcases hc with ⟨hv, rfl⟩ | ⟨hv, hc, rfl⟩ | ⟨hv, hc, r, hr, (⟨rfl, rfl⟩ | ⟨K, W, gS, p, hsi, hst, how, (⟨rfl, rfl⟩ | ⟨cl, rfl, rfl⟩)⟩)⟩
  · have HVD := Lib.hid hv
    clear hv
    go_wp2_with fail
    have hR := HR2.out
    have a9 := ((hR.set 0 (.bool false)).set 1 (.slice none 0 0)).set 2 (.int .i64 0)
    have b9 := ((HB2.out.setCell (p := ⟨R, 0, none⟩) HRL.out (.bool false)).setCell (p := ⟨R, 1, none⟩) HRL.out (.slice none 0 0)).setCell (p := ⟨R, 2, none⟩) HRL.out (.int .i64 0)
    generalize ((w2.setCell ⟨R, 0, none⟩ (.bool false)).setCell ⟨R, 1, none⟩ (.slice none 0 0)).setCell ⟨R, 2, none⟩ (.int .i64 0) = w9 at a9 b9 ⊢
    refine bodyPost_ret (results_ctv rfl _ _ _ ⟨R, 0, none⟩ _ rfl (load_vdt a9)) rfl ?_
    exact ⟨b9, .inl ⟨HVD.out, rfl⟩⟩
  · have HVD := Lib.hid hv
    have HCM := Lib.hid hc
    clear hv hc
    go_wp2_with fail
    have hR := HR2.out
    have a9 := ((hR.set 0 (.bool false)).set 1 (.slice none 0 0)).set 2 (.int .i64 0)
    have b9 := ((HB2.out.setCell (p := ⟨R, 0, none⟩) HRL.out (.bool false)).setCell (p := ⟨R, 1, none⟩) HRL.out (.slice none 0 0)).setCell (p := ⟨R, 2, none⟩) HRL.out (.int .i64 0)
    generalize ((w2.setCell ⟨R, 0, none⟩ (.bool false)).setCell ⟨R, 1, none⟩ (.slice none 0 0)).setCell ⟨R, 2, none⟩ (.int .i64 0) = w9 at a9 b9 ⊢
    refine bodyPost_ret (results_ctv rfl _ _ _ ⟨R, 0, none⟩ _ rfl (load_vdt a9)) rfl ?_
    exact ⟨b9, .inr (.inl ⟨HVD.out, HCM.out, rfl⟩)⟩
  · have HVD := Lib.hid hv
    have HCM := Lib.hid hc
    have HRR := Lib.hid hr
    clear hv hc hr
    go_wp2_with fail
    have hR := HR2.out
    have a9 := ((hR.set 0 (.bool false)).set 1 (.slice none 0 0)).set 2 (.int .i64 0)
    have b9 := ((HB2.out.setCell (p := ⟨R, 0, none⟩) HRL.out (.bool false)).setCell (p := ⟨R, 1, none⟩) HRL.out (.slice none 0 0)).setCell (p := ⟨R, 2, none⟩) HRL.out (.int .i64 0)
    generalize ((w2.setCell ⟨R, 0, none⟩ (.bool false)).setCell ⟨R, 1, none⟩ (.slice none 0 0)).setCell ⟨R, 2, none⟩ (.int .i64 0) = w9 at a9 b9 ⊢
    refine bodyPost_ret (results_ctv rfl _ _ _ ⟨R, 0, none⟩ _ rfl (load_vdt a9)) rfl ?_
    exact ⟨b9, .inr (.inr ⟨HVD.out, HCM.out, _, HRR.out, .inl ⟨rfl, rfl⟩⟩)⟩
  · have HVD := Lib.hid hv
    have HCM := Lib.hid hc
    have HRR := Lib.hid hr
    obtain ⟨cs, q1, q2⟩ := hsi.cls
    have hl := q2.len
    rw [List.length_map] at hl
    simp only at hl
    obtain ⟨A3, c3, hvc⟩ := q1.form
    have g2 := hsi.hd.cell 2
    simp only [List.getElem?_cons_succ, List.getElem?_cons_zero, hvc, hl] at g2
    have HSI := Lib.hid hsi
    clear hv hc hr hsi hst how q1 q2 hl hvc
    go_wp2_with fail
    have hR := HR2.out
    have a9 := ((hR.set 0 (.bool false)).set 1 (.slice none 0 0)).set 2 (.int .i64 (K.length : Int))
    have b9 := ((HB2.out.setCell (p := ⟨R, 0, none⟩) HRL.out (.bool false)).setCell (p := ⟨R, 1, none⟩) HRL.out (.slice none 0 0)).setCell (p := ⟨R, 2, none⟩) HRL.out (.int .i64 (K.length : Int))
    generalize ((w2.setCell ⟨R, 0, none⟩ (.bool false)).setCell ⟨R, 1, none⟩ (.slice none 0 0)).setCell ⟨R, 2, none⟩ (.int .i64 (K.length : Int)) = w9 at a9 b9 ⊢
    refine bodyPost_ret (results_ctv rfl _ _ _ ⟨R, 0, none⟩ _ rfl (load_vdt a9)) rfl ?_
    exact ⟨b9, .inr (.inr ⟨HVD.out, HCM.out, _, HRR.out, .inr (.inl ⟨K, rfl, rfl⟩)⟩)⟩
  · have HVD := Lib.hid hv
    have HCM := Lib.hid hc
    have HRR := Lib.hid hr
    have hkm := hr.most K (.inr ⟨cl, rfl⟩)
    obtain ⟨L, a, hL, l1, l2', l3, l4⟩ := fd_path ((hr.pl hv).2 K cl rfl)
    have hk4 : K.length ≤ 10000 := by have := HM.out; omega
    have HPT := Lib.hid (path_any gS p (K, W) cl L w2 hsi hst hL (by omega) (by omega))
    have HL := Lib.hid hL
    have HLF := Lib.hid (show L.flatten.length ≤ 2 * most.toNat by omega)
    have HL3 := Lib.hid l3
    have HL4 := Lib.hid l4
    have ze : (fmG cl).isEmpty = false := by
      obtain ⟨x, l, hxl⟩ := fm_ne cl
      rw [hxl]; rfl
    clear hv hc hr hsi hst how hkm hL l1 l2' l3 l4 hk4
    go_wp2_with (go_at_call 32; refine HPT.out.mono ?_; rintro e3 w3 ⟨v3, rfl, hm3, hb3⟩; have HR3 := Lib.hid (HR2.out.below hb3 HR2.out.lt); have HM3 := Lib.hid hm3; have HB3 := Lib.hid (HB2.out.trans (hb3.mono HB2.out.size)); clear r0 r1 r2 f0 f1 f2 hm3 hb3; obtain ⟨sx, hsx⟩ := HM3.out.svx; subst hsx; simp only [sv]; have r0 := HR3.out.cell 0; have r1 := HR3.out.cell 1; have r2 := HR3.out.cell 2; have f0 := HR3.out.frozen 0; have f1 := HR3.out.frozen 1; have f2 := HR3.out.frozen 2)
    have hR := HR3.out
    have a9 := ((hR.set 0 (.bool true)).set 1 (.slice sx.1 sx.2.1 sx.2.2)).set 2 (.int .i64 0)
    have b9 := ((HB3.out.setCell (p := ⟨R, 0, none⟩) HRL.out (.bool true)).setCell (p := ⟨R, 1, none⟩) HRL.out (.slice sx.1 sx.2.1 sx.2.2)).setCell (p := ⟨R, 2, none⟩) HRL.out (.int .i64 0)
    have m9 := vdt_moves hR HM3.out (.bool true) (.slice sx.1 sx.2.1 sx.2.2) (.int .i64 0)
    generalize ((w3.setCell ⟨R, 0, none⟩ (.bool true)).setCell ⟨R, 1, none⟩ (.slice sx.1 sx.2.1 sx.2.2)).setCell ⟨R, 2, none⟩ (.int .i64 0) = w9 at a9 b9 m9 ⊢
    refine bodyPost_ret (results_ctv rfl _ _ _ ⟨R, 0, none⟩ _ rfl (load_vdt a9)) rfl ?_
    exact ⟨b9, .inr (.inr ⟨HVD.out, HCM.out, _, HRR.out, .inr (.inr ⟨K, cl, L, a, _, rfl, HL.out, HLF.out, HL3.out, HL4.out, m9, rfl⟩)⟩)⟩
end Go.Proofs.YteliflcbegcdlaaGreatDoor

namespace Go.Proofs.YteliflcbegcdlaaGreatDoor
open Go.RowKit Go.Shelf
set_option linter.unusedVariables false
def T5 : Gd := ([0, 1, 2, 3, 4], [2, 3, 4, 0, 1])
def U3 : Gd := ([0, 2, 1], [2, 1, 0])
theorem addAll_known {most : Int} {fr : Option Gd} : ∀ (l : List (List Mv × Gd)) (s : St), (∀ p ∈ l, hasK s.1 (lstM p.2) = true) → addAll most fr s l = some s
  | [], s, _ => rfl
  | (ms, g) :: t, s, h => by
    unfold addAll addM
    rw [if_pos (h (ms, g) (by simp))]
    exact addAll_known t s fun p hp => h p (by simp [hp])
set_option maxRecDepth 100000 in
theorem tre_all : (nbrs T5).all (fun p => decide (lstM p.2 = lstM T5)) = true := by decide +kernel
theorem vd_T5 : VdG T5 := (validB_iff _ _).1 (by decide +kernel)
theorem vd_U3 : VdG U3 := (validB_iff _ _).1 (by decide +kernel)
theorem cp_T5 : comp T5.1 T5.2 = 1 := by decide +kernel
theorem cp_U3 : comp U3.1 U3.2 = 1 := by decide +kernel
set_option maxRecDepth 100000 in
theorem du_U3 : DU U3 := by decide +kernel
theorem exq_tre : Exq 1000 true T5 (.done [⟨lstM T5, [], none⟩]) := by
  refine .some (s := ([⟨lstM T5, [], none⟩], st00.2.modify 5 (· ++ [T5]))) rfl ?_
  refine .step (g := T5) (W := st00.2) (s' := ([⟨lstM T5, [], none⟩], st00.2)) rfl (by rintro ⟨_, h⟩; exact absurd h (by decide)) (addAll_known _ _ fun p hp => ?_) (.done rfl)
  have := List.all_eq_true.1 tre_all p hp
  have := of_decide_eq_true this
  rw [this]
  exact List.any_eq_true.2 ⟨⟨lstM T5, [], none⟩, by simp, by simp⟩
theorem decide_tre (va vb : Value) (w : World) (hX : Ints w va T5.1) (hO : Ints w vb T5.2) (ht : Tb w) :
    Calls Tryz.prog 14 #[.agg #[va, vb], .int .i64 1000] w fun e w' => e = .returned (.tuple #[.agg #[.bool false, .slice none 0 0, .int .i64 1], .int .i64 0]) ∧ Below w.heap.size w w' := by
  refine (Decide_any va vb T5.1 T5.2 1000 w hX hO (by decide) (by decide) (by decide) ht).mono ?_
  rintro e w' ⟨hb, hc⟩
  rcases hc with ⟨hv, _⟩ | ⟨_, hc, _⟩ | ⟨_, _, r, hr, hc⟩
  · exact absurd vd_T5 hv
  · rw [show comp (T5.1, T5.2).1 (T5.1, T5.2).2 = 1 from cp_T5] at hc; omega
  · have := Exq.det (g := T5) hr exq_tre
    subst this
    rcases hc with ⟨h, _⟩ | ⟨K, h, rfl⟩ | ⟨K, c, L, a, v, h, _⟩
    · cases h
    · injection h with h
      subst h
      exact ⟨rfl, hb⟩
    · cases h
theorem decide_u3 (va vb : Value) (w : World) (hX : Ints w va U3.1) (hO : Ints w vb U3.2) (ht : Tb w) :
    Calls Tryz.prog 14 #[.agg #[va, vb], .int .i64 1000] w fun e w' => ∃ A n c, e = .returned (.tuple #[.agg #[.bool true, .slice A (n + 1) c, .int .i64 0], .int .i64 0]) ∧ Below w.heap.size w w' := by
  refine (Decide_any va vb U3.1 U3.2 1000 w hX hO (by decide) (by decide) (by decide) ht).mono ?_
  rintro e w' ⟨hb, hc⟩
  rcases hc with ⟨hv, _⟩ | ⟨_, hc, _⟩ | ⟨_, _, r, hr, hc⟩
  · exact absurd vd_U3 hv
  · rw [show comp (U3.1, U3.2).1 (U3.1, U3.2).2 = 1 from cp_U3] at hc; omega
  · rcases hc with ⟨rfl, _⟩ | ⟨K, rfl, _⟩ | ⟨K, c, L, a, v, rfl, _, _, hp, h2, hm, rfl⟩
    · exact absurd hr (room3 (g := U3) vd_U3 (by decide) (by decide))
    · exact absurd ((Exq.pl (g := U3) vd_U3 hr).1 K rfl) (no_done vd_U3 (by decide) cp_U3 du_U3)
    · cases hl : L.reverse.flatten with
      | nil =>
        rw [hl] at hp
        have := hp.1 0
        injection this with _ this
        injection this with e1 _
        rw [← e1] at h2
        cases h2
      | cons m ms =>
        rw [hl] at hm
        obtain ⟨A, c', rfl, _⟩ := hm
        exact ⟨A, ms.length, c', rfl, hb⟩
set_option maxHeartbeats 2000000 in
set_option maxRecDepth 100000 in
theorem great45_any (A A2 : Option Addr) (n c m d : Nat) (k : Int) (w : World) :
    Calls Tryz.prog 6 #[.agg #[.slice A n c, .slice A2 m d], .int .i64 k] w fun e w' => e = .returned (.bool (decide (k < (n : Int)) || decide (k < (m : Int)))) ∧ Below w.heap.size w w' := by
  have HB := Lib.hid (show Below w.heap.size w (w.alloc (.cells #[.slice A n c, .slice A2 m d] 24)) from (Below.refl _ w).alloc (Nat.le_refl _) _)
  by_cases h1 : k < (n : Int)
  · go_enter Tryz.func6, Tryz.ntmps6
    go_wp2_with fail
    go_ret
    exact ⟨by simp [h1], HB.out⟩
  · by_cases h2 : k < (m : Int)
    · go_enter Tryz.func6, Tryz.ntmps6
      go_wp2_with fail
      go_ret
      exact ⟨by simp [h1, h2], HB.out⟩
    · go_enter Tryz.func6, Tryz.ntmps6
      go_wp2_with fail
      go_ret
      exact ⟨by simp [h1, h2], HB.out⟩
set_option maxHeartbeats 4000000 in
set_option maxRecDepth 100000 in
theorem awake45 (w : World) (ht : Tb w) : Calls Tryz.prog 5 #[] w fun e w' => e = .returned (.bool true) ∧ Below w.heap.size w w' := by
  have HT := Lib.hid (fun W (hb : Below w.heap.size w W) => ht.below hb)
  clear ht
  go_enter Tryz.func5, Tryz.ntmps5
  go_wp2_with fail
  have hb1 := ((Below.refl w.heap.size w).alloc (Nat.le_refl _) (.cells #[.int .i64 0, .int .i64 1, .int .i64 2, .int .i64 3, .int .i64 4] 3)).alloc (by simp only [World.size_alloc]; omega) (.cells #[.int .i64 2, .int .i64 3, .int .i64 4, .int .i64 0, .int .i64 1] 3)
  have i1 : Ints ((w.alloc (.cells #[.int .i64 0, .int .i64 1, .int .i64 2, .int .i64 3, .int .i64 4] 3)).alloc (.cells #[.int .i64 2, .int .i64 3, .int .i64 4, .int .i64 0, .int .i64 1] 3)) (.slice (some ⟨w.heap.size, 0, none⟩) 5 5) T5.1 := Ints.of_arr (xs := T5.1) ((Arr.new w 3 (ints T5.1)).alloc _)
  have i2 : Ints ((w.alloc (.cells #[.int .i64 0, .int .i64 1, .int .i64 2, .int .i64 3, .int .i64 4] 3)).alloc (.cells #[.int .i64 2, .int .i64 3, .int .i64 4, .int .i64 0, .int .i64 1] 3)) (.slice (some ⟨w.heap.size + 1, 0, none⟩) 5 5) T5.2 := by
    have := Arr.new (w.alloc (.cells #[.int .i64 0, .int .i64 1, .int .i64 2, .int .i64 3, .int .i64 4] 3)) 3 (ints T5.2)
    simp only [World.size_alloc] at this
    exact Ints.of_arr (xs := T5.2) this
  have HD1 := Lib.hid (decide_tre _ _ _ i1 i2 (HT.out _ hb1))
  have HB1 := Lib.hid hb1
  generalize (w.alloc (.cells #[.int .i64 0, .int .i64 1, .int .i64 2, .int .i64 3, .int .i64 4] 3)).alloc (.cells #[.int .i64 2, .int .i64 3, .int .i64 4, .int .i64 0, .int .i64 1] 3) = w1 at i1 i2 HD1 HB1 ⊢
  clear i1 i2 hb1
  refine HD1.out.mono ?_
  rintro e2 w2 ⟨rfl, hb2⟩
  have HB2 := Lib.hid (HB1.out.trans (hb2.mono HB1.out.size))
  clear hb2 HD1
  go_wp2_with fail
  have hb3 := (((Below.refl w2.heap.size w2).alloc (Nat.le_refl _) (.cells #[.bool false, .slice none 0 0, .int .i64 1] 41)).alloc (by simp only [World.size_alloc]; omega) (.cells #[.int .i64 0, .int .i64 2, .int .i64 1] 3)).alloc (by simp only [World.size_alloc]; omega) (.cells #[.int .i64 2, .int .i64 1, .int .i64 0] 3)
  have i1 : Ints (((w2.alloc (.cells #[.bool false, .slice none 0 0, .int .i64 1] 41)).alloc (.cells #[.int .i64 0, .int .i64 2, .int .i64 1] 3)).alloc (.cells #[.int .i64 2, .int .i64 1, .int .i64 0] 3)) (.slice (some ⟨w2.heap.size + 1, 0, none⟩) 3 3) U3.1 := by
    have := Arr.new (w2.alloc (.cells #[.bool false, .slice none 0 0, .int .i64 1] 41)) 3 (ints U3.1)
    simp only [World.size_alloc] at this
    exact Ints.of_arr (xs := U3.1) (this.alloc _)
  have i2 : Ints (((w2.alloc (.cells #[.bool false, .slice none 0 0, .int .i64 1] 41)).alloc (.cells #[.int .i64 0, .int .i64 2, .int .i64 1] 3)).alloc (.cells #[.int .i64 2, .int .i64 1, .int .i64 0] 3)) (.slice (some ⟨w2.heap.size + 1 + 1, 0, none⟩) 3 3) U3.2 := by
    have := Arr.new ((w2.alloc (.cells #[.bool false, .slice none 0 0, .int .i64 1] 41)).alloc (.cells #[.int .i64 0, .int .i64 2, .int .i64 1] 3)) 3 (ints U3.2)
    simp only [World.size_alloc] at this
    exact Ints.of_arr (xs := U3.2) this
  have XV := Lib.hid (show Arr (((w2.alloc (.cells #[.bool false, .slice none 0 0, .int .i64 1] 41)).alloc (.cells #[.int .i64 0, .int .i64 2, .int .i64 1] 3)).alloc (.cells #[.int .i64 2, .int .i64 1, .int .i64 0] 3)) w2.heap.size 41 [.bool false, .slice none 0 0, .int .i64 1] from ((Arr.new w2 41 [_, _, _]).alloc _).alloc _)
  have HD2 := Lib.hid (decide_u3 _ _ _ i1 i2 (HT.out _ (HB2.out.trans (hb3.mono HB2.out.size))))
  have HB3 := Lib.hid (HB2.out.trans (hb3.mono HB2.out.size))
  generalize ((w2.alloc (.cells #[.bool false, .slice none 0 0, .int .i64 1] 41)).alloc (.cells #[.int .i64 0, .int .i64 2, .int .i64 1] 3)).alloc (.cells #[.int .i64 2, .int .i64 1, .int .i64 0] 3) = w3 at i1 i2 HD2 XV HB3 ⊢
  clear i1 i2 hb3
  refine HD2.out.mono ?_
  rintro e4 w4 ⟨A, n, c, rfl, hb4⟩
  have XV4 := (XV.out.below hb4 XV.out.lt).alloc (.cells #[.bool true, .slice A (n + 1) c, .int .i64 0] 41)
  have y0 := XV4.cell 0
  have y1 := XV4.cell 1
  have y2 := XV4.cell 2
  have HB4 := Lib.hid (HB3.out.trans (hb4.mono HB3.out.size))
  clear hb4 HD2 XV4
  have zn : (0 : Int) < (n : Int) + 1 := by omega
  go_wp2_with fail
  go_ret
  exact ⟨rfl, HB4.out.alloc HB4.out.size _⟩
end Go.Proofs.YteliflcbegcdlaaGreatDoor
