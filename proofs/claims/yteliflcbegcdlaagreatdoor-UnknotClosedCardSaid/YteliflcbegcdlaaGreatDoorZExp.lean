/- package unknot: from a small grid the search reaches few classes, whatever the budget (plain). -/
/- package unknot: explore. -/
import Derived.Test.YteliflcbegcdlaaGreatDoorZFll
import Derived.Test.YteliflcbegcdlaaGreatDoorZCmp
namespace Go.Proofs.YteliflcbegcdlaaGreatDoor
open Go.RowKit
set_option linter.unusedVariables false
/-- all grids of a state are at most of size N -/
structure KL (N : Nat) (s : St) : Prop where
  k : ∀ e ∈ s.1, e.key.1.length ≤ N ∧ gt e.key.1 0 = 0
  w : ∀ l ∈ s.2, ∀ g ∈ l, g.1.length ≤ N
theorem KL.next {N : Nat} {s : St} {g : Gd} {W : List (List Gd)} (h : KL N s) (hn : nextM s.2 = some (g, W)) : KL N (s.1, W) ∧ g.1.length ≤ N := by
  obtain ⟨k, t, e1, rfl⟩ := nextM_get hn
  have hm := List.mem_of_getElem? e1
  refine ⟨⟨h.k, ?_⟩, h.w _ hm g (by simp)⟩
  intro l hl g' hg'
  rcases List.mem_or_eq_of_mem_set hl with q | q
  · exact h.w l q g' hg'
  · subst q; exact h.w _ hm g' (by simp [hg'])
theorem KL.add {N : Nat} {most : Int} {s s' : St} {g : Gd} {fr : Option Gd} {ms : List Mv} (h : KL N s) (hg : VdG g) (hl : g.1.length ≤ N) (ha : addM most s g fr ms = some s') : KL N s' := by
  unfold addM at ha
  split at ha
  · injection ha with ha; subst ha; exact h
  split at ha
  · cases ha
  injection ha with ha
  subst ha
  refine ⟨?_, ?_⟩
  · intro e he
    rcases List.mem_append.1 he with he | he
    · exact h.k e he
    · rw [List.mem_singleton.1 he]; exact ⟨by rw [lstM_len hg]; exact hl, lst0 hg⟩
  · intro l hl2 g' hg'
    rcases modify_mem hl2 with hl2 | ⟨y, hy, rfl⟩
    · exact h.w l hl2 g' hg'
    · rcases List.mem_append.1 hg' with q | q
      · exact h.w y hy g' q
      · rw [List.mem_singleton.1 q]; exact hl
theorem KL.all {N : Nat} {most : Int} {fr : Option Gd} : ∀ (l : List (List Mv × Gd)) {s s' : St}, KL N s → (∀ p ∈ l, VdG p.2 ∧ p.2.1.length ≤ N) → addAll most fr s l = some s' → KL N s'
  | [], s, s', h, _, e => by injection e with e; subst e; exact h
  | (ms, g) :: t, s, s', h, hl, e => by
    unfold addAll at e
    cases h1 : addM most s g fr ms with
    | none => rw [h1] at e; cases e
    | some s1 =>
      rw [h1] at e
      have := hl (ms, g) (by simp)
      exact KL.all t (h.add this.1 this.2 h1) (fun p hp => hl p (by simp [hp])) e
theorem KL.start (N : Nat) : KL N st00 := ⟨fun e he => by simp [st00] at he, fun l hl g hg => by
  rw [List.eq_of_mem_replicate hl] at hg; simp at hg⟩
theorem KL.nbrs {N : Nat} {most : Int} {fr : Option Gd} {s s' : St} {g : Gd} (h : KL N s) (hv : VdG g) (hl : g.1.length ≤ N) (k : Nat) (e : addAll most fr s ((nbrs g).take k) = some s') : KL N s' :=
  h.all _ (fun p hp => have hm := List.mem_of_mem_take hp; ⟨nbrs_vd hv (show (p.1, p.2) ∈ _ from hm), Nat.le_trans (nbrs_len hv (show (p.1, p.2) ∈ _ from hm)) hl⟩) e
theorem KL.len {s : St} (h : KL 5 s) (hs : StP s) : s.1.length ≤ 3038 := by
  have := len_subG (s.1.map En.key) gUpto5 hs.nd fun c hc => by
    obtain ⟨e, he, rfl⟩ := List.mem_map.1 hc
    obtain ⟨hl, h0⟩ := h.k e he
    have hv := hs.v1 e he
    have h2 := hv.two
    have hmem := mem_gAll (g := e.key) hv h0
    unfold gUpto5
    have : e.key.1.length = 2 ∨ e.key.1.length = 3 ∨ e.key.1.length = 4 ∨ e.key.1.length = 5 := by omega
    rcases this with e | e | e | e <;> rw [e] at hmem
    · exact List.mem_append_left _ hmem
    · exact List.mem_append_right _ (List.mem_append_left _ hmem)
    · exact List.mem_append_right _ (List.mem_append_right _ (List.mem_append_left _ hmem))
    · exact List.mem_append_right _ (List.mem_append_right _ (List.mem_append_right _ hmem))
  rw [List.length_map, gUpto5_len] at this
  exact this
theorem KL.mono {N M : Nat} {s : St} (h : KL N s) (hm : N ≤ M) : KL M s := ⟨fun e he => ⟨Nat.le_trans (h.k e he).1 hm, (h.k e he).2⟩, fun l hl g hg => Nat.le_trans (h.w l hl g hg) hm⟩
/-- there is room in memory -/
theorem KL.room {N : Nat} {most : Int} {s : St} (h : KL N s) (hs : StP s) (hm : most ≤ 90000000 ∨ N ≤ 5) (hk : (s.1.length : Int) < most) : s.1.length < 90000000 := by
  rcases hm with hm | hm
  · omega
  · have := (h.mono hm).len hs; omega
theorem alg_kl {g : Gd} {K : List En} {A : List Gd} (hA : Alg g K A) : KL g.1.length (K, []) := by
  refine ⟨fun e he => ?_, fun l hl => by simp at hl⟩
  obtain ⟨i, hi⟩ := List.getElem?_of_mem he
  have hlt : i < A.length := by rw [hA.1]; exact (List.getElem?_eq_some_iff.1 hi).1
  obtain ⟨q1, q2, _⟩ := hA.2 i e _ hi (List.getElem?_eq_getElem hlt)
  have q3 := alg_len hA (i + 1) i e _ (by omega) hi (List.getElem?_eq_getElem hlt)
  rw [← q2]
  exact ⟨by rw [lstM_len q1]; exact q3, lst0 q1⟩
theorem KL.len2 {s : St} (h : KL 5 s) (hv : ∀ e ∈ s.1, Vd e.key.1 e.key.2) (hn : (s.1.map En.key).Nodup) : s.1.length ≤ 3038 :=
  KL.len (s := (s.1, List.replicate 41 [])) ⟨h.k, fun l hl g hg => by rw [List.eq_of_mem_replicate hl] at hg; simp at hg⟩ ⟨hv, fun l hl g hg => by rw [List.eq_of_mem_replicate hl] at hg; simp at hg, hn, fun l hl => by rw [List.eq_of_mem_replicate hl]; simp, by simp⟩
end Go.Proofs.YteliflcbegcdlaaGreatDoor

namespace Go.Proofs.YteliflcbegcdlaaGreatDoor
open Go.RowKit Go.Shelf
set_option linter.unusedVariables false
attribute [local go_sem] Oper.semAt_some
/-- the boxes of explore's start -/
structure Ex0 (n0 b3 b4 b6 b7 b8 : Nat) (g : List Value) (most : Int) (w W : World) : Prop where
  bel : Below n0 w W
  le : n0 ≤ W.heap.size
  x3 : Arr W b3 24 g
  x4 : Arr W b4 3 [.int .i64 most]
  x6 : ∃ v, Arr W b6 44 [.pointer v]
  x7 : ∃ v, Arr W b7 9 [.string v]
  x8 : Arr W b8 28 [.int .i64 0]
theorem Ex0.below {n0 b3 b4 b6 b7 b8 : Nat} {g : List Value} {most : Int} {w W W' : World} (h : Ex0 n0 b3 b4 b6 b7 b8 g most w W) (hb : Below W.heap.size W W') : Ex0 n0 b3 b4 b6 b7 b8 g most w W' := by
  obtain ⟨v6, h6⟩ := h.x6
  obtain ⟨v7, h7⟩ := h.x7
  have h8 := h.x8
  exact ⟨h.bel.trans (hb.mono h.le), Nat.le_trans h.le hb.size, h.x3.below hb h.x3.lt, h.x4.below hb h.x4.lt, ⟨v6, h6.below hb h6.lt⟩, ⟨v7, h7.below hb h7.lt⟩, h8.below hb h8.lt⟩
theorem arr_ne {W : World} {b b' : Nat} {t t' : TypeId} {a a' : List Value} (h : Arr W b t a) (h' : Arr W b' t' a') (ht : t ≠ t') : b ≠ b' := by
  rintro rfl
  have h1 : W.heap[_]? = _ := h
  have h2 : W.heap[_]? = _ := h'
  rw [h1] at h2
  injection h2 with h2
  injection h2 with _ h2 _
  exact ht h2
/-- the results of explore -/
def Rs3 (b6 b7 b8 : Nat) (v6 v7 v8 : Value) (W : World) : Prop := Arr W b6 44 [v6] ∧ Arr W b7 9 [v7] ∧ Arr W b8 28 [v8]
theorem rs3_set {b6 b7 b8 : Nat} {u6 u7 u8 : Value} {W : World} (h6 : Arr W b6 44 [u6]) (h7 : Arr W b7 9 [u7]) (h8 : Arr W b8 28 [u8]) (v6 v7 v8 : Value) :
    Rs3 b6 b7 b8 v6 v7 v8 (((W.setCell ⟨b6, 0, none⟩ v6).setCell ⟨b7, 0, none⟩ v7).setCell ⟨b8, 0, none⟩ v8) := by
  have n67 := arr_ne h6 h7 (by decide)
  have n68 := arr_ne h6 h8 (by decide)
  have n78 := arr_ne h7 h8 (by decide)
  exact ⟨((h6.set 0 v6).far (p := ⟨b7, 0, none⟩) n67 v7).far (p := ⟨b8, 0, none⟩) n68 v8, ((h7.far (p := ⟨b6, 0, none⟩) (Ne.symm n67) v6).set 0 v7).far (p := ⟨b8, 0, none⟩) n78 v8, ((h8.far (p := ⟨b6, 0, none⟩) (Ne.symm n68) v6).far (p := ⟨b7, 0, none⟩) (Ne.symm n78) v7).set 0 v8⟩
theorem rs3_below {n0 b6 b7 b8 : Nat} {w W : World} (h : Below n0 w W) (hl : n0 ≤ W.heap.size) (l6 : n0 ≤ b6) (l7 : n0 ≤ b7) (l8 : n0 ≤ b8) (v6 v7 v8 : Value) : Below n0 w (((W.setCell ⟨b6, 0, none⟩ v6).setCell ⟨b7, 0, none⟩ v7).setCell ⟨b8, 0, none⟩ v8) :=
  ((h.setCell (p := ⟨b6, 0, none⟩) l6 v6).setCell (p := ⟨b7, 0, none⟩) l7 v7).setCell (p := ⟨b8, 0, none⟩) l8 v8
theorem rs3_run {b6 b7 b8 : Nat} {v6 v7 v8 : Value} {W : World} {tmps : Array Value} (h : Rs3 b6 b7 b8 v6 v7 v8 W) (h6 : tmps[6]?.getD undef = .pointer (some ⟨b6, 0, none⟩)) (h7 : tmps[7]?.getD undef = .pointer (some ⟨b7, 0, none⟩)) (h8 : tmps[8]?.getD undef = .pointer (some ⟨b8, 0, none⟩)) :
    (results Tryz.f15 tmps).run Tryz.prog W = .ok (.tuple #[v6, v7, v8]) W := by
  have c6 := h.1.cell 0
  have c7 := h.2.1.cell 0
  have c8 := h.2.2.cell 0
  have hr : (Tryz.f15).results = #[.cell 6 44, .cell 7 9, .cell 8 28] := rfl
  have a6 := Tryz.isAgg44 W
  have a7 := Tryz.isAgg9 W
  have a8 := Tryz.isAgg28 W
  simp only [List.getElem?_cons_zero] at c6 c7 c8
  simp [results, hr, h6, h7, h8, asAddr, loadVar, a6, a7, a8, c6, c7, c8]
theorem run_mkMap (t : TypeId) (w : World) : Sem.run Tryz.prog (Instr.makeMap t none) w = .ok (.map (some w.heap.size)) (w.alloc (.map #[] 0)) := by
  simp [Instr.makeMap, Result.andThen]
theorem below_put {n0 D : Nat} {w W : World} {o : Obj} (h : Below n0 w W) (hD : n0 ≤ D) : Below n0 w (W.putObj D o) :=
  ⟨h.os, h.tape, h.output, by rw [World.putObj_size]; exact h.size, fun b hb => (World.putObj_heap_other (by omega)).trans (h.block b hb)⟩
/-- the state at the start -/
def ag44 (m1 m2 : Nat) : List Value := .map (some m1) :: .map (some m2) :: .slice none 0 0 :: List.replicate 41 (.slice none 0 0)
def p00 (m1 m2 : Nat) : SP := ⟨m1, m2, .slice none 0 0, List.replicate 41 (.slice none 0 0), [], 0, 0⟩
theorem si_start (w : World) : SI (w.heap.size + 1 + 1) (((w.alloc (.map #[] 0)).alloc (.map #[] 0)).alloc (.cells (rowOf (ag44 w.heap.size (w.heap.size + 1))) 52)) st00 (p00 w.heap.size (w.heap.size + 1)) := by
  have h1 : MpS (w.alloc (.map #[] 0)) w.heap.size [] 0 := MpS.new w
  have h2 : MpS ((w.alloc (.map #[] 0)).alloc (.map #[] 0)) (w.heap.size + 1) [] 0 := by
    have := MpS.new (w.alloc (.map #[] 0))
    simp only [World.size_alloc] at this
    exact this
  have hrep : ∀ (i : Nat) v, (List.replicate 41 (Value.slice none 0 0))[i]? = some v → v = .slice none 0 0 := fun i v h => List.eq_of_mem_replicate (List.mem_of_getElem? h)
  refine ⟨?_, rfl, rfl, by simp [p00], ?_, ?_, ⟨rfl, fun i q e h => by simp [p00] at h⟩, ⟨[], QA.nil _ _ _ _ _, trivial⟩, ?_, ?_, ?_⟩
  · have := Arr.new ((w.alloc (.map #[] 0)).alloc (.map #[] 0)) 52 (ag44 w.heap.size (w.heap.size + 1))
    simp only [World.size_alloc] at this
    exact this
  · refine h1.keep ?_
    exact (Below.heap_alloc _ _ _ (by simp only [World.size_alloc]; omega)).trans (Below.heap_alloc _ _ _ (by simp only [World.size_alloc]; omega))
  · refine h2.keep ?_
    exact Below.heap_alloc _ _ _ (by simp only [World.size_alloc]; show w.heap.size + 1 < _; omega)
  · intro i v gs hv hgs
    have e1 := hrep i v hv
    have e2 : gs = [] := List.eq_of_mem_replicate (List.mem_of_getElem? hgs)
    subst e1; subst e2
    exact ⟨[], QA.nil _ _ _ _ _, trivial⟩
  · intro i v b hv hb
    rw [hrep i v hv] at hb; cases hb
  · intro i j v u b hv hu hij hb
    rw [hrep i v hv] at hb; cases hb
theorem ow_start {w : World} {b : Nat} (h : Ow (w.heap.size + 1 + 1) (p00 w.heap.size (w.heap.size + 1)) b) : w.heap.size ≤ b := by
  rcases h with h | h | h | h | ⟨v, hv, h⟩
  · omega
  · rw [h]; exact Nat.le_refl _
  · rw [h]; show w.heap.size ≤ w.heap.size + 1; omega
  · cases h
  · rw [List.eq_of_mem_replicate hv] at h; cases h
theorem gres_gv {w : World} {g : Gd} {e : Ending} {w' : World} (h : GRes w.heap.size w (0, g.1, g.2) e w') : ∃ q : GV, e = .returned (.tuple #[.agg #[sv q.1, sv q.2], .int .i64 0]) ∧ GvI w' q g ∧ Below w.heap.size w w' := by
  obtain ⟨hb, v, he, hv⟩ := h
  rw [if_pos rfl] at hv
  obtain ⟨gx, go, rfl, _, _, _, hx, ho⟩ := hv
  exact ⟨((some ⟨gx, 0, none⟩, g.1.length, g.1.length), (some ⟨go, 0, none⟩, g.2.length, g.2.length)), he, ⟨Ints.of_arr hx, Ints.of_arr ho⟩, hb⟩
/-- what the loop of explore keeps -/
structure LpI (n0 b4 b6 b7 b8 b9 gS : Nat) (most : Int) (w : World) (s : St) (p : SP) (Ds : List Nat) (W : World) : Prop where
  si : SI gS W s p
  st : StP s
  ow : ∀ b, Ow gS p b → n0 ≤ b
  ex : ExB n0 b4 b6 b7 b8 b9 gS most w W
  mks : MkD n0 Ds W
theorem LpI.below {n0 b4 b6 b7 b8 b9 gS : Nat} {most : Int} {w W W' : World} {s : St} {p : SP} {Ds : List Nat} (h : LpI n0 b4 b6 b7 b8 b9 gS most w s p Ds W) (hb : Below W.heap.size W W') : LpI n0 b4 b6 b7 b8 b9 gS most w s p Ds W' :=
  ⟨h.si.below hb, h.st, h.ow, h.ex.below hb, h.mks.keep fun D hD => hb.block D (h.mks.lt D hD)⟩
/-- the three stores leave the state and the marks as they were -/
theorem rs3_keeps {n0 b4 b6 b7 b8 b9 gS : Nat} {most : Int} {w W : World} {s : St} {p : SP} {Ds : List Nat} (h : LpI n0 b4 b6 b7 b8 b9 gS most w s p Ds W) (v6 v7 : Value) :
    SI gS (((W.setCell ⟨b6, 0, none⟩ v6).setCell ⟨b7, 0, none⟩ v7).setCell ⟨b8, 0, none⟩ (.int .i64 0)) s p := by
  obtain ⟨u6, h6⟩ := h.ex.x6
  obtain ⟨u7, h7⟩ := h.ex.x7
  have h8 := h.ex.x8
  have n86 : b8 ≠ b6 := arr_ne h8 h6 (by decide)
  have n87 : b8 ≠ b7 := arr_ne h8 h7 (by decide)
  have e8 : (((W.setCell ⟨b6, 0, none⟩ v6).setCell ⟨b7, 0, none⟩ v7).setCell ⟨b8, 0, none⟩ (.int .i64 0)).heap[b8]? = W.heap[b8]? := by
    have a := (((h8.far (p := ⟨b6, 0, none⟩) n86 v6).far (p := ⟨b7, 0, none⟩) n87 v7).set 0 (.int .i64 0))
    have a1 : _ = some (Obj.cells _ _ _) := a
    have a2 : W.heap[b8]? = some (Obj.cells _ _ _) := h8
    rw [a1, a2]; rfl
  have hff : ∀ b, b ≠ b6 → b ≠ b7 → (((W.setCell ⟨b6, 0, none⟩ v6).setCell ⟨b7, 0, none⟩ v7).setCell ⟨b8, 0, none⟩ (.int .i64 0)).heap[b]? = W.heap[b]? := fun b h1 h2 => by
    by_cases e : b = b8
    · rw [e]; exact e8
    · exact (Below.heap_setCell _ ⟨b8, 0, none⟩ _ b (fun k => e k)).trans ((Below.heap_setCell _ ⟨b7, 0, none⟩ _ b (fun k => h2 k)).trans (Below.heap_setCell _ ⟨b6, 0, none⟩ _ b (fun k => h1 k)))
  refine h.si.hold (fun b hb => hff b ?_ ?_) (fun b i k n hc => hff b ?_ ?_)
  · rintro rfl; exact h.si.other h6 (by decide) (by decide) hb
  · rintro rfl; exact h.si.other h7 (by decide) (by decide) hb
  · rintro rfl
    rw [h6.cell i] at hc
    cases i with
    | zero => cases hc
    | succ i => simp at hc
  · rintro rfl
    rw [h7.cell i] at hc
    cases i with
    | zero => cases hc
    | succ i => simp at hc
theorem rs3_mks {n0 b6 b7 b8 : Nat} {t6 t7 t8 : TypeId} {u6 u7 u8 : Value} {W : World} {Ds : List Nat} (h : MkD n0 Ds W) (h6 : Arr W b6 t6 [u6]) (h7 : Arr W b7 t7 [u7]) (h8 : Arr W b8 t8 [u8]) (v6 v7 v8 : Value) : MkD n0 Ds (((W.setCell ⟨b6, 0, none⟩ v6).setCell ⟨b7, 0, none⟩ v7).setCell ⟨b8, 0, none⟩ v8) := by
  have ne : ∀ {b D : Nat} {t : TypeId} {u : Value}, Arr W b t [u] → W.heap[D]? = some (.deferred (some [])) → D ≠ b := fun ha hd e => by
    subst e
    have ha' : W.heap[_]? = _ := ha
    rw [hd] at ha'; cases ha'
  refine h.keep fun D hD => ?_
  have hd := (h.2 D hD).2
  exact (Below.heap_setCell _ ⟨b8, 0, none⟩ _ D (fun k => ne h8 hd k)).trans ((Below.heap_setCell _ ⟨b7, 0, none⟩ _ D (fun k => ne h7 hd k)).trans (Below.heap_setCell _ ⟨b6, 0, none⟩ _ D (fun k => ne h6 hd k)))
theorem act_gen {P : Program} {code : Code} {Q : Exit → Act → World → Prop} {w : World} {a : Act} (F : (Nat → Value) → Act) (h : ∀ U, code.wp P Q (F U) w) (e : F (fun i => a.tmps[i]?.getD undef) = a) : code.wp P Q a w := e ▸ h _
theorem MkD.putL {n0 l : Nat} {Ds : List Nat} {W : World} {o : Obj} (h : MkD n0 Ds W) (hl : Lp l W) : MkD n0 Ds (W.putObj l o) := h.keep fun D hD => World.putObj_heap_other (fun e => by
  obtain ⟨r, hl⟩ := hl
  have := (h.2 D hD).2
  rw [e, hl] at this
  cases this)
theorem LpI.putL {n0 b4 b6 b7 b8 b9 gS l : Nat} {most : Int} {w W : World} {s : St} {p : SP} {Ds : List Nat} {o : Obj} (h : LpI n0 b4 b6 b7 b8 b9 gS most w s p Ds W) (hl : Lp l W) (hn : n0 ≤ l) : LpI n0 b4 b6 b7 b8 b9 gS most w s p Ds (W.putObj l o) :=
  ⟨h.si.putN hl.nc, h.st, h.ow, h.ex.putN hl.nc hn, h.mks.putL hl⟩
/-- what a round has taken up -/
def AxE (F : Value → Value → Nat → Act) (v ug : Value) (a' : Act) (W1 : World) : Prop := ∃ (q : GV) (b17 : Nat), ug = .agg #[sv q.1, sv q.2] ∧ a' = F v ug b17 ∧ Arr W1 b17 24 [sv q.1, sv q.2]
theorem GdI.gq {W : World} {q : GV} {g : Gd} (h : GdI W (.agg #[sv q.1, sv q.2]) g) : GvI W q g := by
  obtain ⟨A, n, c, B, m, d, e, a, b⟩ := h
  injection e with e
  injection e with e
  injection e with e1 e
  injection e with e2 _
  exact ⟨by rw [e1]; exact a, by rw [e2]; exact b⟩
theorem two6_kf {gS D : Nat} {W W' : World} {s : St} {p : SP} {r : Loop} (h : SI gS W s p) (k : Kf gS p W W') (t : Two6 D r W) : Two6 D r W' := by
  refine ⟨(k.keep D (Array.getElem?_eq_some_iff.1 t.mark).1 fun hb => ?_).trans t.mark, (k.keep (D + 1) (Array.getElem?_eq_some_iff.1 t.lrec).1 fun hb => ?_).trans t.lrec⟩
  · have hd := t.mark
    rcases h.typ hb with ⟨es, c, e⟩ | ⟨cs, t, fr, e, _⟩ <;> (rw [hd] at e; cases e)
  · have hd := t.lrec
    rcases h.typ hb with ⟨es, c, e⟩ | ⟨cs, t, fr, e, _⟩ <;> (rw [hd] at e; cases e)
theorem two6_set {D b : Nat} {W : World} {t : TypeId} {u v : Value} {r : Loop} (h : Two6 D r W) (ha : Arr W b t [u]) : Two6 D r (W.setCell ⟨b, 0, none⟩ v) := by
  have ha' : W.heap[b]? = _ := ha
  refine ⟨(Below.heap_setCell W ⟨b, 0, none⟩ v D fun e => ?_).trans h.mark, (Below.heap_setCell W ⟨b, 0, none⟩ v (D + 1) fun e => ?_).trans h.lrec⟩
  · have := h.mark
    rw [show D = b from e, ha'] at this; cases this
  · have := h.lrec
    rw [show D + 1 = b from e, ha'] at this; cases this
/-- what the range over the neighbors keeps, k of them having been added -/
def RgI (n0 b4 b6 b7 b8 b9 gS b15 gB : Nat) (most : Int) (w : World) (Ds : List Nat) (h : Gd) (s0 : St) (cs : List Value) (k : Nat) (W : World) : Prop :=
  ∃ s p, addAll most (some (lstM h)) s0 ((nbrs h).take k) = some s ∧ LpI n0 b4 b6 b7 b8 b9 gS most w s p Ds W ∧ Arr W b15 9 [.string ⟨(fmG (lstM h)).toArray⟩] ∧ Arr W gB 24 cs ∧ ¬ Ow gS p gB
/-- what it ends with where there is no room -/
def RgX (n0 b6 b7 b8 : Nat) (most : Int) (w : World) (Ds : List Nat) (h : Gd) (s0 : St) (W : World) : Prop :=
  addAll most (some (lstM h)) s0 (nbrs h) = none ∧ Rs3 b6 b7 b8 (.pointer none) (.string ⟨#[]⟩) (.int .i64 13) W ∧ Below n0 w W ∧ n0 ≤ W.heap.size ∧ MkD n0 Ds W
section
variable {n0 b4 b6 b7 b8 b9 gS b15 gB k l : Nat} {most : Int} {w W W' : World} {Ds : List Nat} {h : Gd} {s0 : St} {cs : List Value} {o : Obj}
theorem RgI.below (hh : RgI n0 b4 b6 b7 b8 b9 gS b15 gB most w Ds h s0 cs k W) (hb : Below W.heap.size W W') : RgI n0 b4 b6 b7 b8 b9 gS b15 gB most w Ds h s0 cs k W' := by
  obtain ⟨s, p, h1, h2, h3, h4, h5⟩ := hh
  exact ⟨s, p, h1, h2.below hb, h3.below hb h3.lt, h4.below hb h4.lt, h5⟩
theorem RgI.put (hh : RgI n0 b4 b6 b7 b8 b9 gS b15 gB most w Ds h s0 cs k W) (hl : Lp l W) (hn : n0 ≤ l) : RgI n0 b4 b6 b7 b8 b9 gS b15 gB most w Ds h s0 cs k (W.putObj l o) := by
  obtain ⟨s, p, h1, h2, h3, h4, h5⟩ := hh
  exact ⟨s, p, h1, h2.putL hl hn, hl.nc.arr h3, hl.nc.arr h4, h5⟩
theorem RgX.below (hh : RgX n0 b6 b7 b8 most w Ds h s0 W) (hb : Below W.heap.size W W') : RgX n0 b6 b7 b8 most w Ds h s0 W' := by
  obtain ⟨h1, ⟨h2, h3, h4⟩, h5, h6, h7⟩ := hh
  exact ⟨h1, ⟨h2.below hb h2.lt, h3.below hb h3.lt, h4.below hb h4.lt⟩, h5.trans (hb.mono h6), Nat.le_trans h6 hb.size, h7.keep fun D hD => hb.block D (h7.lt D hD)⟩
theorem RgX.put (hh : RgX n0 b6 b7 b8 most w Ds h s0 W) (hl : Lp l W) (hn : n0 ≤ l) : RgX n0 b6 b7 b8 most w Ds h s0 (W.putObj l o) := by
  obtain ⟨h1, ⟨h2, h3, h4⟩, h5, h6, h7⟩ := hh
  exact ⟨h1, ⟨hl.nc.arr h2, hl.nc.arr h3, hl.nc.arr h4⟩, below_put h5 hn, by rw [World.putObj_size]; exact h6, h7.putL hl⟩
end
theorem exl (a : Act) (F : (Nat → Value) → Act) (h : F (fun i => a.tmps[i]?.getD undef) = a) : ∃ u, a = F u := ⟨_, h.symm⟩
/-- how explore ends -/
theorem ex_end {tmps : Array Value} {R : Ending → World → Prop} {v6 v7 v8 : Value} {n0 b6 b7 b8 : Nat} {w : World} (J : World → Prop) (hJ : ∀ W D o, Nc D W → J W → J (W.putObj D o))
    (h6 : tmps[6]?.getD undef = .pointer (some ⟨b6, 0, none⟩)) (h7 : tmps[7]?.getD undef = .pointer (some ⟨b7, 0, none⟩)) (h8 : tmps[8]?.getD undef = .pointer (some ⟨b8, 0, none⟩))
    (hP : ∀ W, J W → Below n0 w W → R (.returned (.tuple #[v6, v7, v8])) W) (Ds : List Nat) (W : World) (hm : MkD n0 Ds W) (hr : Rs3 b6 b7 b8 v6 v7 v8 W) (hb : Below n0 w W) (hj : J W) :
    LeavesInM Fence.wide 9 Tryz.prog Tryz.f15 tmps R (Ds.map mrkD) .returning W := by
  refine leaves_mrkD (N := n0) (fun W => Rs3 b6 b7 b8 v6 v7 v8 W ∧ Below n0 w W ∧ J W) ?_ ?_ Ds W hm ⟨hr, hb, hj⟩
  · rintro W D hD ⟨a, b, c⟩ hK
    have hn := Nc.of_def hK
    exact ⟨⟨hn.arr a.1, hn.arr a.2.1, hn.arr a.2.2⟩, below_put b hD, hJ W D _ hn c⟩
  · rintro W ⟨a, b, c⟩
    exact ⟨_, rs3_run a h6 h7 h8, hP W c b⟩
/-- what explore hands back -/
def ExP (most : Int) (short : Bool) (g : Gd) (w : World) (e : Ending) (w' : World) : Prop :=
  Below w.heap.size w w' ∧
  ((¬ VdG g ∧ e = .returned (.tuple #[.pointer none, .string ⟨#[]⟩, .int .i64 1])) ∨
   (VdG g ∧ 1 < comp g.1 g.2 ∧ e = .returned (.tuple #[.pointer none, .string ⟨#[]⟩, .int .i64 16])) ∨
   (VdG g ∧ comp g.1 g.2 ≤ 1 ∧ ∃ r, Exq most short g r ∧
     ((r = .fuel ∧ e = .returned (.tuple #[.pointer none, .string ⟨#[]⟩, .int .i64 13])) ∨
      ∃ K W gS p, SI gS w' (K, W) p ∧ StP (K, W) ∧ (∀ b, Ow gS p b → w.heap.size ≤ b) ∧
        ((r = .done K ∧ e = .returned (.tuple #[.pointer (some ⟨gS, 0, none⟩), .string ⟨#[]⟩, .int .i64 0])) ∨
         ∃ c, r = .found K c ∧ e = .returned (.tuple #[.pointer (some ⟨gS, 0, none⟩), .string ⟨(fmG c).toArray⟩, .int .i64 0])))))
set_option maxHeartbeats 4000000 in
set_option maxRecDepth 100000 in
theorem explore_anyW (vx vo : Value) (X O : List Int) (most : Int) (short : Bool) (w : World) (hX : Ints w vx X) (hO : Ints w vo O) (lX : X.length ≤ 1000) (lO : O.length ≤ 1000) (hm : most ≤ 90000000 ∨ X.length ≤ 5) (ht : Tb w) :
    Calls Tryz.prog 15 #[.agg #[vx, vo], .int .i64 most, .bool short] w (ExP most short (X, O) w) := by
  have HX := Lib.hid (fun W (hb : Below w.heap.size w W) => hX.below hb)
  have HO := Lib.hid (fun W (hb : Below w.heap.size w W) => hO.below hb)
  have HT := Lib.hid (fun W (hb : Below w.heap.size w W) => ht.below hb)
  have HV := Lib.hid (fun W (hb : Below w.heap.size w W) => valid_any vx vo X O W (hX.below hb) (hO.below hb) lX lO)
  have HC := Lib.hid (fun W (hv : Vd X O) (hb : Below w.heap.size w W) => components_any vx vo X O W (hX.below hb) (hO.below hb) hv)
  have HSH := Lib.hid (fun W (hb : Below w.heap.size w W) => shift_any vx vo X O 0 0 W (hX.below hb) (hO.below hb) lX lO)
  have HM := Lib.hid hm
  obtain ⟨A, c, rfl, hc, -⟩ := hX
  obtain ⟨A2, c2, rfl, hc2, -⟩ := hO
  obtain ⟨nX, hnX⟩ : ∃ n, n = X.length := ⟨_, rfl⟩
  obtain ⟨nO, hnO⟩ : ∃ n, n = O.length := ⟨_, rfl⟩
  rw [← hnX] at hc lX HX HV HC HSH ⊢
  rw [← hnO] at hc2 lO HO HV HC HSH ⊢
  have HNX := Lib.hid hnX
  have HNO := Lib.hid hnO
  clear ht hm hc hc2 lX lO hnX hnO
  refine (callsIn_wide (n := 9)).1 ?_
  refine callsIn_of_wp_marks Tryz.func15 rfl trivial ?_ rfl
  simp only [Tryz.ntmps15, List.size_toArray, List.length_cons, List.length_nil, Nat.reduceAdd, Nat.reduceSub, Array.replicate_succ, Array.replicate_zero, List.push_toArray, List.append_toArray, List.nil_append, List.cons_append]
  refine wpIn_wide.2 ?_
  go_upto_region 1 with fail
  obtain ⟨n0, hn0⟩ : ∃ n, n = w.heap.size := ⟨_, rfl⟩
  rw [← hn0] at HX HO HT HV HC HSH
  have hW : ∀ W, W = (((((w.alloc (.cells #[.slice A nX c, .slice A2 nO c2] 24)).alloc (.cells #[.int .i64 most] 3)).alloc (.cells #[.pointer none] 44)).alloc (.cells #[.string ⟨#[]⟩] 9)).alloc (.cells #[.int .i64 0] 28)) →
      Ex0 n0 w.heap.size (w.heap.size + 1) (w.heap.size + 1 + 1) (w.heap.size + 1 + 1 + 1) (w.heap.size + 1 + 1 + 1 + 1) [.slice A nX c, .slice A2 nO c2] most w W := by
    rintro W rfl
    refine ⟨by rw [hn0]; exact ((((((Below.refl _ _).alloc (Nat.le_refl _) _).alloc (by simp only [World.size_alloc]; omega) _).alloc (by simp only [World.size_alloc]; omega) _).alloc (by simp only [World.size_alloc]; omega) _).alloc (by simp only [World.size_alloc]; omega) _), by rw [hn0]; simp only [World.size_alloc]; omega, ?_, ?_, ⟨none, ?_⟩, ⟨⟨#[]⟩, ?_⟩, ?_⟩
    · exact ((((Arr.new w _ [_, _]).alloc _).alloc _).alloc _).alloc _
    · have := Arr.new (w.alloc (.cells #[.slice A nX c, .slice A2 nO c2] 24)) 3 [.int .i64 most]
      simp at this
      exact ((this.alloc _).alloc _).alloc _
    · have := Arr.new ((w.alloc (.cells #[.slice A nX c, .slice A2 nO c2] 24)).alloc (.cells #[.int .i64 most] 3)) 44 [.pointer none]
      simp at this
      exact (this.alloc _).alloc _
    · have := Arr.new (((w.alloc (.cells #[.slice A nX c, .slice A2 nO c2] 24)).alloc (.cells #[.int .i64 most] 3)).alloc (.cells #[.pointer none] 44)) 9 [.string ⟨#[]⟩]
      simp at this
      exact this.alloc _
    · have := Arr.new ((((w.alloc (.cells #[.slice A nX c, .slice A2 nO c2] 24)).alloc (.cells #[.int .i64 most] 3)).alloc (.cells #[.pointer none] 44)).alloc (.cells #[.string ⟨#[]⟩] 9)) 28 [.int .i64 0]
      simp at this
      exact this
  generalize (((((w.alloc (.cells #[.slice A nX c, .slice A2 nO c2] 24)).alloc (.cells #[.int .i64 most] 3)).alloc (.cells #[.pointer none] 44)).alloc (.cells #[.string ⟨#[]⟩] 9)).alloc (.cells #[.int .i64 0] 28)) = w1 at hW ⊢
  have E1 := Lib.hid (hW w1 rfl)
  clear hW
  obtain ⟨b3, hb3⟩ : ∃ n, n = w.heap.size := ⟨_, rfl⟩
  rw [← hb3] at E1 ⊢
  obtain ⟨b4, hb4⟩ : ∃ n, n = b3 + 1 := ⟨_, rfl⟩
  rw [← hb4] at E1 ⊢
  obtain ⟨b6, hb6⟩ : ∃ n, n = b4 + 1 := ⟨_, rfl⟩
  rw [← hb6] at E1 ⊢
  have L6 := Lib.hid (show n0 ≤ b6 by omega)
  obtain ⟨b7, hb7⟩ : ∃ n, n = b6 + 1 := ⟨_, rfl⟩
  rw [← hb7] at E1 ⊢
  have L7 := Lib.hid (show n0 ≤ b7 by omega)
  obtain ⟨b8, hb8⟩ : ∃ n, n = b7 + 1 := ⟨_, rfl⟩
  rw [← hb8] at E1 ⊢
  have L8 := Lib.hid (show n0 ≤ b8 by omega)
  have L4 := Lib.hid (show n0 ≤ b4 by omega)
  clear hb3 hb4 hb6 hb7 hb8
  have HN0 := Lib.hid hn0
  clear hn0
  have y0 := E1.out.x3.cell 0
  have y1 := E1.out.x3.cell 1
  by_cases hv : Vd X O
  · have zv : validB X O = true := (validB_iff X O).2 hv
    have HVD := Lib.hid hv
    have HV1 := Lib.hid (HV.out w1 E1.out.bel)
    rw [zv] at HV1
    clear hv zv
    go_upto_region 3 with (go_at_call 28; refine HV1.out.mono ?_; rintro e2 w2 ⟨rfl, hb2⟩)
    have E2 := Lib.hid (E1.out.below hb2)
    clear y0 y1 hb2 HV1 E1
    have y0 := E2.out.x3.cell 0
    have y1 := E2.out.x3.cell 1
    have HC2 := Lib.hid (HC.out w2 HVD.out E2.out.bel)
    obtain ⟨cm, hcm⟩ : ∃ k, k = comp X O := ⟨_, rfl⟩
    rw [← hcm] at HC2
    have HCM := Lib.hid hcm
    clear hcm
    by_cases hc1 : 1 < cm
    · have z1 : (1 : Int) < (cm : Int) := by omega
      go_upto_region 4 with (go_at_call 33; refine HC2.out.mono ?_; rintro e3 w3 ⟨rfl, hb3⟩)
      have E3 := Lib.hid (E2.out.below hb3)
      clear y0 y1 hb3 HC2 E2
      obtain ⟨v6, h6⟩ := E3.out.x6
      obtain ⟨v7, h7⟩ := E3.out.x7
      have h8 := E3.out.x8
      have y6 := h6.cell 0
      have y7 := h7.cell 0
      have y8 := h8.cell 0
      have f6 := h6.frozen 0
      have f7 := h7.frozen 0
      have f8 := h8.frozen 0
      have n67 : ¬ b6 = b7 := arr_ne h6 h7 (by decide)
      have n68 : ¬ b6 = b8 := arr_ne h6 h8 (by decide)
      have n78 : ¬ b7 = b8 := arr_ne h7 h8 (by decide)
      have n76 : ¬ b7 = b6 := fun e => n67 e.symm
      have n86 : ¬ b8 = b6 := fun e => n68 e.symm
      have n87 : ¬ b8 = b7 := fun e => n78 e.symm
      have HR := Lib.hid (rs3_set h6 h7 h8 (.pointer none) (.string ⟨#[]⟩) (.int .i64 16))
      have HRB := Lib.hid (rs3_below E3.out.bel E3.out.le (b6 := b6) (b7 := b7) (b8 := b8) L6.out L7.out L8.out (.pointer none) (.string ⟨#[]⟩) (.int .i64 16))
      clear h6 h7 h8
      go_wp2_with fail
      clear y6 y7 y8 f6 f7 f8 n67 n68 n78 n76 n86 n87
      generalize (((w3.setCell ⟨b6, 0, none⟩ (.pointer none)).setCell ⟨b7, 0, none⟩ (.string ⟨#[]⟩)).setCell ⟨b8, 0, none⟩ (.int .i64 16)) = w9 at HR HRB ⊢
      refine ex_end (n0 := n0) (w := w) (fun _ => True) (fun _ _ _ _ h => h) rfl rfl rfl (fun W _ hb => ⟨by rw [← HN0.out]; exact hb, .inr (.inl ⟨HVD.out, by rw [← HCM.out]; exact hc1, rfl⟩)⟩) [] w9 ⟨by simp, by simp⟩ HR.out HRB.out trivial
    · have z1 : ¬ (1 : Int) < (cm : Int) := by omega
      go_upto_region 5 with (go_at_call 33; refine HC2.out.mono ?_; rintro e3 w3 ⟨rfl, hb3⟩)
      have E3 := Lib.hid (E2.out.below hb3)
      clear y0 y1 hb3 HC2 E2
      have hmm := run_mkMap
      go_upto_region 6 with fail
      clear hmm
      have HSI := Lib.hid (si_start w3)
      have HOW := Lib.hid (fun b (h : Ow (w3.heap.size + 1 + 1) (p00 w3.heap.size (w3.heap.size + 1)) b) => ow_start h)
      have hbx := (((Below.refl w3.heap.size w3).alloc (Nat.le_refl _) (.map #[] 0)).alloc (by simp only [World.size_alloc]; omega) (.map #[] 0)).alloc (by simp only [World.size_alloc]; omega) (.cells (rowOf (ag44 w3.heap.size (w3.heap.size + 1))) 52)
      have hsz : (((w3.alloc (.map #[] 0)).alloc (.map #[] 0)).alloc (.cells (rowOf (ag44 w3.heap.size (w3.heap.size + 1))) 52)).heap.size = w3.heap.size + 1 + 1 + 1 := by simp only [World.size_alloc]
      obtain ⟨w4, hw4⟩ : ∃ W, W = ((w3.alloc (.map #[] 0)).alloc (.map #[] 0)).alloc (.cells (rowOf (ag44 w3.heap.size (w3.heap.size + 1))) 52) := ⟨_, rfl⟩
      rw [← hw4] at HSI hbx hsz
      change Code.wp _ _ _ _ ((((w3.alloc (.map #[] 0)).alloc (.map #[] 0)).alloc (.cells (rowOf (ag44 w3.heap.size (w3.heap.size + 1))) 52)).alloc (.cells #[.pointer (some ⟨w3.heap.size + 1 + 1, 0, none⟩)] 44))
      rw [← hw4, ← hsz]
      clear hw4
      have E4 := Lib.hid (E3.out.below hbx)
      have HS5 := Lib.hid (HSI.out.below ((Below.refl w4.heap.size w4).alloc (Nat.le_refl _) (.cells #[.pointer (some ⟨w3.heap.size + 1 + 1, 0, none⟩)] 44)))
      have E5 := Lib.hid (E4.out.below ((Below.refl w4.heap.size w4).alloc (Nat.le_refl _) (.cells #[.pointer (some ⟨w3.heap.size + 1 + 1, 0, none⟩)] 44)))
      have X9 := Lib.hid (show Arr (w4.alloc (.cells #[.pointer (some ⟨w3.heap.size + 1 + 1, 0, none⟩)] 44)) w4.heap.size 44 [.pointer (some ⟨w3.heap.size + 1 + 1, 0, none⟩)] from Arr.new w4 _ [_])
      have HNW := Lib.hid (show n0 ≤ w3.heap.size from E3.out.le)
      generalize w4.alloc (.cells #[.pointer (some ⟨w3.heap.size + 1 + 1, 0, none⟩)] 44) = w5 at HS5 E5 X9 ⊢
      obtain ⟨b9, hb9⟩ : ∃ n, n = w4.heap.size := ⟨_, rfl⟩
      rw [← hb9] at X9 ⊢
      have L9 := Lib.hid (show n0 ≤ b9 by rw [hb9]; exact E4.out.le)
      have HN96 := Lib.hid (show b9 ≠ b6 by obtain ⟨v6, h6⟩ := E4.out.x6; have := h6.lt; omega)
      clear hb9 hsz hbx E4 E3 HSI
      obtain ⟨p0, hp0⟩ : ∃ p, p = p00 w3.heap.size (w3.heap.size + 1) := ⟨_, rfl⟩
      rw [← hp0] at HS5 HOW
      obtain ⟨gS, hgS⟩ : ∃ n, n = w3.heap.size + 1 + 1 := ⟨_, rfl⟩
      rw [← hgS] at HS5 X9 HOW ⊢
      have HOW0 := Lib.hid (fun b (h : Ow gS p0 b) => show n0 ≤ b from Nat.le_trans HNW.out (HOW.out b h))
      clear hp0 hgS HOW
      have y0 := E5.out.x3.cell 0
      have y1 := E5.out.x3.cell 1
      have HSH5 := Lib.hid (HSH.out w5 E5.out.bel)
      rw [shiftM_zero HVD.out] at HSH5
      go_upto_region 7 with (go_at_call 34; refine HSH5.out.mono ?_; rintro e6 w6 h; obtain ⟨q, rfl, hq, hb6⟩ := gres_gv (g := (X, O)) h; clear h; simp only [sv])
      have hal := (Below.refl w6.heap.size w6).alloc (Nat.le_refl _) (.cells #[.slice q.1.1 q.1.2.1 q.1.2.2, .slice q.2.1 q.2.2.1 q.2.2.2] 24)
      have hb7 := hb6.trans (hal.mono hb6.size)
      have HS7 := Lib.hid (HS5.out.below hb7)
      have E7 := Lib.hid (show ExB n0 b4 b6 b7 b8 b9 gS most w (w6.alloc (.cells #[.slice q.1.1 q.1.2.1 q.1.2.2, .slice q.2.1 q.2.2.1 q.2.2.2] 24)) from
        have h := E5.out.below hb7
        ⟨h.bel, h.le, h.x4, h.x6, h.x7, h.x8, X9.out.below hb7 X9.out.lt, HN96.out⟩)
      have X10 := Lib.hid (show Arr (w6.alloc (.cells #[.slice q.1.1 q.1.2.1 q.1.2.2, .slice q.2.1 q.2.2.1 q.2.2.2] 24)) w6.heap.size 24 [.slice q.1.1 q.1.2.1 q.1.2.2, .slice q.2.1 q.2.2.1 q.2.2.2] from Arr.new w6 _ [_, _])
      have HQ7 := Lib.hid (show GvI (w6.alloc (.cells #[.slice q.1.1 q.1.2.1 q.1.2.2, .slice q.2.1 q.2.2.1 q.2.2.2] 24)) q (X, O) from ⟨hq.1.below hal, hq.2.below hal⟩)
      generalize w6.alloc (.cells #[.slice q.1.1 q.1.2.1 q.1.2.2, .slice q.2.1 q.2.2.1 q.2.2.2] 24) = w7 at HS7 E7 X10 HQ7 ⊢
      obtain ⟨b10, hb10⟩ : ∃ n, n = w6.heap.size := ⟨_, rfl⟩
      rw [← hb10] at X10 ⊢
      clear hb10 hal hb7 hb6 hq E5 HS5 X9 y0 y1 HSH5
      have HADD := Lib.hid (add_any n0 gS p0 st00 most q (X, O) none (.slice none 0 0) [] w7 HS7.out StP.start HOW0.out E7.out.le HQ7.out HVD.out ⟨none, 0, rfl, fun k hk => absurd hk (by simp)⟩ ((KL.start X.length).room StP.start HM.out) (HT.out _ E7.out.bel))
      simp only [sv] at HADD
      have y0 := X10.out.cell 0
      have y1 := X10.out.cell 1
      have y4 := E7.out.x4.cell 0
      have y9 := E7.out.x9.cell 0
      cases ha : addM most st00 (X, O) none [] with
      | none =>
        have HAN := Lib.hid ha
        have HADD2 := Lib.hid (HADD.out.mono (fun e w' (h : AddP n0 gS p0 st00 most (X, O) none [] w7 e w') => show e = .returned (.bool false) ∧ Below w7.heap.size w7 w' from by
          rcases h with ⟨_, h1, h2⟩ | ⟨s', p', h1, _⟩
          · exact ⟨h1, h2⟩
          · rw [ha] at h1; cases h1))
        clear HADD ha
        go_upto_region 8 with (go_at_call 35; refine HADD2.out.mono ?_; rintro e8 w8 ⟨rfl, hb8⟩)
        have E8 := Lib.hid (E7.out.below hb8)
        clear y0 y1 y4 y9 hb8 HADD2 E7
        obtain ⟨v6, h6⟩ := E8.out.x6
        obtain ⟨v7, h7⟩ := E8.out.x7
        have h8 := E8.out.x8
        have y6 := h6.cell 0
        have y7 := h7.cell 0
        have y8 := h8.cell 0
        have f6 := h6.frozen 0
        have f7 := h7.frozen 0
        have f8 := h8.frozen 0
        have n67 : ¬ b6 = b7 := arr_ne h6 h7 (by decide)
        have n68 : ¬ b6 = b8 := arr_ne h6 h8 (by decide)
        have n78 : ¬ b7 = b8 := arr_ne h7 h8 (by decide)
        have n76 : ¬ b7 = b6 := fun e => n67 e.symm
        have n86 : ¬ b8 = b6 := fun e => n68 e.symm
        have n87 : ¬ b8 = b7 := fun e => n78 e.symm
        have HR := Lib.hid (rs3_set h6 h7 h8 (.pointer none) (.string ⟨#[]⟩) (.int .i64 13))
        have HRB := Lib.hid (rs3_below E8.out.bel E8.out.le (b6 := b6) (b7 := b7) (b8 := b8) L6.out L7.out L8.out (.pointer none) (.string ⟨#[]⟩) (.int .i64 13))
        clear h6 h7 h8
        go_wp2_with fail
        clear y6 y7 y8 f6 f7 f8 n67 n68 n78 n76 n86 n87
        generalize (((w8.setCell ⟨b6, 0, none⟩ (.pointer none)).setCell ⟨b7, 0, none⟩ (.string ⟨#[]⟩)).setCell ⟨b8, 0, none⟩ (.int .i64 13)) = w9 at HR HRB ⊢
        refine ex_end (n0 := n0) (w := w) (fun _ => True) (fun _ _ _ _ h => h) rfl rfl rfl (fun W _ hb => ⟨by rw [← HN0.out]; exact hb, .inr (.inr ⟨HVD.out, by have := HCM.out; simp only; omega, .fuel, .none HAN.out, .inl ⟨rfl, rfl⟩⟩)⟩) [] w9 ⟨by simp, by simp⟩ HR.out HRB.out trivial
      | some s1 =>
        have HAS := Lib.hid ha
        have HADD2 := Lib.hid (HADD.out.mono (fun e w' (h : AddP n0 gS p0 st00 most (X, O) none [] w7 e w') => show e = .returned (.bool true) ∧ ∃ p', SI gS w' s1 p' ∧ Below n0 w7 w' ∧ Kf gS p0 w7 w' ∧ ∀ b, Ow gS p' b → Ow gS p0 b ∨ w7.heap.size ≤ b from by
          rcases h with ⟨h1, _⟩ | ⟨s', p', h1, h2, h3⟩
          · rw [ha] at h1; cases h1
          · rw [ha] at h1
            injection h1 with h1
            subst h1
            exact ⟨h2, p', h3⟩))
        clear HADD ha
        go_wp2_with (go_at_call 35; refine HADD2.out.mono ?_; rintro e8 w8 ⟨rfl, p1, hs8, hb8, hk8, ho8⟩)
        have HL8 := Lib.hid (show LpI n0 b4 b6 b7 b8 b9 gS most w s1 p1 [] w8 from ⟨hs8, StP.start.add HVD.out HAS.out, fun b hb => (ho8 b hb).elim (HOW0.out b) (Nat.le_trans E7.out.le), E7.out.kf HS7.out hk8 hb8, ⟨by simp, by simp⟩⟩)
        clear y0 y1 y4 y9 hs8 hb8 hk8 ho8 HADD2 E7 X10 HQ7 HS7
        refine wp_loop_ghost_k (fun k' a' w' => ∃ (ds : List Deferred) (s : St) (p : SP) (Ds : List Nat), k' = meas most s ∧ Ds.map mrkD = ds ∧ Hid (LpI n0 b4 b6 b7 b8 b9 gS most w s p Ds w') ∧ Hid ((∀ r, Run most short s r → Run most short s1 r) ∧ KL X.length s) ∧ ∃ u : Nat → Value, a' = ⟨[.agg #[.slice A nX c, .slice A2 nO c2], .int .i64 most, .bool short, u 3, .pointer (some ⟨b4, 0, none⟩), u 5, .pointer (some ⟨b6, 0, none⟩), .pointer (some ⟨b7, 0, none⟩), .pointer (some ⟨b8, 0, none⟩), .pointer (some ⟨b9, 0, none⟩), u 10, u 11, u 12, u 13, u 14, u 15, u 16, u 17, u 18, u 19, u 20, u 21, u 22, u 23, u 24, u 25, u 26, u 27, u 28, u 29, u 30, u 31, u 32, u 33, u 34, u 35, u 36, u 37, u 38, u 39, u 40, u 41, u 42, u 43, u 44, u 45, u 46, u 47, u 48, u 49, u 50, u 51, u 52, u 53, u 54, u 55, u 56, u 57, u 58, u 59, u 60, u 61, u 62, u 63, u 64, u 65, u 66, u 67, u 68, u 69, u 70].toArray, ds⟩) (meas most s1) ?_ ?_
        · exact ⟨[], s1, p1, [], rfl, rfl, HL8, Lib.hid ⟨fun r h => h, (KL.start _).add (g := (X, O)) HVD.out (Nat.le_refl _) HAS.out⟩, exl _ (fun u => let ds := []; ⟨[.agg #[.slice A nX c, .slice A2 nO c2], .int .i64 most, .bool short, u 3, .pointer (some ⟨b4, 0, none⟩), u 5, .pointer (some ⟨b6, 0, none⟩), .pointer (some ⟨b7, 0, none⟩), .pointer (some ⟨b8, 0, none⟩), .pointer (some ⟨b9, 0, none⟩), u 10, u 11, u 12, u 13, u 14, u 15, u 16, u 17, u 18, u 19, u 20, u 21, u 22, u 23, u 24, u 25, u 26, u 27, u 28, u 29, u 30, u 31, u 32, u 33, u 34, u 35, u 36, u 37, u 38, u 39, u 40, u 41, u 42, u 43, u 44, u 45, u 46, u 47, u 48, u 49, u 50, u 51, u 52, u 53, u 54, u 55, u 56, u 57, u 58, u 59, u 60, u 61, u 62, u 63, u 64, u 65, u 66, u 67, u 68, u 69, u 70].toArray, ds⟩) rfl⟩
        · clear HL8
          rintro gk _ wr ⟨ds, s, p, Ds, rfl, hds, HL, HRUN, u, rfl⟩
          try dsimp only
          intro J K hJ hK
          have y9 := HL.out.ex.x9.cell 0
          have HNX := Lib.hid (next_any n0 gS p s wr HL.out.si HL.out.st HL.out.ow HL.out.ex.le)
          cases hn : nextM s.2 with
          | none =>
            have HN := Lib.hid hn
            have HNX2 := Lib.hid (HNX.out.mono (fun e w' (h : NxtP n0 gS p s wr e w') => show e = .returned (.tuple #[.agg #[.slice none 0 0, .slice none 0 0], .bool false]) ∧ Below wr.heap.size wr w' from by
              rcases h with ⟨_, h1, h2⟩ | ⟨g, W', q, p', h1, _⟩
              · exact ⟨h1, h2⟩
              · rw [hn] at h1; cases h1))
            clear HNX hn
            go_upto_region 11 with (go_at_call 36; refine HNX2.out.mono ?_; rintro e8 w8 ⟨rfl, hb8⟩)
            have HL9 := Lib.hid (HL.out.below (hb8.trans (((Below.refl w8.heap.size w8).alloc (Nat.le_refl _) (.cells #[.slice none 0 0, .slice none 0 0] 24)).mono hb8.size)))
            generalize w8.alloc (.cells #[.slice none 0 0, .slice none 0 0] 24) = w9 at HL9 ⊢
            clear y9 hb8 HNX2 HL
            have y9 := HL9.out.ex.x9.cell 0
            obtain ⟨v6, h6⟩ := HL9.out.ex.x6
            obtain ⟨v7, h7⟩ := HL9.out.ex.x7
            have h8 := HL9.out.ex.x8
            have y6 := h6.cell 0
            have y7 := h7.cell 0
            have y8 := h8.cell 0
            have f6 := h6.frozen 0
            have f7 := h7.frozen 0
            have f8 := h8.frozen 0
            have n67 : ¬ b6 = b7 := arr_ne h6 h7 (by decide)
            have n68 : ¬ b6 = b8 := arr_ne h6 h8 (by decide)
            have n78 : ¬ b7 = b8 := arr_ne h7 h8 (by decide)
            have n76 : ¬ b7 = b6 := fun e => n67 e.symm
            have n86 : ¬ b8 = b6 := fun e => n68 e.symm
            have n87 : ¬ b8 = b7 := fun e => n78 e.symm
            have HR := Lib.hid (rs3_set h6 h7 h8 (.pointer (some ⟨gS, 0, none⟩)) (.string ⟨#[]⟩) (.int .i64 0))
            have HRB := Lib.hid (rs3_below HL9.out.ex.bel HL9.out.ex.le (b6 := b6) (b7 := b7) (b8 := b8) L6.out L7.out L8.out (.pointer (some ⟨gS, 0, none⟩)) (.string ⟨#[]⟩) (.int .i64 0))
            have HRM := Lib.hid (rs3_mks HL9.out.mks h6 h7 h8 (.pointer (some ⟨gS, 0, none⟩)) (.string ⟨#[]⟩) (.int .i64 0))
            clear h6 h7 h8
            have HKS := Lib.hid (rs3_keeps HL9.out (.pointer (some ⟨gS, 0, none⟩)) (.string ⟨#[]⟩))
            go_wp2_with fail
            clear y6 y7 y8 y9 f6 f7 f8 n67 n68 n78 n76 n86 n87
            generalize (((w9.setCell ⟨b6, 0, none⟩ (.pointer (some ⟨gS, 0, none⟩))).setCell ⟨b7, 0, none⟩ (.string ⟨#[]⟩)).setCell ⟨b8, 0, none⟩ (.int .i64 0)) = w10 at HR HRB HKS HRM ⊢
            subst hds
            refine ex_end (n0 := n0) (w := w) (fun W => SI gS W s p) (fun W D o hn h => h.putN hn) rfl rfl rfl (fun W hj hb => ⟨by rw [← HN0.out]; exact hb, .inr (.inr ⟨HVD.out, by have := HCM.out; simp only; omega, .done s.1, .some HAS.out (HRUN.out.1 _ (.done HN.out)), .inr ⟨s.1, s.2, gS, p, hj, HL9.out.st, by rw [← HN0.out]; exact HL9.out.ow, .inl ⟨rfl, rfl⟩⟩⟩)⟩) Ds w10 HRM.out HR.out HRB.out HKS.out
          | some gw =>
            obtain ⟨h, W0⟩ := gw
            have HN := Lib.hid hn
            have HNX2 := Lib.hid (HNX.out.mono (fun e w' (hh : NxtP n0 gS p s wr e w') => show ∃ q p', e = .returned (.tuple #[.agg #[sv q.1, sv q.2], .bool true]) ∧ GvI w' q h ∧ SI gS w' (s.1, W0) p' ∧ Below n0 wr w' ∧ Kf gS p wr w' ∧ ∀ b, Ow gS p' b → Ow gS p b from by
              rcases hh with ⟨h1, _⟩ | ⟨g, W', q, p', h1, h2⟩
              · rw [hn] at h1; cases h1
              · rw [hn] at h1
                injection h1 with h1
                injection h1 with e1 e2
                subst e1; subst e2
                exact ⟨q, p', h2⟩))
            obtain ⟨hst, hvh⟩ := HL.out.st.next hn
            have HST := Lib.hid hst
            have HVH := Lib.hid hvh
            clear HNX hn hst hvh
            go_upto_region 10 with (go_at_call 36; refine HNX2.out.mono ?_; rintro e8 w8 ⟨q, p', rfl, hq8, hs8, hb8, hk8, ho8⟩; obtain ⟨⟨A5, n5, c5⟩, ⟨A6, n6, c6⟩⟩ := q; simp only [sv])
            have hal := (Below.refl w8.heap.size w8).alloc (Nat.le_refl _) (.cells #[.slice A5 n5 c5, .slice A6 n6 c6] 24)
            have HM9 := Lib.hid (show LpI n0 b4 b6 b7 b8 b9 gS most w (s.1, W0) p' Ds (w8.alloc (.cells #[.slice A5 n5 c5, .slice A6 n6 c6] 24)) from
              LpI.below ⟨hs8, HST.out, fun b hb => HL.out.ow b (ho8 b hb), HL.out.ex.kf HL.out.si hk8 hb8, HL.out.mks.keep fun D hD => hk8.keep D (HL.out.mks.lt D hD) (fun hb => by
                have hd := (HL.out.mks.2 D hD).2
                rcases HL.out.si.typ hb with ⟨es, c, e⟩ | ⟨cs, t, fr, e, _⟩ <;> (rw [hd] at e; cases e))⟩ hal)
            have HQ9 := Lib.hid (show GvI (w8.alloc (.cells #[.slice A5 n5 c5, .slice A6 n6 c6] 24)) ((A5, n5, c5), (A6, n6, c6)) h from ⟨hq8.1.below hal, hq8.2.below hal⟩)
            have X12 := Lib.hid (show Arr (w8.alloc (.cells #[.slice A5 n5 c5, .slice A6 n6 c6] 24)) w8.heap.size 24 [.slice A5 n5 c5, .slice A6 n6 c6] from Arr.new w8 _ [_, _])
            have hn5 : n5 = h.1.length := by
              obtain ⟨A7, c7, e7, _⟩ := hq8.1
              injection e7
            have HN5 := Lib.hid hn5
            obtain ⟨b12, hb12⟩ : ∃ n, n = w8.heap.size := ⟨_, rfl⟩
            rw [← hb12] at X12 ⊢
            generalize w8.alloc (.cells #[.slice A5 n5 c5, .slice A6 n6 c6] 24) = w9 at HM9 HQ9 X12 ⊢
            clear hb12 hal hn5 hq8 hs8 hb8 hk8 ho8 HNX2 HL y9
            have y12 := X12.out.cell 0
            have y13 := X12.out.cell 1
            have HCL := Lib.hid (class_any (.agg #[.slice A5 n5 c5, .slice A6 n6 c6]) h w9 HQ9.out.gd HVH.out (HT.out _ HM9.out.ex.bel))
            go_upto_region 13 with (go_at_call 30; refine HCL.out.mono ?_; rintro e10 w10 ⟨v10, rfl, hg10, hb10⟩; obtain ⟨q10, rfl, hq10⟩ := hg10.gv; obtain ⟨⟨A7, n7, c7⟩, ⟨A8, n8, c8⟩⟩ := q10; simp only [sv])
            have hal := ((Below.refl w10.heap.size w10).alloc (Nat.le_refl _) (.cells #[.slice A7 n7 c7, .slice A8 n8 c8] 24)).alloc (by simp only [World.size_alloc]; omega) (.cells #[.string ⟨(fmG (lstM h)).toArray⟩] 9)
            have hb11 := hb10.trans (hal.mono hb10.size)
            have HM11 := Lib.hid (HM9.out.below hb11)
            have HQ11 := Lib.hid (show GvI ((w10.alloc (.cells #[.slice A7 n7 c7, .slice A8 n8 c8] 24)).alloc (.cells #[.string ⟨(fmG (lstM h)).toArray⟩] 9)) ((A5, n5, c5), (A6, n6, c6)) h from ⟨HQ9.out.1.below hb11, HQ9.out.2.below hb11⟩)
            have XA := Lib.hid (X12.out.below hb11 X12.out.lt)
            have X15 := Lib.hid (show Arr ((w10.alloc (.cells #[.slice A7 n7 c7, .slice A8 n8 c8] 24)).alloc (.cells #[.string ⟨(fmG (lstM h)).toArray⟩] 9)) (w10.heap.size + 1) 9 [.string ⟨(fmG (lstM h)).toArray⟩] from by
              have := Arr.new (w10.alloc (.cells #[.slice A7 n7 c7, .slice A8 n8 c8] 24)) 9 [.string ⟨(fmG (lstM h)).toArray⟩]
              simp only [World.size_alloc] at this
              exact this)
            generalize (w10.alloc (.cells #[.slice A7 n7 c7, .slice A8 n8 c8] 24)).alloc (.cells #[.string ⟨(fmG (lstM h)).toArray⟩] 9) = w11 at HM11 HQ11 XA X15 ⊢
            obtain ⟨b15, hb15⟩ : ∃ n, n = w10.heap.size + 1 := ⟨_, rfl⟩
            rw [← hb15] at X15 ⊢
            have LE15 := Lib.hid (show n0 ≤ b15 by have := HM9.out.ex.le; have := hb10.size; omega)
            have HN157 := Lib.hid (show b15 ≠ b7 by obtain ⟨v7, h7⟩ := HM9.out.ex.x7; have := h7.lt; have := hb10.size; omega)
            clear hb15 hal hb11 hb10 HM9 HQ9 X12 y12 y13 HCL hg10 hq10
            have y12 := XA.out.cell 0
            have y13 := XA.out.cell 1
            have y15 := X15.out.cell 0
            have y9 := HM11.out.ex.x9.cell 0
            by_cases hf : short = true ∧ h.1.length = 2
            · obtain ⟨hsh, h2⟩ := hf
              have HSH1 := Lib.hid hsh
              have HH2 := Lib.hid h2
              have e5 : (n5 : Int) = 2 := by have := HN5.out; omega
              clear h2
              subst hsh
              go_upto_region 14 with fail
              obtain ⟨v6, h6⟩ := HM11.out.ex.x6
              have m1 : ¬ b15 = b6 := arr_ne X15.out h6 (by decide)
              have m2 : ¬ b15 = b7 := HN157.out
              have m3 : ¬ b15 = b8 := arr_ne X15.out HM11.out.ex.x8 (by decide)
              have m4 : ¬ b9 = b6 := HM11.out.ex.n9
              obtain ⟨v7, h7⟩ := HM11.out.ex.x7
              have m5 : ¬ b9 = b7 := arr_ne HM11.out.ex.x9 h7 (by decide)
              have m6 : ¬ b9 = b8 := arr_ne HM11.out.ex.x9 HM11.out.ex.x8 (by decide)
              clear h6 h7
              obtain ⟨v6, h6⟩ := HM11.out.ex.x6
              obtain ⟨v7, h7⟩ := HM11.out.ex.x7
              have h8 := HM11.out.ex.x8
              have y6 := h6.cell 0
              have y7 := h7.cell 0
              have y8 := h8.cell 0
              have f6 := h6.frozen 0
              have f7 := h7.frozen 0
              have f8 := h8.frozen 0
              have n67 : ¬ b6 = b7 := arr_ne h6 h7 (by decide)
              have n68 : ¬ b6 = b8 := arr_ne h6 h8 (by decide)
              have n78 : ¬ b7 = b8 := arr_ne h7 h8 (by decide)
              have n76 : ¬ b7 = b6 := fun e => n67 e.symm
              have n86 : ¬ b8 = b6 := fun e => n68 e.symm
              have n87 : ¬ b8 = b7 := fun e => n78 e.symm
              have HR := Lib.hid (rs3_set h6 h7 h8 (.pointer (some ⟨gS, 0, none⟩)) (.string ⟨(fmG (lstM h)).toArray⟩) (.int .i64 0))
              have HRB := Lib.hid (rs3_below HM11.out.ex.bel HM11.out.ex.le (b6 := b6) (b7 := b7) (b8 := b8) L6.out L7.out L8.out (.pointer (some ⟨gS, 0, none⟩)) (.string ⟨(fmG (lstM h)).toArray⟩) (.int .i64 0))
              have HRM := Lib.hid (rs3_mks HM11.out.mks h6 h7 h8 (.pointer (some ⟨gS, 0, none⟩)) (.string ⟨(fmG (lstM h)).toArray⟩) (.int .i64 0))
              clear h6 h7 h8
              have HKS := Lib.hid (rs3_keeps HM11.out (.pointer (some ⟨gS, 0, none⟩)) (.string ⟨(fmG (lstM h)).toArray⟩))
              go_region
              have HR2 := Lib.hid (show Rs3 b6 b7 b8 (.pointer (some ⟨gS, 0, none⟩)) (.string ⟨(fmG (lstM h)).toArray⟩) (.int .i64 0) (((w11.setCell ⟨b6, 0, none⟩ (.pointer (some ⟨gS, 0, none⟩))).setCell ⟨b7, 0, none⟩ (.string ⟨(fmG (lstM h)).toArray⟩)).setCell ⟨b8, 0, none⟩ (.int .i64 0)).drew from HR.out)
              have HRB2 := Lib.hid (show Below n0 w (((w11.setCell ⟨b6, 0, none⟩ (.pointer (some ⟨gS, 0, none⟩))).setCell ⟨b7, 0, none⟩ (.string ⟨(fmG (lstM h)).toArray⟩)).setCell ⟨b8, 0, none⟩ (.int .i64 0)).drew from HRB.out.drew)
              have HRM2 := Lib.hid (show MkD n0 Ds (((w11.setCell ⟨b6, 0, none⟩ (.pointer (some ⟨gS, 0, none⟩))).setCell ⟨b7, 0, none⟩ (.string ⟨(fmG (lstM h)).toArray⟩)).setCell ⟨b8, 0, none⟩ (.int .i64 0)).drew from HRM.out)
              have HKS2 := Lib.hid (show SI gS (((w11.setCell ⟨b6, 0, none⟩ (.pointer (some ⟨gS, 0, none⟩))).setCell ⟨b7, 0, none⟩ (.string ⟨(fmG (lstM h)).toArray⟩)).setCell ⟨b8, 0, none⟩ (.int .i64 0)).drew (s.1, W0) p' from HKS.out.hold (fun _ _ => rfl) (fun _ _ _ _ _ => rfl))
              clear y6 y7 y8 y9 y12 y13 y15 f6 f7 f8 n67 n68 n78 n76 n86 n87 m1 m2 m3 m4 m5 m6 HR HRB HRM HKS
              generalize (((w11.setCell ⟨b6, 0, none⟩ (.pointer (some ⟨gS, 0, none⟩))).setCell ⟨b7, 0, none⟩ (.string ⟨(fmG (lstM h)).toArray⟩)).setCell ⟨b8, 0, none⟩ (.int .i64 0)).drew = w12 at HR2 HRB2 HRM2 HKS2 ⊢
              go_wp2_with fail
              subst hds
              refine ex_end (n0 := n0) (w := w) (fun W => SI gS W (s.1, W0) p') (fun W D o hn h => h.putN hn) rfl rfl rfl (fun W hj hb => ⟨by rw [← HN0.out]; exact hb, .inr (.inr ⟨HVD.out, by have := HCM.out; simp only; omega, .found s.1 (lstM h), .some HAS.out (HRUN.out.1 _ (.found HN.out rfl HH2.out)), .inr ⟨s.1, W0, gS, p', hj, HM11.out.st, by rw [← HN0.out]; exact HM11.out.ow, .inr ⟨lstM h, rfl, rfl⟩⟩⟩)⟩) Ds w12 HRM2.out HR2.out HRB2.out HKS2.out
            · have HNF := Lib.hid hf
              go_cut [57] from 51 to 57 (fun s57 wx => s57 = .bool false ∧ wx = w11)
              case first =>
                cases hsh : short with
                | false =>
                  subst hsh
                  go_wp2_with fail
                  go_meet
                  case rel => exact ⟨rfl, rfl⟩
                | true =>
                  subst hsh
                  have e5 : ¬ (n5 : Int) = 2 := fun e => HNF.out ⟨rfl, by have := HN5.out; omega⟩
                  clear hf
                  go_wp2_with fail
                  go_meet
                  case rel => exact ⟨by rw [beq_eq_false_iff_ne.2 e5], rfl⟩
              case rest =>
                clear hf
                obtain ⟨hs57, hwc⟩ := hcut
                subst hs57
                obtain rfl := hwc.symm
                have HSZ := Lib.hid (neighbors_any (.agg #[.slice A5 n5 c5, .slice A6 n6 c6]) (.bool false) w11 ⟨_, _, rfl⟩)
                go_wp2_with (go_at_call 31; refine HSZ.out.mono ?_; rintro e12 w12 ⟨a1, a2, ha, rfl, XB, hb12, hsz12⟩; injection ha with ha; injection ha with ha; injection ha with ha1 ha; injection ha with ha2 _; subst ha1; subst ha2)
                have HM12 := Lib.hid (HM11.out.below hb12)
                have HQ12 := Lib.hid (show GvI w12 ((A5, n5, c5), (A6, n6, c6)) h from ⟨HQ11.out.1.below hb12, HQ11.out.2.below hb12⟩)
                have XT := Lib.hid (X15.out.below hb12 X15.out.lt)
                have HNO2 := Lib.hid (show ¬ Ow gS p' w11.heap.size from fun hb => by have := HM11.out.si.lt hb; omega)
                have HGE := Lib.hid (show n0 ≤ w11.heap.size from HM11.out.ex.le)
                have HGL := Lib.hid hsz12
                have HXB := Lib.hid XB
                generalize w11.heap.size = gB at HXB HNO2 HGE HGL ⊢
                clear XB hsz12 hb12 HSZ XA X15 HQ11 HM11 y9 y12 y13 y15
                refine act_gen (fun U => ⟨(.agg #[.slice A nX c, .slice A2 nO c2] :: .int .i64 most :: .bool short :: U 3 :: .pointer (some ⟨b4, 0, none⟩) :: U 5 :: .pointer (some ⟨b6, 0, none⟩) :: .pointer (some ⟨b7, 0, none⟩) :: .pointer (some ⟨b8, 0, none⟩) :: .pointer (some ⟨b9, 0, none⟩) :: U 10 :: U 11 :: U 12 :: U 13 :: U 14 :: .pointer (some ⟨b15, 0, none⟩) :: U 16 :: U 17 :: U 18 :: U 19 :: U 20 :: U 21 :: U 22 :: U 23 :: U 24 :: U 25 :: U 26 :: U 27 :: U 28 :: U 29 :: U 30 :: U 31 :: U 32 :: U 33 :: U 34 :: U 35 :: U 36 :: U 37 :: U 38 :: U 39 :: U 40 :: U 41 :: U 42 :: U 43 :: U 44 :: U 45 :: U 46 :: U 47 :: U 48 :: U 49 :: U 50 :: U 51 :: U 52 :: U 53 :: U 54 :: U 55 :: U 56 :: U 57 :: U 58 :: U 59 :: U 60 :: .func (.func 47) #[] #[.pointer (some ⟨gB, 0, none⟩)] :: U 62 :: U 63 :: U 64 :: U 65 :: U 66 :: U 67 :: U 68 :: U 69 :: U 70 :: []).toArray, ds⟩) (fun U => ?_) rfl
                refine (wpIn_wide (n := 9)).1 ?_
                have HNL := Lib.hid (show n0 ≤ w12.heap.size from HM12.out.ex.le)
                refine wpIn_range_tell (n := 9) (by decide) (gf := 47) (lb := #[.pointer (some ⟨gB, 0, none⟩)]) rfl (enters_of Tryz.func47 (by kernel_rfl) rfl) rfl
                  (m := (nbrs h).length) (Rd := NbRd h) (Kp := Kq (w12.heap.size + 1) gB)
                  (fun W1 hb hl => nb_tells (9 - 1) gB (w12.heap.size + 1) (by decide) A5 A6 n5 c5 n6 c6 h W1 HVH.out (by omega) (HXB.out.below hb HXB.out.lt) ⟨HQ12.out.1.below hb, trivial⟩ ⟨HQ12.out.2.below hb, trivial⟩)
                  (fun A B C a b => a.trans b) (fun A o hl => Kq.put (by have := HGL.out; omega) A o hl)
                  (RgI n0 b4 b6 b7 b8 b9 gS b15 gB most w Ds h (s.1, W0) [.slice A5 n5 c5, .slice A6 n6 c6]) (RgX n0 b6 b7 b8 most w Ds h (s.1, W0))
                  (fun k A B hh hb => hh.below hb) (fun k A o hl hh => hh.put hl (by have := HNL.out; omega)) (fun A B hh hb => hh.below hb) (fun A o hl hh => hh.put hl (by have := HNL.out; omega))
                  ⟨(s.1, W0), p', rfl, HM12.out, XT.out, HXB.out, HNO2.out⟩
                  (fun k v ug a' W W1 => AxE (fun v ug b17 => ⟨(.agg #[.slice A nX c, .slice A2 nO c2] :: .int .i64 most :: .bool short :: U 3 :: .pointer (some ⟨b4, 0, none⟩) :: U 5 :: .pointer (some ⟨b6, 0, none⟩) :: .pointer (some ⟨b7, 0, none⟩) :: .pointer (some ⟨b8, 0, none⟩) :: .pointer (some ⟨b9, 0, none⟩) :: U 10 :: U 11 :: U 12 :: U 13 :: U 14 :: .pointer (some ⟨b15, 0, none⟩) :: v :: .pointer (some ⟨b17, 0, none⟩) :: U 18 :: U 19 :: U 20 :: U 21 :: U 22 :: U 23 :: U 24 :: U 25 :: U 26 :: U 27 :: U 28 :: U 29 :: U 30 :: U 31 :: U 32 :: U 33 :: U 34 :: U 35 :: U 36 :: U 37 :: U 38 :: U 39 :: U 40 :: U 41 :: U 42 :: U 43 :: U 44 :: U 45 :: U 46 :: U 47 :: U 48 :: U 49 :: U 50 :: U 51 :: U 52 :: U 53 :: U 54 :: U 55 :: U 56 :: U 57 :: U 58 :: U 59 :: U 60 :: .func (.func 47) #[] #[.pointer (some ⟨gB, 0, none⟩)] :: v :: ug :: U 64 :: U 65 :: U 66 :: U 67 :: U 68 :: U 69 :: U 70 :: []).toArray, []⟩) v ug a' W1)
                  (fun k v ug a' W W1 o hl hh => by
                    obtain ⟨q, b17, h1, h2, h3⟩ := hh
                    exact ⟨q, b17, h1, h2, hl.nc.arr h3⟩)
                  ?_ ?_ (fun k v u A B hh hb => hh.below hb) (fun k v u A o hl hh => hh.put hl) (fun A B hb => Kq.of_below hb) ?_ ?_
                · rintro k v ug W hk hI ⟨ms, g', hgk, hmv, hgd⟩ hsz
                  obtain ⟨⟨⟨A9, n9, c9⟩, ⟨A10, n10, c10⟩⟩, rfl, hq⟩ := hgd.gv
                  simp only [sv, List.zip_toArray, List.zip_cons_cons, List.zip_nil_right, List.foldl_toArray, List.foldl_cons, List.foldl_nil, List.setIfInBounds_toArray, List.set_cons_succ, List.set_cons_zero]
                  gi_wp2_with fail
                  refine ⟨⟨((A9, n9, c9), (A10, n10, c10)), W.heap.size, rfl, rfl, ?_⟩, ?_⟩
                  · exact Arr.new W _ [_, _]
                  · exact (Below.refl _ W).alloc (Nat.le_refl _) _
                · rintro k v ug a' W W1 hk ⟨s2, p2, hs2, hl2, hx15, hxB, hnB⟩ ⟨q, b17, rfl, rfl, hx17⟩ ⟨ms, g', hgk, hmv, hgd⟩ hsz
                  have hq := hgd.gq
                  have hvg := nbrs_vd HVH.out (List.mem_of_getElem? hgk)
                  obtain ⟨⟨A9, n9, c9⟩, ⟨A10, n10, c10⟩⟩ := q
                  have hadd := add_any n0 gS p2 s2 most ((A9, n9, c9), (A10, n10, c10)) g' (some (lstM h)) v ms W1 hl2.si hl2.st hl2.ow hl2.ex.le hq hvg hmv (((HRUN.out.2.next HN.out).1.nbrs HVH.out (HRUN.out.2.next HN.out).2 k hs2).room hl2.st HM.out) (HT.out _ hl2.ex.bel)
                  rw [show frS (some (lstM h)) = fmG (lstM h) from rfl] at hadd
                  simp only [sv] at hadd hx17 ⊢
                  have HADD := Lib.hid hadd
                  have HL2 := Lib.hid hl2
                  have HX15 := Lib.hid hx15
                  have HXB2 := Lib.hid hxB
                  have HNB := Lib.hid hnB
                  have HS2 := Lib.hid hs2
                  have HGK := Lib.hid hgk
                  have HVG := Lib.hid hvg
                  have HSZW := Lib.hid hsz
                  have y9 := hl2.ex.x9.cell 0
                  have y4 := hl2.ex.x4.cell 0
                  have y15 := hx15.cell 0
                  have y17 := hx17.cell 0
                  have y18 := hx17.cell 1
                  clear hadd hl2 hx15 hxB hnB hs2 hgk hvg hq hgd hx17 hmv hsz hk
                  cases ha : addM most s2 g' (some (lstM h)) ms with
                  | none =>
                    have HADD2 := Lib.hid (HADD.out.mono (fun e w' (hh : AddP n0 gS p2 s2 most g' (some (lstM h)) ms W1 e w') => show e = .returned (.bool false) ∧ Below W1.heap.size W1 w' from by
                      rcases hh with ⟨_, h1, h2⟩ | ⟨s', p', h1, _⟩
                      · exact ⟨h1, h2⟩
                      · rw [ha] at h1; cases h1))
                    have HAN := Lib.hid ha
                    clear HADD ha
                    gi_wp2_with (refine ⟨trivial, ?_⟩; gi_at_call 35; refine (CallsIn.inRound (w12.heap.size + 1) (callsIn_wide.2 HADD2.out)).mono ?_; rintro e14 w14 ⟨rfl, hb14⟩; have HM14 := Lib.hid (HL2.out.below hb14); have HB14 := Lib.hid hb14; clear y9 y4 y15 y17 y18 hb14; obtain ⟨v6, h6⟩ := HM14.out.ex.x6; obtain ⟨v7, h7⟩ := HM14.out.ex.x7; have h8 := HM14.out.ex.x8; have n67 : ¬ b6 = b7 := arr_ne h6 h7 (by decide); have n68 : ¬ b6 = b8 := arr_ne h6 h8 (by decide); have n78 : ¬ b7 = b8 := arr_ne h7 h8 (by decide); have n76 : ¬ b7 = b6 := fun e => n67 e.symm; have n86 : ¬ b8 = b6 := fun e => n68 e.symm; have n87 : ¬ b8 = b7 := fun e => n78 e.symm; have y6 := h6.cell 0; have y7 := h7.cell 0; have y8 := h8.cell 0; have f6 := h6.frozen 0; have f7 := h7.frozen 0; have f8 := h8.frozen 0; have H6 := Lib.hid h6; have H7 := Lib.hid h7; clear h6 h7 h8)
                    have h8 := HM14.out.ex.x8
                    have HT6 := Lib.hid (fun r (t : Two6 w12.heap.size r W1) => two6_set (v := .int .i64 13) (two6_set (v := .string ⟨#[]⟩) (two6_set (v := .pointer none) (t.below HB14.out) H6.out) (H7.out.far (p := ⟨b6, 0, none⟩) n76 (.pointer none))) ((h8.far (p := ⟨b6, 0, none⟩) n86 (.pointer none)).far (p := ⟨b7, 0, none⟩) n87 (.string ⟨#[]⟩)))
                    exact ⟨⟨addAll_none ((addAll_succ HS2.out HGK.out).trans HAN.out), rs3_set H6.out H7.out h8 _ _ _, rs3_below HM14.out.ex.bel HM14.out.ex.le L6.out L7.out L8.out _ _ _, by simp; exact HM14.out.ex.le, rs3_mks HM14.out.mks H6.out H7.out h8 _ _ _⟩, HT6.out⟩
                  | some s3 =>
                    have HADD2 := Lib.hid (HADD.out.mono (fun e w' (hh : AddP n0 gS p2 s2 most g' (some (lstM h)) ms W1 e w') => show e = .returned (.bool true) ∧ ∃ p', SI gS w' s3 p' ∧ Below n0 W1 w' ∧ Kf gS p2 W1 w' ∧ ∀ b, Ow gS p' b → Ow gS p2 b ∨ W1.heap.size ≤ b from by
                      rcases hh with ⟨h1, _⟩ | ⟨s', p', h1, h2, h3⟩
                      · rw [ha] at h1; cases h1
                      · rw [ha] at h1
                        injection h1 with h1
                        subst h1
                        exact ⟨h2, p', h3⟩))
                    have HAS2 := Lib.hid ha
                    clear HADD ha
                    gi_wp2_with (refine ⟨trivial, ?_⟩; gi_at_call 35; refine (CallsIn.inRound (w12.heap.size + 1) (callsIn_wide.2 HADD2.out)).mono ?_; rintro e14 w14 ⟨rfl, p3, hs14, hb14, hk14, ho14⟩)
                    refine ⟨⟨s3, p3, (addAll_succ HS2.out HGK.out).trans HAS2.out, ⟨hs14, HL2.out.st.add HVG.out HAS2.out, fun b hb => (ho14 b hb).elim (HL2.out.ow b) (Nat.le_trans HL2.out.ex.le), HL2.out.ex.kf HL2.out.si hk14 hb14, HL2.out.mks.keep fun D hD => hk14.keep D (HL2.out.mks.lt D hD) fun hb => ?_⟩, hk14.arr HX15.out (HL2.out.si.other HX15.out (by decide) (by decide)), hk14.arr HXB2.out HNB.out, fun hb => (ho14 gB hb).elim HNB.out (fun h => by have := HXB2.out.lt; omega)⟩, ⟨hk14.siz, fun b hb hc => hk14.keep b hb ?_, fun v xs hx => hk14.ints HL2.out.si hx⟩, fun r t => two6_kf HL2.out.si hk14 t⟩
                    · have hd := (HL2.out.mks.2 D hD).2
                      rcases HL2.out.si.typ hb with ⟨es, c, e⟩ | ⟨cs, t, fr, e, _⟩ <;> (rw [hd] at e; cases e)
                    · rcases hc with rfl | ⟨_, cs, t, fr, e, ht⟩
                      · exact HNB.out
                      · intro hb2
                        rcases HL2.out.si.typ hb2 with ⟨es, c, e2⟩ | ⟨cs2, t2, fr2, e2, ht2⟩
                        · rw [e] at e2; cases e2
                        · rw [e] at e2
                          injection e2 with e2
                          injection e2 with _ e2 _
                          subst e2
                          unfold KqT at ht
                          rcases ht with ht | ht | ht <;> rcases ht2 with ht2 | ht2 <;> (rw [ht] at ht2; exact absurd ht2 (by decide))
                · rintro W ⟨s3, p3, hs3, hl3, _⟩ hmark
                  rw [List.take_length] at hs3
                  have HM3 := Lib.hid (show LpI n0 b4 b6 b7 b8 b9 gS most w s3 p3 (w12.heap.size :: Ds) W from ⟨hl3.si, hl3.st, hl3.ow, hl3.ex, List.nodup_cons.2 ⟨fun hm => by have := HM12.out.mks.lt _ hm; omega, hl3.mks.1⟩, fun D hD => by
                    rcases List.mem_cons.1 hD with rfl | hD
                    · exact ⟨HNL.out, hmark⟩
                    · exact hl3.mks.2 D hD⟩)
                  have HR3 := Lib.hid (show (∀ r, Run most short s3 r → Run most short s1 r) ∧ KL X.length s3 from ⟨fun r (hr : Run most short s3 r) => HRUN.out.1 r (.step HN.out HNF.out hs3 hr), (HRUN.out.2.next HN.out).1.nbrs HVH.out (HRUN.out.2.next HN.out).2 (nbrs h).length (by rw [List.take_length]; exact hs3)⟩)
                  have hme : meas most s3 < meas most s := by
                    have h1 := meas_next (most := most) HN.out
                    have h2 := meas_all _ hs3
                    omega
                  have HME := Lib.hid hme
                  have HDS2 := Lib.hid (show (w12.heap.size :: Ds).map mrkD = { target := .collected w12.heap.size, args := #[] } :: ds from by rw [List.map_cons, hds]; rfl)
                  clear hs3 hl3 hmark hme
                  go_wp2_with fail
                  refine Handed.intro (meas most s3) HME.out ?_
                  apply hJ
                  exact ⟨_, s3, p3, w12.heap.size :: Ds, rfl, HDS2.out, HM3, HR3, exl _ (fun u => ⟨[.agg #[.slice A nX c, .slice A2 nO c2], .int .i64 most, .bool short, u 3, .pointer (some ⟨b4, 0, none⟩), u 5, .pointer (some ⟨b6, 0, none⟩), .pointer (some ⟨b7, 0, none⟩), .pointer (some ⟨b8, 0, none⟩), .pointer (some ⟨b9, 0, none⟩), u 10, u 11, u 12, u 13, u 14, u 15, u 16, u 17, u 18, u 19, u 20, u 21, u 22, u 23, u 24, u 25, u 26, u 27, u 28, u 29, u 30, u 31, u 32, u 33, u 34, u 35, u 36, u 37, u 38, u 39, u 40, u 41, u 42, u 43, u 44, u 45, u 46, u 47, u 48, u 49, u 50, u 51, u 52, u 53, u 54, u 55, u 56, u 57, u 58, u 59, u 60, u 61, u 62, u 63, u 64, u 65, u 66, u 67, u 68, u 69, u 70].toArray, { target := .collected w12.heap.size, args := #[] } :: ds⟩) rfl⟩
                · rintro W ⟨h1, h2, h3, h4, h5⟩ hmark
                  have HNA := Lib.hid h1
                  have HMX := Lib.hid (show MkD n0 (w12.heap.size :: Ds) W from ⟨List.nodup_cons.2 ⟨fun hm => by have := HM12.out.mks.lt _ hm; omega, h5.1⟩, fun D hD => by
                    rcases List.mem_cons.1 hD with rfl | hD
                    · exact ⟨HNL.out, hmark⟩
                    · exact h5.2 D hD⟩)
                  have HRX := Lib.hid h2
                  have HBX := Lib.hid h3
                  have HDS2 := Lib.hid (show (w12.heap.size :: Ds).map mrkD = { target := .collected w12.heap.size, args := #[] } :: ds from by rw [List.map_cons, hds]; rfl)
                  clear h1 h2 h3 h4 h5 hmark
                  gi_wp2_with fail
                  rw [← HDS2.out]
                  refine ex_end (n0 := n0) (w := w) (fun _ => True) (fun _ _ _ _ h => h) rfl rfl rfl (fun W _ hb => ⟨by rw [← HN0.out]; exact hb, .inr (.inr ⟨HVD.out, by have := HCM.out; simp only; omega, .fuel, .some HAS.out (HRUN.out.1 _ (.fuel HN.out HNF.out HNA.out)), .inl ⟨rfl, rfl⟩⟩)⟩) (w12.heap.size :: Ds) W HMX.out HRX.out HBX.out trivial
  · have zv : validB X O = false := by
      cases h : validB X O with
      | false => rfl
      | true => exact absurd ((validB_iff X O).1 h) hv
    have HVD := Lib.hid (show ¬ VdG (X, O) from hv)
    have HV1 := Lib.hid (HV.out w1 E1.out.bel)
    rw [zv] at HV1
    clear hv zv
    go_upto_region 2 with (go_at_call 28; refine HV1.out.mono ?_; rintro e2 w2 ⟨rfl, hb2⟩)
    have E2 := Lib.hid (E1.out.below hb2)
    clear y0 y1 hb2 HV1 E1
    obtain ⟨v6, h6⟩ := E2.out.x6
    obtain ⟨v7, h7⟩ := E2.out.x7
    have h8 := E2.out.x8
    have y6 := h6.cell 0
    have y7 := h7.cell 0
    have y8 := h8.cell 0
    have f6 := h6.frozen 0
    have f7 := h7.frozen 0
    have f8 := h8.frozen 0
    have n67 : ¬ b6 = b7 := arr_ne h6 h7 (by decide)
    have n68 : ¬ b6 = b8 := arr_ne h6 h8 (by decide)
    have n78 : ¬ b7 = b8 := arr_ne h7 h8 (by decide)
    have n76 : ¬ b7 = b6 := fun e => n67 e.symm
    have n86 : ¬ b8 = b6 := fun e => n68 e.symm
    have n87 : ¬ b8 = b7 := fun e => n78 e.symm
    have HR := Lib.hid (rs3_set h6 h7 h8 (.pointer none) (.string ⟨#[]⟩) (.int .i64 1))
    have HRB := Lib.hid (rs3_below E2.out.bel E2.out.le (b6 := b6) (b7 := b7) (b8 := b8) L6.out L7.out L8.out (.pointer none) (.string ⟨#[]⟩) (.int .i64 1))
    clear h6 h7 h8
    go_wp2_with fail
    clear y6 y7 y8 f6 f7 f8 n67 n68 n78 n76 n86 n87
    generalize (((w2.setCell ⟨b6, 0, none⟩ (.pointer none)).setCell ⟨b7, 0, none⟩ (.string ⟨#[]⟩)).setCell ⟨b8, 0, none⟩ (.int .i64 1)) = w9 at HR HRB ⊢
    refine ex_end (n0 := n0) (w := w) (fun _ => True) (fun _ _ _ _ h => h) rfl rfl rfl (fun W _ hb => ⟨by rw [← HN0.out]; exact hb, .inl ⟨HVD.out, rfl⟩⟩) [] w9 ⟨by simp, by simp⟩ HR.out HRB.out trivial
theorem explore_any (vx vo : Value) (X O : List Int) (most : Int) (short : Bool) (w : World) (hX : Ints w vx X) (hO : Ints w vo O) (lX : X.length ≤ 1000) (lO : O.length ≤ 1000) (hm : most ≤ 90000000) (ht : Tb w) :
    Calls Tryz.prog 15 #[.agg #[vx, vo], .int .i64 most, .bool short] w (ExP most short (X, O) w) := explore_anyW vx vo X O most short w hX hO lX lO (.inl hm) ht
end Go.Proofs.YteliflcbegcdlaaGreatDoor
