/- package unknot: what explore keeps (plain facts on runs; boxes and the state in memory). -/
/- package unknot: what a run of the search has found (plain). -/
/- Sums of integers (plain). -/
/- Determinants: expansion along the first column; rows are functions (plain). -/
/- Determinants: bounds, triangles, combinations of rows (plain). -/
/- The determinant of the transpose (plain). -/
/- The determinant of a grid diagram, and that the moves keep it up to its sign and powers of 4 (plain). -/
/- All moves keep the determinant of a grid up to its sign and powers of 2; the grids of size at most 6 of one component whose determinant is that of the unknot lead to smaller ones (plain). -/
/- The grids of size at most 6 of one component whose determinant is that of the unknot: a column or a row can be removed (plain; a finite search). -/
/- The grids of size at most 6 of one component whose determinant is that of the unknot lead to the grid of size 2 (plain). -/
/- package unknot: how many classes there are; when a run finds the unknot (plain). -/
/- What the reference's Follow has found so far (plain). -/
import Derived.Test.YteliflcbegcdlaaGreatDoorZSad
import Derived.Test.YteliflcbegcdlaaGreatDoorZRlt
import Derived.Test.YteliflcbegcdlaaGreatDoorZMrk
namespace Go.Proofs.YteliflcbegcdlaaGreatDoor
open Go.RowKit Go.Shelf
set_option linter.unusedVariables false
/-! ### plain -/
theorem modify_mem {α : Type} {f : α → α} : ∀ {l : List α} {n : Nat} {x : α}, x ∈ l.modify n f → x ∈ l ∨ ∃ y ∈ l, x = f y
  | [], n, x, h => by simp at h
  | a :: l, 0, x, h => by
    simp at h
    rcases h with h | h
    · exact .inr ⟨a, by simp, h⟩
    · exact .inl (by simp [h])
  | a :: l, n + 1, x, h => by
    simp at h
    rcases h with h | h
    · exact .inl (by simp [h])
    · rcases modify_mem h with h | ⟨y, h1, h2⟩
      · exact .inl (by simp [h])
      · exact .inr ⟨y, by simp [h1], h2⟩
theorem StP.add {most : Int} {s s' : St} {g : Gd} {fr : Option Gd} {ms : List Mv} (h : StP s) (hg : VdG g) (ha : addM most s g fr ms = some s') : StP s' := by
  unfold addM at ha
  split at ha
  · injection ha with ha; subst ha; exact h
  next hk =>
  split at ha
  · cases ha
  injection ha with ha
  subst ha
  refine ⟨?_, ?_, ?_, ?_, by simpa using h.l2⟩
  · intro e he
    rcases List.mem_append.1 he with he | he
    · exact h.v1 e he
    · rw [List.mem_singleton.1 he]; exact lstM_vd hg
  · intro l hl g' hg'
    rcases modify_mem hl with hl | ⟨y, hy, rfl⟩
    · exact h.v2 l hl g' hg'
    · rcases List.mem_append.1 hg' with q | q
      · exact h.v2 y hy g' q
      · rw [List.mem_singleton.1 q]; exact hg
  · rw [List.map_append, List.nodup_append]
    refine ⟨h.nd, by simp, ?_⟩
    intro a ha b hb e
    obtain ⟨x, hx, rfl⟩ := List.mem_map.1 ha
    simp at hb
    exact hasK_no hk x hx (e.trans hb)
  · intro l hl
    rw [List.length_append, List.length_singleton]
    rcases modify_mem hl with hl | ⟨y, hy, rfl⟩
    · have := h.sm l hl; omega
    · have := h.sm y hy; simp; omega
theorem nextM_get : ∀ {l : List (List Gd)} {g : Gd} {W : List (List Gd)}, nextM l = some (g, W) → ∃ k t, l[k]? = some (g :: t) ∧ W = l.set k t
  | [], g, W, h => by cases h
  | [] :: l, g, W, h => by
    rw [nextM] at h
    cases hn : nextM l with
    | none => rw [hn] at h; cases h
    | some p =>
      rw [hn] at h
      injection h with h
      injection h with h1 h2
      obtain ⟨p1, p2⟩ := p
      simp only at h1 h2
      subst h1
      obtain ⟨k, t, e1, e2⟩ := nextM_get hn
      exact ⟨k + 1, t, by simpa using e1, by rw [← h2, e2]; rfl⟩
  | (x :: t) :: l, g, W, h => by
    rw [nextM] at h
    injection h with h
    injection h with h1 h2
    subst h1
    exact ⟨0, t, rfl, h2.symm⟩
theorem StP.next {s : St} {g : Gd} {W : List (List Gd)} (h : StP s) (hn : nextM s.2 = some (g, W)) : StP (s.1, W) ∧ VdG g := by
  obtain ⟨k, t, e1, rfl⟩ := nextM_get hn
  have hm := List.mem_of_getElem? e1
  refine ⟨⟨h.v1, ?_, h.nd, ?_, by simpa using h.l2⟩, h.v2 _ hm g (by simp)⟩
  · intro l hl g' hg'
    rcases List.mem_or_eq_of_mem_set hl with q | q
    · exact h.v2 l q g' hg'
    · subst q; exact h.v2 _ hm g' (by simp [hg'])
  · intro l hl
    rcases List.mem_or_eq_of_mem_set hl with q | q
    · exact h.sm l q
    · subst q; have := h.sm _ hm; simp at this ⊢; omega
/-- how many grids wait -/
def wtN (W : List (List Gd)) : Nat := (W.map List.length).sum
theorem wtN_modify : ∀ (W : List (List Gd)) (n : Nat) (g : Gd), wtN (W.modify n (· ++ [g])) ≤ wtN W + 1
  | [], n, g => by simp [wtN]
  | x :: W, 0, g => by simp [wtN]; omega
  | x :: W, n + 1, g => by
    have := wtN_modify W n g
    simp [wtN] at this ⊢
    omega
theorem wtN_set : ∀ (W : List (List Gd)) (k : Nat) (g : Gd) (t : List Gd), W[k]? = some (g :: t) → wtN (W.set k t) + 1 = wtN W
  | [], k, g, t, h => by simp at h
  | x :: W, 0, g, t, h => by simp at h; subst h; simp [wtN]; omega
  | x :: W, k + 1, g, t, h => by
    have := wtN_set W k g t (by simpa using h)
    simp [wtN] at this ⊢
    omega
def meas (most : Int) (s : St) : Nat := 2 * (most.toNat - s.1.length) + wtN s.2
theorem meas_add {most : Int} {s s' : St} {g : Gd} {fr : Option Gd} {ms : List Mv} (ha : addM most s g fr ms = some s') : meas most s' ≤ meas most s := by
  unfold addM at ha
  split at ha
  · injection ha with ha; subst ha; exact Nat.le_refl _
  split at ha
  · cases ha
  injection ha with ha
  subst ha
  have := wtN_modify s.2 g.1.length g
  unfold meas
  simp only [List.length_append, List.length_singleton]
  omega
theorem meas_all {most : Int} {fr : Option Gd} : ∀ (l : List (List Mv × Gd)) {s s' : St}, addAll most fr s l = some s' → meas most s' ≤ meas most s
  | [], s, s', h => by injection h with h; subst h; exact Nat.le_refl _
  | (ms, g) :: t, s, s', h => by
    unfold addAll at h
    cases h1 : addM most s g fr ms with
    | none => rw [h1] at h; cases h
    | some s1 =>
      rw [h1] at h
      exact Nat.le_trans (meas_all t h) (meas_add h1)
theorem meas_next {most : Int} {s : St} {g : Gd} {W : List (List Gd)} (hn : nextM s.2 = some (g, W)) : meas most (s.1, W) + 1 = meas most s := by
  obtain ⟨k, t, e1, rfl⟩ := nextM_get hn
  have := wtN_set _ _ _ _ e1
  unfold meas
  simp only
  omega
theorem addAll_app {most : Int} {fr : Option Gd} : ∀ (a b : List (List Mv × Gd)) (s : St), addAll most fr s (a ++ b) = (addAll most fr s a).bind fun s' => addAll most fr s' b
  | [], b, s => rfl
  | (ms, g) :: a, b, s => by
    rw [List.cons_append, addAll, addAll]
    cases h1 : addM most s g fr ms with
    | none => rfl
    | some s1 => exact addAll_app a b s1
theorem addAll_succ {most : Int} {fr : Option Gd} {l : List (List Mv × Gd)} {k : Nat} {s s1 : St} {ms : List Mv} {g : Gd} (h : addAll most fr s (l.take k) = some s1) (hk : l[k]? = some (ms, g)) : addAll most fr s (l.take (k + 1)) = addM most s1 g fr ms := by
  have hlt := (List.getElem?_eq_some_iff.1 hk).1
  have he := (List.getElem?_eq_some_iff.1 hk).2
  rw [List.take_succ_eq_append_getElem hlt, addAll_app, h, he]
  show addAll most fr s1 [(ms, g)] = _
  rw [addAll]
  cases addM most s1 g fr ms <;> rfl
theorem addAll_none {most : Int} {fr : Option Gd} {l : List (List Mv × Gd)} {k : Nat} {s : St} (h : addAll most fr s (l.take k) = none) : addAll most fr s l = none := by
  conv => lhs; rw [← List.take_append_drop k l]
  rw [addAll_app, h]; rfl
/-- the neighbors are valid -/
theorem nbrs_vd {g z : Gd} {ms : List Mv} (h : VdG g) (hm : (ms, z) ∈ nbrs g) : VdG z := by
  have one : ∀ m, (ms, z) ∈ tryM g [m] → VdG z := fun m hm => by
    obtain ⟨_, q⟩ := (tryM_one h _ _).1 hm
    exact applyM_res_vd q
  have two : ∀ m m', (ms, z) ∈ tryM g [m, m'] → VdG z := fun m m' hm => by
    obtain ⟨_, y, _, q⟩ := (tryM_two h _ _).1 hm
    exact applyM_res_vd q
  have key : ∀ r, (ms, z) ∈ nbR g r → VdG z := fun r hm => by
    unfold nbR nb1 nb2 nb3 at hm
    rcases List.mem_append.1 hm with hm | hm
    · rcases List.mem_append.1 hm with hm | hm
      · obtain ⟨i, hi, q⟩ := List.mem_flatMap.1 hm
        unfold rmL at q
        split at q
        · exact one _ q
        · exact two _ _ q
      · obtain ⟨i, hi, q⟩ := List.mem_flatMap.1 hm
        exact one _ q
    · exact two _ _ hm
  unfold nbrs at hm
  rcases List.mem_append.1 hm with hm | hm
  · exact key _ hm
  · exact key _ hm
/-- the start of a search -/
def st00 : St := ([], List.replicate 41 [])
theorem StP.start : StP st00 := ⟨fun e h => by simp [st00] at h, fun l hl g hg => by unfold st00 at hl; simp at hl; subst hl; simp at hg, by simp [st00], fun l hl => by unfold st00 at hl; simp at hl; subst hl; simp, by simp [st00]⟩
/-- how a search from g ends -/
inductive Exq (most : Int) (short : Bool) (g : Gd) : Res → Prop
  | none : addM most st00 g none [] = none → Exq most short g .fuel
  | some {s : St} {r : Res} : addM most st00 g none [] = some s → Run most short s r → Exq most short g r
/-! ### memory -/
/-- block l holds neither cells nor a map -/
def Nc (l : Nat) (A : World) : Prop := (∀ es c, A.heap[l]? ≠ some (.map es c)) ∧ ∀ cs t fr, A.heap[l]? ≠ some (.cells cs t fr)
theorem Lp.nc {l : Nat} {A : World} (h : Lp l A) : Nc l A := by
  obtain ⟨r, h⟩ := h
  exact ⟨fun es c e => (by rw [h] at e; cases e), fun cs t fr e => (by rw [h] at e; cases e)⟩
theorem Nc.of_def {l : Nat} {A : World} {x : Option (List Deferred)} (h : A.heap[l]? = some (.deferred x)) : Nc l A :=
  ⟨fun es c e => (by rw [h] at e; cases e), fun cs t fr e => (by rw [h] at e; cases e)⟩
theorem Nc.ne {l b i : Nat} {A : World} {v : Value} (h : Nc l A) (k : A.cell? ⟨b, i, none⟩ = some v) : b ≠ l := by
  rintro rfl
  unfold World.cell? at k
  simp only at k
  split at k
  · next cs t fr e => exact h.2 _ _ _ e
  · cases k
theorem Nc.arr {l b : Nat} {A : World} {t : TypeId} {cs : List Value} {o : Obj} (h : Nc l A) (ha : Arr A b t cs) : Arr (A.putObj l o) b t cs :=
  (World.putObj_heap_other (fun e => h.2 _ _ _ (e ▸ ha))).trans ha
theorem Nc.cell {l b i : Nat} {A : World} {v : Value} {o : Obj} (h : Nc l A) (k : A.cell? ⟨b, i, none⟩ = some v) : (A.putObj l o).cell? ⟨b, i, none⟩ = some v :=
  (World.cell?_of_block (World.putObj_heap_other (h.ne k))).trans k
theorem Nc.ints {A : World} {l : Nat} {o : Obj} {v : Value} {xs : List Int} (h : Nc l A) (k : Ints A v xs) : Ints (A.putObj l o) v xs := by
  obtain ⟨A0, c, e, hc, hx⟩ := k
  refine ⟨A0, c, e, hc, fun j x hj => ?_⟩
  obtain ⟨b, off, e1, hcell⟩ := hx j x hj
  exact ⟨b, off, e1, h.cell hcell⟩
theorem Nc.moves {A : World} {l : Nat} {o : Obj} {v : Value} {ms : List Mv} (h : Nc l A) (k : Moves A v ms) : Moves (A.putObj l o) v ms := by
  obtain ⟨A0, c, e, hx⟩ := k
  refine ⟨A0, c, e, fun j hj => ?_⟩
  obtain ⟨b, off, e1, hcell⟩ := hx j hj
  exact ⟨b, off, e1, fun i u hu => h.cell (hcell i u hu)⟩
section
variable {gS : Nat} {w w' : World} {s : St} {p : SP}
theorem SI.putN (h : SI gS w s p) {l : Nat} {o : Obj} (hl : Nc l w) : SI gS (w.putObj l o) s p := by
  have hne : ∀ b, Ow gS p b → (w.putObj l o).heap[b]? = w.heap[b]? := fun b ho => World.putObj_heap_other (by
    rintro rfl
    rcases h.typ ho with ⟨es, c, e2⟩ | ⟨cs, t, fr, e2, _⟩
    · exact hl.1 _ _ e2
    · exact hl.2 _ _ _ e2)
  obtain ⟨cs, q1, q2⟩ := h.cls
  exact ⟨(hne _ (.inl rfl)).trans h.hd, h.wl, h.w2, h.ne, h.mp1.keep (hne _ (.inr (.inl rfl))), h.mp2.keep (hne _ (.inr (.inr (.inl rfl)))),
    ⟨h.al1.1, fun i q e h1 h2 => ⟨(h.al1.2 i q e h1 h2).1, hl.moves (h.al1.2 i q e h1 h2).2⟩⟩, ⟨cs, q1.keepK fun b hb => hne b (.inr (.inr (.inr (.inl hb)))), q2.imp fun q g hx => ⟨hl.ints hx.1, hl.ints hx.2⟩⟩,
    fun i v gs h1 h2 => by
      obtain ⟨ps, a, b⟩ := h.wt i v gs h1 h2
      exact ⟨ps, a.keepK fun b hb => hne b (.inr (.inr (.inr (.inr ⟨v, List.mem_of_getElem? h1, hb⟩)))), b.imp fun q g hx => ⟨hl.ints hx.1, hl.ints hx.2⟩⟩, h.ap1, h.ap2⟩
/-- the state where its blocks and the integers stay as they were -/
theorem SI.hold (h : SI gS w s p) (hk : ∀ b, Ow gS p b → w'.heap[b]? = w.heap[b]?) (hi : ∀ b i k n, w.cell? ⟨b, i, none⟩ = some (.int k n) → w'.heap[b]? = w.heap[b]?) : SI gS w' s p := by
  have hin : ∀ {v : Value} {xs : List Int}, Ints w v xs → Ints w' v xs := fun {v xs} hx => by
    obtain ⟨A0, c, e, hc, hx⟩ := hx
    refine ⟨A0, c, e, hc, fun j x hj => ?_⟩
    obtain ⟨b, off, e1, hcell⟩ := hx j x hj
    exact ⟨b, off, e1, (World.cell?_of_block (hi b _ _ _ hcell)).trans hcell⟩
  have hmv : ∀ {v : Value} {ms : List Mv}, Moves w v ms → Moves w' v ms := fun {v ms} hx => by
    obtain ⟨A0, c, e, hx⟩ := hx
    refine ⟨A0, c, e, fun j hj => ?_⟩
    obtain ⟨b, off, e1, hcell⟩ := hx j hj
    have hb := hi b _ _ _ (hcell 0 _ rfl)
    exact ⟨b, off, e1, fun i u hu => (World.cell?_of_block hb).trans (hcell i u hu)⟩
  obtain ⟨cs, q1, q2⟩ := h.cls
  exact ⟨(hk _ (.inl rfl)).trans h.hd, h.wl, h.w2, h.ne, h.mp1.keep (hk _ (.inr (.inl rfl))), h.mp2.keep (hk _ (.inr (.inr (.inl rfl)))),
    ⟨h.al1.1, fun i q e h1 h2 => ⟨(h.al1.2 i q e h1 h2).1, hmv (h.al1.2 i q e h1 h2).2⟩⟩, ⟨cs, q1.keepK fun b hb => hk b (.inr (.inr (.inr (.inl hb)))), q2.imp fun q g hx => ⟨hin hx.1, hin hx.2⟩⟩,
    fun i v gs h1 h2 => by
      obtain ⟨ps, a, b⟩ := h.wt i v gs h1 h2
      exact ⟨ps, a.keepK fun b hb => hk b (.inr (.inr (.inr (.inr ⟨v, List.mem_of_getElem? h1, hb⟩)))), b.imp fun q g hx => ⟨hin hx.1, hin hx.2⟩⟩, h.ap1, h.ap2⟩
/-- a block of another type than the state's is not the state's -/
theorem SI.other (h : SI gS w s p) {b : Nat} {t : TypeId} {cs : List Value} (ha : Arr w b t cs) (h1 : t ≠ 52) (h2 : t ≠ 24) : ¬ Ow gS p b := by
  intro hb
  have ha' : w.heap[b]? = _ := ha
  rcases h.typ hb with ⟨es, c, e⟩ | ⟨cs', t', fr, e, ht⟩
  · rw [e] at ha'; cases ha'
  · rw [e] at ha'
    injection ha' with ha'
    injection ha' with _ e2 _
    subst e2
    rcases ht with rfl | rfl
    · exact h1 rfl
    · exact h2 rfl
theorem Kf.arr (k : Kf gS p w w') {b : Nat} {t : TypeId} {cs : List Value} (ha : Arr w b t cs) (hb : ¬ Ow gS p b) : Arr w' b t cs := (k.keep b ha.lt hb).trans ha
end
/-- explore's boxes -/
structure ExB (n0 b4 b6 b7 b8 b9 gS : Nat) (most : Int) (w W : World) : Prop where
  bel : Below n0 w W
  le : n0 ≤ W.heap.size
  x4 : Arr W b4 3 [.int .i64 most]
  x6 : ∃ v, Arr W b6 44 [.pointer v]
  x7 : ∃ v, Arr W b7 9 [.string v]
  x8 : Arr W b8 28 [.int .i64 0]
  x9 : Arr W b9 44 [.pointer (some ⟨gS, 0, none⟩)]
  n9 : b9 ≠ b6
section
variable {n0 b4 b6 b7 b8 b9 gS : Nat} {most : Int} {w W W' : World} {s : St} {p : SP}
theorem ExB.below (h : ExB n0 b4 b6 b7 b8 b9 gS most w W) (hb : Below W.heap.size W W') : ExB n0 b4 b6 b7 b8 b9 gS most w W' := by
  obtain ⟨v6, h6⟩ := h.x6
  obtain ⟨v7, h7⟩ := h.x7
  have h8 := h.x8
  exact ⟨h.bel.trans (hb.mono h.le), Nat.le_trans h.le hb.size, h.x4.below hb h.x4.lt, ⟨v6, h6.below hb h6.lt⟩, ⟨v7, h7.below hb h7.lt⟩, h8.below hb h8.lt, h.x9.below hb h.x9.lt, h.n9⟩
theorem ExB.kf (h : ExB n0 b4 b6 b7 b8 b9 gS most w W) (hs : SI gS W s p) (k : Kf gS p W W') (hb : Below n0 W W') : ExB n0 b4 b6 b7 b8 b9 gS most w W' := by
  obtain ⟨v6, h6⟩ := h.x6
  obtain ⟨v7, h7⟩ := h.x7
  have h8 := h.x8
  exact ⟨h.bel.trans hb, Nat.le_trans h.le k.siz, k.arr h.x4 (hs.other h.x4 (by decide) (by decide)), ⟨v6, k.arr h6 (hs.other h6 (by decide) (by decide))⟩, ⟨v7, k.arr h7 (hs.other h7 (by decide) (by decide))⟩, k.arr h8 (hs.other h8 (by decide) (by decide)), k.arr h.x9 (hs.other h.x9 (by decide) (by decide)), h.n9⟩
theorem ExB.putN (h : ExB n0 b4 b6 b7 b8 b9 gS most w W) {l : Nat} {o : Obj} (hl : Nc l W) (hn : n0 ≤ l) : ExB n0 b4 b6 b7 b8 b9 gS most w (W.putObj l o) := by
  obtain ⟨v6, h6⟩ := h.x6
  obtain ⟨v7, h7⟩ := h.x7
  have h8 := h.x8
  refine ⟨⟨h.bel.os, h.bel.tape, h.bel.output, by rw [World.putObj_size]; exact h.bel.size, fun b hb => ?_⟩, by rw [World.putObj_size]; exact h.le, hl.arr h.x4, ⟨v6, hl.arr h6⟩, ⟨v7, hl.arr h7⟩, hl.arr h8, hl.arr h.x9, h.n9⟩
  exact (World.putObj_heap_other (by omega)).trans (h.bel.block b hb)
end
end Go.Proofs.YteliflcbegcdlaaGreatDoor

namespace Go.Proofs.YteliflcbegcdlaaGreatDoor
open Go.RowKit
set_option linter.unusedVariables false
/-- the moves ms lead from a grid to a grid -/
def Pls (g : Gd) (ms : List Mv) (z : Gd) : Prop := (∀ i, playFrom i g.1 g.2 ms = (0, z.1, z.2, -1)) ∧ ∀ m ∈ ms, m.k ≠ 4
theorem Pls.nil (g : Gd) : Pls g [] g := ⟨fun i => rfl, by simp⟩
theorem Pls.one {g z : Gd} {m : Mv} (h : m.app g.1 g.2 = (0, z.1, z.2)) (hm : m.k ≠ 4) : Pls g [m] z := by
  refine ⟨fun i => ?_, by simp; exact hm⟩
  simp only [playFrom, h, if_true]
theorem Pls.two {g y z : Gd} {m m' : Mv} (h : m.app g.1 g.2 = (0, y.1, y.2)) (h' : m'.app y.1 y.2 = (0, z.1, z.2)) (hm : m.k ≠ 4) (hm' : m'.k ≠ 4) : Pls g [m, m'] z := by
  refine ⟨fun i => ?_, by simp; exact ⟨hm, hm'⟩⟩
  simp only [playFrom, h, h', if_true]
theorem playFrom_app : ∀ (A B : List Mv) (i : Nat) (X O Y P : List Int), playFrom i X O A = (0, Y, P, -1) → playFrom i X O (A ++ B) = playFrom (i + A.length) Y P B
  | [], B, i, X, O, Y, P, h => by
    injection h with _ h
    injection h with h1 h
    injection h with h2 _
    subst h1; subst h2; rfl
  | m :: A, B, i, X, O, Y, P, h => by
    rw [playFrom] at h
    rw [List.cons_append, playFrom]
    split at h
    · next h0 =>
      rw [if_pos h0, playFrom_app A B _ _ _ _ _ h, List.length_cons]
      congr 1; omega
    · injection h with _ h
      injection h with _ h
      injection h with _ h
      omega
theorem Pls.app {g y z : Gd} {A B : List Mv} (h : Pls g A y) (h' : Pls y B z) : Pls g (A ++ B) z :=
  ⟨fun i => (playFrom_app A B i _ _ _ _ (h.1 i)).trans (h'.1 _), fun m hm => (List.mem_append.1 hm).elim (h.2 m) (h'.2 m)⟩
theorem nbrs_pls {g z : Gd} {ms : List Mv} (h : VdG g) (hm : (ms, z) ∈ nbrs g) : Pls g ms z ∧ ms.length ≤ 2 := by
  have one : ∀ m : Mv, m.k ≠ 4 → (ms, z) ∈ tryM g [m] → Pls g ms z ∧ ms.length ≤ 2 := fun m hk hm => by
    obtain ⟨rfl, q⟩ := (tryM_one h _ _).1 hm
    exact ⟨.one q hk, by simp⟩
  have two : ∀ m m' : Mv, m.k ≠ 4 → m'.k ≠ 4 → (ms, z) ∈ tryM g [m, m'] → Pls g ms z ∧ ms.length ≤ 2 := fun m m' hk hk' hm => by
    obtain ⟨rfl, y, q1, q2⟩ := (tryM_two h _ _).1 hm
    exact ⟨.two q1 q2 hk hk', by simp⟩
  have key : ∀ r, (ms, z) ∈ nbR g r → Pls g ms z ∧ ms.length ≤ 2 := fun r hm => by
    unfold nbR nb1 nb2 nb3 at hm
    rcases List.mem_append.1 hm with hm | hm
    · rcases List.mem_append.1 hm with hm | hm
      · obtain ⟨i, hi, q⟩ := List.mem_flatMap.1 hm
        unfold rmL at q
        split at q
        · exact one _ (by simp [rmM]) q
        · exact two _ _ (by simp [tuM]) (by simp [rmM]) q
      · obtain ⟨i, hi, q⟩ := List.mem_flatMap.1 hm
        exact one _ (by simp [coM]) q
    · exact two _ _ (by simp [tuM]) (by simp [coM]) hm
  unfold nbrs at hm
  rcases List.mem_append.1 hm with hm | hm
  · exact key _ hm
  · exact key _ hm
/-- the entries and the grids that were reached -/
def Alg (g0 : Gd) (K : List En) (A : List Gd) : Prop :=
  A.length = K.length ∧ ∀ (i : Nat) e a, K[i]? = some e → A[i]? = some a → VdG a ∧ lstM a = e.key ∧
    ((e.fr = none ∧ e.ms = [] ∧ a = g0) ∨ ∃ (j : Nat) (b : Gd) (e' : En), j < i ∧ K[j]? = some e' ∧ A[j]? = some b ∧ e.fr = some e'.key ∧ (e.ms, a) ∈ nbrs b)
/-- what a run keeps; H: what has been taken up, but not been done yet -/
structure PlX (g0 : Gd) (short : Bool) (H : Gd → Prop) (s : St) (A : List Gd) : Prop where
  alg : Alg g0 s.1 A
  wt : ∀ l ∈ s.2, ∀ g ∈ l, g ∈ A
  dn : ∀ a ∈ A, (∃ l ∈ s.2, a ∈ l) ∨ H a ∨ (¬ (short = true ∧ a.1.length = 2) ∧ ∀ ms z, (ms, z) ∈ nbrs a → hasK s.1 (lstM z) = true)
theorem hasK_app {K E : List En} {c : Gd} (h : hasK K c = true) : hasK (K ++ E) c = true := by
  obtain ⟨e, he, hk⟩ := hasK_yes h
  exact List.any_eq_true.2 ⟨e, List.mem_append_left _ he, by simpa using hk⟩
theorem Alg.get {g0 : Gd} {K : List En} {A : List Gd} (h : Alg g0 K A) {a : Gd} (ha : a ∈ A) : ∃ (i : Nat) (e : En), K[i]? = some e ∧ A[i]? = some a ∧ lstM a = e.key ∧ VdG a := by
  obtain ⟨i, hi⟩ := List.getElem?_of_mem ha
  have hlt : i < K.length := by rw [← h.1]; exact (List.getElem?_eq_some_iff.1 hi).1
  obtain ⟨h1, h2, _⟩ := h.2 i _ a (List.getElem?_eq_getElem hlt) hi
  exact ⟨i, _, List.getElem?_eq_getElem hlt, hi, h2, h1⟩
theorem Alg.snoc {g0 : Gd} {K : List En} {A : List Gd} (h : Alg g0 K A) {e : En} {a : Gd} (hv : VdG a) (hk : lstM a = e.key)
    (hf : (e.fr = none ∧ e.ms = [] ∧ a = g0) ∨ ∃ (j : Nat) (b : Gd) (e' : En), K[j]? = some e' ∧ A[j]? = some b ∧ e.fr = some e'.key ∧ (e.ms, a) ∈ nbrs b) : Alg g0 (K ++ [e]) (A ++ [a]) := by
  refine ⟨by simp [h.1], fun i e1 a1 h1 h2 => ?_⟩
  rcases Nat.lt_or_ge i K.length with hi | hi
  · rw [List.getElem?_append_left hi] at h1
    rw [List.getElem?_append_left (by rw [h.1]; exact hi)] at h2
    obtain ⟨q1, q2, q3⟩ := h.2 i e1 a1 h1 h2
    refine ⟨q1, q2, q3.imp (fun x => x) ?_⟩
    rintro ⟨j, b, e', hj, k1, k2, k3⟩
    exact ⟨j, b, e', hj, by rw [List.getElem?_append_left (by omega)]; exact k1, by rw [List.getElem?_append_left (by rw [h.1]; omega)]; exact k2, k3⟩
  · rw [List.getElem?_append_right hi] at h1
    rw [List.getElem?_append_right (by rw [h.1]; exact hi), h.1] at h2
    cases hz : i - K.length with
    | succ z => rw [hz] at h1; simp at h1
    | zero =>
      rw [hz] at h1 h2
      simp at h1 h2
      subst h1; subst h2
      refine ⟨hv, hk, hf.imp (fun x => x) ?_⟩
      rintro ⟨j, b, e', k1, k2, k3⟩
      have hj := (List.getElem?_eq_some_iff.1 k1).1
      exact ⟨j, b, e', by omega, by rw [List.getElem?_append_left hj]; exact k1, by rw [List.getElem?_append_left (by rw [h.1]; exact hj)]; exact k2, k3⟩
theorem modify_self {α : Type} {f : α → α} : ∀ {l : List α} {n : Nat} (h : n < l.length), f l[n] ∈ l.modify n f
  | a :: l, 0, h => by simp
  | a :: l, n + 1, h => by
    have := modify_self (f := f) (l := l) (n := n) (by simpa using h)
    simp at this ⊢
    exact .inr this
theorem modify_old {α : Type} {f : α → α} {P : α → Prop} (hf : ∀ x, P x → P (f x)) : ∀ {l : List α} {n : Nat}, (∃ x ∈ l, P x) → ∃ x ∈ l.modify n f, P x
  | [], n, ⟨x, hx, _⟩ => by simp at hx
  | a :: l, 0, ⟨x, hx, hp⟩ => by
    rcases List.mem_cons.1 hx with rfl | hx
    · exact ⟨f x, by simp, hf x hp⟩
    · exact ⟨x, by simp [hx], hp⟩
  | a :: l, n + 1, ⟨x, hx, hp⟩ => by
    rcases List.mem_cons.1 hx with rfl | hx
    · exact ⟨x, by simp, hp⟩
    · obtain ⟨y, hy, hpy⟩ := modify_old hf (l := l) (n := n) ⟨x, hx, hp⟩
      exact ⟨y, by simp [hy], hpy⟩
/-- a grid is added -/
theorem PlX.add {g0 : Gd} {short : Bool} {H : Gd → Prop} {s s' : St} {A : List Gd} {most : Int} {z : Gd} {fr : Option Gd} {ms : List Mv} (h : PlX g0 short H s A) (hl2 : s.2.length = 41) (hz : VdG z) (ha : addM most s z fr ms = some s')
    (hf : (fr = none ∧ ms = [] ∧ z = g0) ∨ ∃ (j : Nat) (b : Gd) (e' : En), s.1[j]? = some e' ∧ A[j]? = some b ∧ fr = some e'.key ∧ (ms, z) ∈ nbrs b) :
    ∃ A', PlX g0 short H s' A' ∧ (∃ E, A' = A ++ E) ∧ hasK s'.1 (lstM z) = true ∧ s'.2.length = 41 := by
  unfold addM at ha
  split at ha
  · next hk => injection ha with ha; subst ha; exact ⟨A, h, ⟨[], by simp⟩, hk, hl2⟩
  next hk =>
  split at ha
  · cases ha
  injection ha with ha
  subst ha
  have h40 := hz.most
  refine ⟨A ++ [z], ⟨h.alg.snoc hz rfl hf, ?_, ?_⟩, ⟨_, rfl⟩, ?_, by simpa using hl2⟩
  · intro l hl g hg
    rcases modify_mem hl with hl | ⟨y, hy, rfl⟩
    · exact List.mem_append_left _ (h.wt l hl g hg)
    · rcases List.mem_append.1 hg with q | q
      · exact List.mem_append_left _ (h.wt y hy g q)
      · rw [List.mem_singleton.1 q]; simp
  · intro a ha
    rcases List.mem_append.1 ha with ha | ha
    · rcases h.dn a ha with q | q | ⟨q1, q2⟩
      · left
        exact modify_old (P := fun l => a ∈ l) (fun x hx => List.mem_append_left _ hx) q
      · exact .inr (.inl q)
      · exact .inr (.inr ⟨q1, fun ms z hz => hasK_app (q2 ms z hz)⟩)
    · rw [List.mem_singleton.1 ha]
      left
      have hlt : z.1.length < s.2.length := by omega
      exact ⟨_, modify_self (f := (· ++ [z])) hlt, by simp⟩
  · exact List.any_eq_true.2 ⟨⟨lstM z, ms, fr⟩, by simp, by simp⟩
theorem PlX.all {g0 : Gd} {short : Bool} {most : Int} {h : Gd} : ∀ (l : List (List Mv × Gd)) {s s' : St} {A : List Gd}, PlX g0 short (fun a => a = h) s A → s.2.length = 41 → VdG h → h ∈ A → (∀ p ∈ l, p ∈ nbrs h) → addAll most (some (lstM h)) s l = some s' →
    ∃ A', PlX g0 short (fun a => a = h) s' A' ∧ h ∈ A' ∧ (∀ p ∈ l, hasK s'.1 (lstM p.2) = true) ∧ (∃ E, s'.1 = s.1 ++ E) ∧ s'.2.length = 41
  | [], s, s', A, hp, h41, hv, hA, hs, ha => by
    injection ha with ha; subst ha
    exact ⟨A, hp, hA, by simp, ⟨[], by simp⟩, h41⟩
  | (ms, z) :: t, s, s', A, hp, h41, hv, hA, hs, ha => by
    unfold addAll at ha
    cases h1 : addM most s z (some (lstM h)) ms with
    | none => rw [h1] at ha; cases ha
    | some s1 =>
      rw [h1] at ha
      obtain ⟨i, e, k1, k2, k3, k4⟩ := hp.alg.get hA
      have hn := hs (ms, z) (by simp)
      obtain ⟨A1, q1, ⟨E, rfl⟩, q3, q4⟩ := hp.add h41 (nbrs_vd hv hn) h1 (.inr ⟨i, h, e, k1, k2, by rw [k3], hn⟩)
      obtain ⟨A2, r1, r2, r3, ⟨E2, r4⟩, r5⟩ := PlX.all t q1 q4 hv (List.mem_append_left _ hA) (fun p hp => hs p (by simp [hp])) ha
      obtain ⟨E1, e1⟩ := addM_len h1
      refine ⟨A2, r1, r2, fun p hp => ?_, ⟨E1 ++ E2, by rw [r4, e1, List.append_assoc]⟩, r5⟩
      rcases List.mem_cons.1 hp with rfl | hp
      · rw [r4]; exact hasK_app q3
      · exact r3 p hp
theorem nextM_empty : ∀ {l : List (List Gd)}, nextM l = none → ∀ x ∈ l, x = []
  | [], h, x, hx => by simp at hx
  | [] :: l, h, x, hx => by
    rw [nextM] at h
    rcases List.mem_cons.1 hx with rfl | hx
    · rfl
    · cases hn : nextM l with
      | none => exact nextM_empty hn x hx
      | some p => rw [hn] at h; cases h
  | (y :: t) :: l, h, x, hx => by rw [nextM] at h; cases h
/-- what all was done leaves -/
def Dn (g0 : Gd) (short : Bool) (K : List En) : Prop := ∃ A, Alg g0 K A ∧ A ≠ [] ∧ ∀ a ∈ A, ¬ (short = true ∧ a.1.length = 2) ∧ ∀ ms z, (ms, z) ∈ nbrs a → hasK K (lstM z) = true
/-- what was found -/
def Fd (g0 : Gd) (K : List En) (c : Gd) : Prop := ∃ A a, Alg g0 K A ∧ a ∈ A ∧ a.1.length = 2 ∧ c = lstM a
theorem Run.pl {most : Int} {short : Bool} {g0 : Gd} {s : St} {r : Res} (h : Run most short s r) : ∀ {A : List Gd}, PlX g0 short (fun _ => False) s A → StP s → A ≠ [] → (∀ K, r = .done K → Dn g0 short K) ∧ ∀ K c, r = .found K c → Fd g0 K c := by
  induction h with
  | @done s h =>
    intro A hp hs hA
    refine ⟨fun K e => ?_, fun K c e => by cases e⟩
    injection e with e
    subst e
    refine ⟨A, hp.alg, hA, fun a ha => ?_⟩
    rcases hp.dn a ha with ⟨l, hl, hal⟩ | q | q
    · rw [nextM_empty h l hl] at hal; simp at hal
    · exact q.elim
    · exact q
  | @found s g W h hsh h2 =>
    intro A hp hs hA
    refine ⟨fun K e => (by cases e), fun K c e => ?_⟩
    injection e with e1 e2
    subst e1; subst e2
    obtain ⟨k, t, e1, _⟩ := nextM_get h
    exact ⟨A, g, hp.alg, hp.wt _ (List.mem_of_getElem? e1) g (by simp), h2, rfl⟩
  | fuel h hsh ha => exact fun _ _ _ => ⟨fun K e => (by cases e), fun K c e => (by cases e)⟩
  | @step s s' g W r h hsh ha hr ih =>
    intro A hp hs hA
    obtain ⟨k, t, e1, e2⟩ := nextM_get h
    obtain ⟨hs1, hvg⟩ := hs.next h
    have hgA := hp.wt _ (List.mem_of_getElem? e1) g (by simp)
    have hpx : PlX g0 short (fun a => a = g) (s.1, W) A := by
      refine ⟨hp.alg, fun l hl g' hg' => ?_, fun a ha => ?_⟩
      · rw [e2] at hl
        rcases List.mem_or_eq_of_mem_set hl with q | q
        · exact hp.wt l q g' hg'
        · subst q; exact hp.wt _ (List.mem_of_getElem? e1) g' (by simp [hg'])
      · rcases hp.dn a ha with ⟨l, hl, hal⟩ | q | q
        · by_cases e : a = g
          · exact .inr (.inl e)
          · left
            obtain ⟨i, hi⟩ := List.getElem?_of_mem hl
            by_cases ei : i = k
            · subst ei
              rw [e1] at hi
              injection hi with hi
              subst hi
              have hat : a ∈ t := by
                rcases List.mem_cons.1 hal with q | q
                · exact absurd q e
                · exact q
              exact ⟨t, by rw [e2]; exact List.mem_of_getElem? (List.getElem?_set_self (List.getElem?_eq_some_iff.1 e1).1), hat⟩
            · exact ⟨l, by rw [e2]; exact List.mem_of_getElem? ((List.getElem?_set_ne (Ne.symm ei)).trans hi), hal⟩
        · exact q.elim
        · exact .inr (.inr q)
    obtain ⟨A', q1, q2, q3, _, q5⟩ := PlX.all (nbrs g) hpx hs1.l2 hvg hgA (fun p hp => hp) ha
    have hst : ∀ (l : List (List Mv × Gd)) {s s' : St}, StP s → (∀ p ∈ l, VdG p.2) → addAll most (some (lstM g)) s l = some s' → StP s' := by
      intro l
      induction l with
      | nil => intro s s' hs _ ha; injection ha with ha; subst ha; exact hs
      | cons p t iht =>
        intro s s' hs hv ha
        obtain ⟨ms, z⟩ := p
        unfold addAll at ha
        cases h1 : addM most s z (some (lstM g)) ms with
        | none => rw [h1] at ha; cases ha
        | some s1 =>
          rw [h1] at ha
          exact iht (hs.add (hv (ms, z) (by simp)) h1) (fun p hp => hv p (by simp [hp])) ha
    refine ih (A := A') ⟨q1.alg, q1.wt, fun a ha => ?_⟩ (hst _ hs1 (fun p hp => nbrs_vd hvg (show (p.1, p.2) ∈ nbrs g from hp)) ha) (fun e => by rw [e] at q2; simp at q2)
    rcases q1.dn a ha with q | q | q
    · exact .inl q
    · subst q
      exact .inr (.inr ⟨hsh, fun ms z hz => q3 (ms, z) hz⟩)
    · exact .inr (.inr q)
theorem pl_start {most : Int} {short : Bool} {g : Gd} {s : St} (hv : VdG g) (ha : addM most st00 g none [] = some s) : ∃ A, PlX g short (fun _ => False) s A ∧ A ≠ [] := by
  have h0 : PlX g short (fun _ => False) st00 [] := ⟨⟨rfl, fun i e a h => by simp [st00] at h⟩, fun l hl x hx => by unfold st00 at hl; simp at hl; subst hl; simp at hx, fun a ha => by simp at ha⟩
  obtain ⟨A, h1, _, h3, _⟩ := h0.add (by simp [st00]) hv ha (.inl ⟨rfl, rfl, rfl⟩)
  refine ⟨A, h1, fun e => ?_⟩
  subst e
  obtain ⟨e, he, _⟩ := hasK_yes h3
  have := h1.alg.1
  rw [List.eq_nil_of_length_eq_zero this.symm] at he
  simp at he
theorem Exq.pl {most : Int} {short : Bool} {g : Gd} {r : Res} (hv : VdG g) (h : Exq most short g r) : (∀ K, r = .done K → Dn g short K) ∧ ∀ K c, r = .found K c → Fd g K c := by
  cases h with
  | none h => exact ⟨fun K e => (by cases e), fun K c e => (by cases e)⟩
  | some h hr =>
    obtain ⟨A, h1, h2⟩ := pl_start (short := short) hv h
    exact hr.pl h1 (StP.start.add hv h) h2
/-! ### the number of entries -/
theorem addM_most {most : Int} {s s' : St} {g : Gd} {fr : Option Gd} {ms : List Mv} (h : s.1.length ≤ most.toNat) (ha : addM most s g fr ms = some s') : s'.1.length ≤ most.toNat := by
  unfold addM at ha
  split at ha
  · injection ha with ha; subst ha; exact h
  · split at ha
    · cases ha
    · injection ha with ha; subst ha; simp; omega
theorem addAll_most {most : Int} {fr : Option Gd} : ∀ (l : List (List Mv × Gd)) {s s' : St}, s.1.length ≤ most.toNat → addAll most fr s l = some s' → s'.1.length ≤ most.toNat
  | [], s, s', h, ha => by injection ha with ha; subst ha; exact h
  | (ms, g) :: t, s, s', h, ha => by
    unfold addAll at ha
    cases h1 : addM most s g fr ms with
    | none => rw [h1] at ha; cases ha
    | some s1 => rw [h1] at ha; exact addAll_most t (addM_most h h1) ha
theorem Run.most {most : Int} {short : Bool} {s : St} {r : Res} (h : Run most short s r) : s.1.length ≤ most.toNat → ∀ K, (r = .done K ∨ ∃ c, r = .found K c) → K.length ≤ most.toNat := by
  induction h with
  | done h => intro hs K e; rcases e with e | ⟨c, e⟩ <;> cases e; exact hs
  | found h hsh h2 => intro hs K e; rcases e with e | ⟨c, e⟩ <;> cases e; exact hs
  | fuel h hsh ha => intro hs K e; rcases e with e | ⟨c, e⟩ <;> cases e
  | @step s s' g W r h hsh ha hr ih => intro hs K e; exact ih (addAll_most (s := (s.1, W)) _ hs ha) K e
theorem Exq.most {most : Int} {short : Bool} {g : Gd} {r : Res} (h : Exq most short g r) : ∀ K, (r = .done K ∨ ∃ c, r = .found K c) → K.length ≤ most.toNat := by
  cases h with
  | none h => intro K e; rcases e with e | ⟨c, e⟩ <;> cases e
  | some h hr => exact hr.most (addM_most (by simp [st00]) h)
end Go.Proofs.YteliflcbegcdlaaGreatDoor

namespace Go.Proofs.YteliflcbegcdlaaGreatDoor
set_option linter.unusedVariables false
/-- a sum -/
def sumI : Nat → (Nat → Int) → Int
  | 0, _ => 0
  | c + 1, f => sumI c f + f c
theorem sumI_congr {C : Nat} {f g : Nat → Int} (h : ∀ l, l < C → f l = g l) : sumI C f = sumI C g := by
  induction C with
  | zero => rfl
  | succ c ih => rw [sumI, sumI, ih (fun l hl => h l (by omega)), h c (by omega)]
theorem sumI_one {C j : Nat} {f g : Nat → Int} (hj : j < C) (h : ∀ l, l < C → l ≠ j → f l = g l) : sumI C f = sumI C g + (f j - g j) := by
  induction C with
  | zero => omega
  | succ c ih =>
    rw [sumI, sumI]
    by_cases e : j = c
    · subst e
      rw [sumI_congr (f := f) (g := g) (fun l hl => h l (by omega) (by omega))]; omega
    · rw [ih (by omega) (fun l hl hne => h l (by omega) hne), h c (by omega) (fun q => e q.symm)]; omega
theorem sumI_two {C j k : Nat} {f g : Nat → Int} (hj : j < C) (hk : k < C) (hjk : j ≠ k) (h : ∀ l, l < C → l ≠ j → l ≠ k → f l = g l) : sumI C f = sumI C g + (f j - g j) + (f k - g k) := by
  have h1 := sumI_one (f := f) (g := fun l => if l = k then f k else g l) hj (fun l hl hne => by
    show f l = if l = k then f k else g l
    by_cases e : l = k
    · rw [if_pos e, e]
    · rw [if_neg e]; exact h l hl hne e)
  have h2 := sumI_one (f := fun l => if l = k then f k else g l) (g := g) hk (fun l hl hne => by
    show (if l = k then f k else g l) = g l
    rw [if_neg hne])
  simp only [if_neg hjk, if_pos] at h1 h2
  rw [h1, h2]; omega
theorem sumI_mul {C : Nat} (f : Nat → Int) (b : Int) : sumI C (fun l => b * f l) = b * sumI C f := by
  induction C with
  | zero => simp [sumI]
  | succ c ih => simp only [sumI]; rw [ih, Int.mul_add]
theorem sumI_zero {C : Nat} : sumI C (fun _ => 0) = 0 := by
  induction C with
  | zero => rfl
  | succ c ih => rw [sumI, ih]; rfl
theorem sumI_single {C j : Nat} {f : Nat → Int} (hj : j < C) (h : ∀ l, l < C → l ≠ j → f l = 0) : sumI C f = f j := by
  have := sumI_one (f := f) (g := fun _ => 0) hj h
  rw [sumI_zero] at this
  omega
theorem sumI_plus {C : Nat} (f g : Nat → Int) : sumI C (fun l => f l + g l) = sumI C f + sumI C g := by
  induction C with
  | zero => simp [sumI]
  | succ c ih => simp only [sumI]; rw [ih]; omega
theorem sumI_swap (n r : Nat) (F : Nat → Nat → Int) : sumI n (fun i => sumI r (fun k => F i k)) = sumI r (fun k => sumI n (fun i => F i k)) := by
  induction n with
  | zero => simp only [sumI]; rw [sumI_zero]
  | succ n ih => simp only [sumI]; rw [ih, sumI_plus]
end Go.Proofs.YteliflcbegcdlaaGreatDoor

namespace Go.Proofs.YteliflcbegcdlaaGreatDoor
set_option linter.unusedVariables false
def skp (k l : Nat) : Nat := if l < k then l else l + 1
def sgn (k : Nat) : Int := if k % 2 = 0 then 1 else -1
theorem sgn_succ (k : Nat) : sgn (k + 1) = - sgn k := by
  unfold sgn
  by_cases h : k % 2 = 0
  · rw [if_pos h, if_neg (by omega)]
  · rw [if_neg h, if_pos (by omega)]; rfl
/-- the determinant of the first rows of f, as many as there are columns -/
def dt : List Nat → (Nat → Nat → Int) → Int
  | [], _ => 1
  | j :: J, f => sumI (J.length + 1) (fun k => sgn k * f k j * dt J (fun l => f (skp k l)))
/-- row k becomes u -/
def fup (f : Nat → Nat → Int) (k : Nat) (u : Nat → Int) : Nat → Nat → Int := fun l => if l = k then u else f l
theorem dt_congr : ∀ {J : List Nat} {f g : Nat → Nat → Int}, (∀ l, l < J.length → ∀ j ∈ J, f l j = g l j) → dt J f = dt J g
  | [], f, g, _ => rfl
  | j :: J, f, g, h => by
    rw [dt, dt]
    refine sumI_congr (fun k hk => ?_)
    rw [h k (by simpa using hk) j (by simp), dt_congr (J := J) (f := fun l => f (skp k l)) (g := fun l => g (skp k l)) (fun l hl i hi => h (skp k l) (by unfold skp; simp only [List.length_cons]; split <;> omega) i (by simp [hi]))]
theorem fup_skp_same (f : Nat → Nat → Int) (k : Nat) (u : Nat → Int) : (fun l => fup f k u (skp k l)) = fun l => f (skp k l) := by
  funext l
  unfold fup
  rw [if_neg (by unfold skp; split <;> omega)]
/-- where row k has gone when row l is struck -/
def usk (l k : Nat) : Nat := if k < l then k else k - 1
theorem fup_skp_ne (f : Nat → Nat → Int) {k l : Nat} (h : l ≠ k) (u : Nat → Int) : (fun i => fup f k u (skp l i)) = fup (fun i => f (skp l i)) (usk l k) u := by
  funext i
  show (if skp l i = k then u else f (skp l i)) = if i = usk l k then u else f (skp l i)
  have e : (skp l i = k) = (i = usk l k) := by
    unfold skp usk
    apply propext
    split <;> split <;> omega
  simp only [e]
theorem sumI_add {C : Nat} (f g : Nat → Int) (c : Int) : sumI C (fun l => f l + c * g l) = sumI C f + c * sumI C g := by
  induction C with
  | zero => simp [sumI]
  | succ n ih => simp only [sumI]; rw [ih, Int.mul_add]; omega
/-- linear in each row -/
theorem dt_lin : ∀ {J : List Nat} {f : Nat → Nat → Int} {k : Nat} (u v : Nat → Int) (c : Int), k < J.length → dt J (fup f k (fun j => u j + c * v j)) = dt J (fup f k u) + c * dt J (fup f k v)
  | [], f, k, u, v, c, h => by simp at h
  | j :: J, f, k, u, v, c, h => by
    rw [dt, dt, dt, ← sumI_add]
    refine sumI_congr (fun l hl => ?_)
    show sgn l * fup f k (fun j => u j + c * v j) l j * dt J (fun i => fup f k (fun j => u j + c * v j) (skp l i)) = sgn l * fup f k u l j * dt J (fun i => fup f k u (skp l i)) + c * (sgn l * fup f k v l j * dt J (fun i => fup f k v (skp l i)))
    by_cases e : l = k
    · subst e
      rw [fup_skp_same, fup_skp_same, fup_skp_same]
      simp only [fup, if_pos]
      generalize dt J (fun i => f (skp l i)) = d
      rw [Int.mul_add, Int.add_mul, Int.mul_left_comm (sgn l) c, Int.mul_assoc c]
    · have hk : usk l k < J.length := by unfold usk; simp only [List.length_cons] at h hl; split <;> omega
      rw [fup_skp_ne f e, fup_skp_ne f e, fup_skp_ne f e, dt_lin u v c hk]
      simp only [fup, if_neg e]
      generalize sgn l * f l j = s
      rw [Int.mul_add, Int.mul_left_comm]
theorem dt_zero {J : List Nat} {f : Nat → Nat → Int} {k : Nat} (h : k < J.length) : dt J (fup f k (fun _ => 0)) = 0 := by
  have h1 := dt_lin (f := f) (fun _ => 0) (fun _ => 0) (-1) h
  have h2 : (fun j : Nat => (0 : Int) + -1 * 0) = fun _ => 0 := by funext; rfl
  rw [h2] at h1
  omega
theorem dt_mul {J : List Nat} {f : Nat → Nat → Int} {k : Nat} (v : Nat → Int) (c : Int) (h : k < J.length) : dt J (fup f k (fun j => c * v j)) = c * dt J (fup f k v) := by
  have h1 := dt_lin (f := f) (fun _ => 0) v c h
  have h2 : (fun j : Nat => (0 : Int) + c * v j) = fun j => c * v j := by funext; simp
  rw [h2, dt_zero h] at h1
  omega
/-- two neighbours that are alike -/
theorem dt_adj : ∀ {J : List Nat} {f : Nat → Nat → Int} {k : Nat}, k + 1 < J.length → (∀ j ∈ J, f k j = f (k + 1) j) → dt J f = 0
  | [], f, k, h, _ => by simp at h
  | j :: J, f, k, h, he => by
    simp only [List.length_cons] at h
    rw [dt]
    have h0 := sumI_two (C := J.length + 1) (j := k) (k := k + 1) (f := fun l => sgn l * f l j * dt J (fun i => f (skp l i))) (g := fun _ => 0) (by omega) (by omega) (by omega) (fun l hl h1 h2 => by
      show sgn l * f l j * dt J (fun i => f (skp l i)) = 0
      have hz : dt J (fun i => f (skp l i)) = 0 := by
        by_cases q : l < k
        · refine dt_adj (J := J) (k := k - 1) (by omega) (fun i hi => ?_)
          show f (skp l (k - 1)) i = f (skp l (k - 1 + 1)) i
          unfold skp
          rw [if_neg (by omega), if_neg (by omega), show k - 1 + 1 = k by omega]
          exact he i (by simp [hi])
        · refine dt_adj (J := J) (k := k) (by omega) (fun i hi => ?_)
          show f (skp l k) i = f (skp l (k + 1)) i
          unfold skp
          rw [if_pos (by omega), if_pos (by omega)]
          exact he i (by simp [hi])
      rw [hz, Int.mul_zero])
    rw [h0, sumI_zero]
    have e1 : dt J (fun i => f (skp (k + 1) i)) = dt J (fun i => f (skp k i)) := dt_congr (fun l hl i hi => by
      show f (skp (k + 1) l) i = f (skp k l) i
      unfold skp
      by_cases q : l < k
      · rw [if_pos q, if_pos (by omega)]
      · by_cases q2 : l = k
        · subst q2
          rw [if_pos (by omega), if_neg (by omega)]
          exact he i (by simp [hi])
        · rw [if_neg (by omega), if_neg (by omega)])
    show 0 + (sgn k * f k j * dt J (fun i => f (skp k i)) - 0) + (sgn (k + 1) * f (k + 1) j * dt J (fun i => f (skp (k + 1) i)) - 0) = 0
    rw [e1, sgn_succ, ← he j (by simp), Int.neg_mul, Int.neg_mul]
    omega
theorem fup_self (f : Nat → Nat → Int) (k : Nat) : fup f k (f k) = f := by
  funext l; unfold fup; split
  · next e => rw [e]
  · rfl
theorem fup_comm (f : Nat → Nat → Int) {k l : Nat} (h : k ≠ l) (u v : Nat → Int) : fup (fup f k u) l v = fup (fup f l v) k u := by
  funext i; unfold fup
  by_cases e1 : i = l
  · by_cases e2 : i = k
    · omega
    · rw [if_pos e1, if_neg e2, if_pos e1]
  · rw [if_neg e1]
    by_cases e2 : i = k
    · rw [if_pos e2, if_pos e2]
    · rw [if_neg e2, if_neg e2, if_neg e1]
/-- neighbours change places -/
theorem dt_swap_adj {J : List Nat} {f : Nat → Nat → Int} {k : Nat} (h : k + 1 < J.length) : dt J (fup (fup f k (f (k + 1))) (k + 1) (f k)) = - dt J f := by
  have hk : k < J.length := by omega
  have hne : k ≠ k + 1 := by omega
  generalize hu : f k = u
  generalize hv : f (k + 1) = v
  have z : dt J (fup (fup f k (fun j => u j + 1 * v j)) (k + 1) (fun j => u j + 1 * v j)) = 0 := dt_adj h (fun j _ => by
    simp only [fup, if_neg hne, if_pos])
  have zu : dt J (fup (fup f k u) (k + 1) u) = 0 := dt_adj h (fun j _ => by simp only [fup, if_neg hne, if_pos])
  have zv : dt J (fup (fup f k v) (k + 1) v) = 0 := dt_adj h (fun j _ => by simp only [fup, if_neg hne, if_pos])
  rw [dt_lin u v 1 h, fup_comm f hne, dt_lin u v 1 hk, fup_comm f hne (fun j => u j + 1 * v j), dt_lin u v 1 hk, fup_comm f hne.symm, fup_comm f hne.symm, fup_comm f hne.symm, fup_comm f hne.symm] at z
  rw [zu, zv] at z
  have e : fup (fup f k u) (k + 1) v = f := by rw [← hu, ← hv, fup_self, fup_self]
  rw [e] at z
  omega
/-- two rows that are alike -/
theorem dt_same : ∀ (d : Nat) {J : List Nat} {f : Nat → Nat → Int} {a : Nat}, a + 1 + d < J.length → (∀ j, f a j = f (a + 1 + d) j) → dt J f = 0
  | 0, J, f, a, h, he => dt_adj h (fun j _ => he j)
  | d + 1, J, f, a, h, he => by
    have hs := dt_swap_adj (J := J) (f := f) (k := a + 1 + d) (by omega)
    have hz := dt_same d (J := J) (f := fup (fup f (a + 1 + d) (f (a + 1 + d + 1))) (a + 1 + d + 1) (f (a + 1 + d))) (a := a) (by omega) (fun j => by
      simp only [fup]
      rw [if_neg (by omega), if_neg (by omega), if_neg (by omega), if_pos True.intro]
      exact he j)
    rw [hz] at hs
    omega
theorem dt_alike {J : List Nat} {f : Nat → Nat → Int} {a b : Nat} (ha : a < J.length) (hb : b < J.length) (hab : a ≠ b) (he : ∀ j, f a j = f b j) : dt J f = 0 := by
  rcases Nat.lt_or_ge a b with q | q
  · exact dt_same (b - (a + 1)) (a := a) (by omega) (fun j => by rw [show a + 1 + (b - (a + 1)) = b by omega]; exact he j)
  · exact dt_same (a - (b + 1)) (a := b) (by omega) (fun j => by rw [show b + 1 + (a - (b + 1)) = a by omega]; exact (he j).symm)
/-- a multiple of another row is added -/
theorem dt_addmul {J : List Nat} {f : Nat → Nat → Int} {a b : Nat} (ha : a < J.length) (hb : b < J.length) (hab : a ≠ b) (c : Int) : dt J (fup f b (fun j => f b j + c * f a j)) = dt J f := by
  rw [dt_lin (f b) (f a) c hb, fup_self]
  have : dt J (fup f b (f a)) = 0 := dt_alike ha hb hab (fun j => by simp only [fup, if_neg hab, if_pos])
  rw [this]; omega
end Go.Proofs.YteliflcbegcdlaaGreatDoor

namespace Go.Proofs.YteliflcbegcdlaaGreatDoor
set_option linter.unusedVariables false
/-- columns that are renamed -/
theorem dt_map (τ : Nat → Nat) : ∀ (J : List Nat) (f : Nat → Nat → Int), dt (J.map τ) f = dt J (fun l j => f l (τ j))
  | [], f => rfl
  | j :: J, f => by
    rw [List.map_cons, dt, dt, List.length_map]
    refine sumI_congr (fun k _ => ?_)
    show sgn k * f k (τ j) * dt (J.map τ) (fun l => f (skp k l)) = sgn k * f k (τ j) * dt J (fun l j => f (skp k l) (τ j))
    rw [dt_map τ J]
end Go.Proofs.YteliflcbegcdlaaGreatDoor

namespace Go.Proofs.YteliflcbegcdlaaGreatDoor
set_option linter.unusedVariables false
theorem sumI_frontT (f : Nat → Int) : ∀ c : Nat, sumI (c + 1) f = f 0 + sumI c (fun k => f (k + 1))
  | 0 => by simp [sumI]
  | c + 1 => by rw [sumI, sumI_frontT f c, sumI]; omega
theorem skp_s0 (k : Nat) : skp (k + 1) 0 = 0 := by simp [skp]
theorem skp_s1 (k l : Nat) : skp (k + 1) (l + 1) = skp k l + 1 := by unfold skp; split <;> split <;> omega
/-- Laplace by the first row -/
theorem dt_row : ∀ (J : List Nat) (f : Nat → Nat → Int), J ≠ [] → dt J f = sumI J.length (fun p => sgn p * f 0 (J[p]?.getD 0) * dt (J.eraseIdx p) (fun l => f (l + 1)))
  | [], f, h => absurd rfl h
  | j :: J, f, _ => by
    have e1 : ∀ k, k < J.length → sgn (k + 1) * f (k + 1) j * dt J (fun l => f (skp (k + 1) l)) = sumI J.length (fun p => -(sgn k * sgn p * f (k + 1) j * f 0 (J[p]?.getD 0) * dt (J.eraseIdx p) (fun l => f (skp k l + 1)))) := by
      intro k hk
      rw [dt_row J _ (fun e => by rw [e] at hk; exact absurd hk (by simp)), ← sumI_mul]
      refine sumI_congr fun p hp => ?_
      simp only [skp_s0, skp_s1, sgn_succ]
      grind
    have e2 : ∀ p, p < J.length → sgn (p + 1) * f 0 ((j :: J)[p + 1]?.getD 0) * dt ((j :: J).eraseIdx (p + 1)) (fun l => f (l + 1)) = sumI J.length (fun k => -(sgn k * sgn p * f (k + 1) j * f 0 (J[p]?.getD 0) * dt (J.eraseIdx p) (fun l => f (skp k l + 1)))) := by
      intro p hp
      rw [List.eraseIdx_cons_succ, dt, List.length_eraseIdx_of_lt hp, show J.length - 1 + 1 = J.length by omega, ← sumI_mul]
      refine sumI_congr fun k hk => ?_
      rw [sgn_succ, List.getElem?_cons_succ]
      grind
    rw [dt, List.length_cons, sumI_frontT, sumI_frontT, sumI_congr e1, sumI_congr e2, sumI_swap]
    rfl
theorem dt_tr : ∀ (n : Nat) (J L : List Nat) (f : Nat → Nat → Int), J.length = n → L.length = n → dt J (fun l j => f (L[l]?.getD 0) j) = dt L (fun l j => f j (J[l]?.getD 0))
  | 0, J, L, f, hJ, hL => by
    rw [List.eq_nil_of_length_eq_zero hJ, List.eq_nil_of_length_eq_zero hL]; rfl
  | n + 1, [], L, f, hJ, hL => by simp at hJ
  | n + 1, j :: J, L, f, hJ, hL => by
    rw [dt_row L _ (fun e => by rw [e] at hL; simp at hL), dt, hL]
    rw [List.length_cons] at hJ
    rw [hJ]
    refine sumI_congr fun k hk => ?_
    have h1 : dt J (fun l c => f (L[skp k l]?.getD 0) c) = dt (L.eraseIdx k) (fun l c => f c (J[l]?.getD 0)) := by
      rw [← dt_tr n J (L.eraseIdx k) f (by omega) (by rw [List.length_eraseIdx_of_lt (by omega)]; omega)]
      refine dt_congr fun l hl c hc => ?_
      rw [List.getElem?_eraseIdx]
      unfold skp
      split <;> rfl
    exact congrArg (sgn k * f (L[k]?.getD 0) j * ·) h1
theorem dt_trans (n : Nat) (f : Nat → Nat → Int) : dt (List.range' 0 n) f = dt (List.range' 0 n) (fun l j => f j l) := by
  have hg : ∀ l, l < n → (List.range' 0 n)[l]?.getD 0 = l := fun l hl => by rw [List.getElem?_range' hl]; simp
  have h := dt_tr n (List.range' 0 n) (List.range' 0 n) f (by simp) (by simp)
  rw [dt_congr (g := f) (fun l hl j hj => by rw [hg l (by simpa using hl)])] at h
  rw [h]
  exact dt_congr fun l hl j hj => by rw [hg l (by simpa using hl)]
end Go.Proofs.YteliflcbegcdlaaGreatDoor

namespace Go.Proofs.YteliflcbegcdlaaGreatDoor
open Go.RowKit
set_option linter.unusedVariables false
/-! ### determinants -/
def prE (e : Nat → Int) : List Nat → Int
  | [] => 1
  | j :: J => e j * prE e J
theorem prE_sq {e : Nat → Int} (h : ∀ j, e j * e j = 1) : ∀ J, prE e J * prE e J = 1
  | [] => rfl
  | j :: J => by
    have := prE_sq h J
    have := h j
    simp only [prE]
    grind
theorem dt_cols (e : Nat → Int) : ∀ (J : List Nat) (f : Nat → Nat → Int), dt J (fun l j => f l j * e j) = prE e J * dt J f
  | [], f => rfl
  | j :: J, f => by
    rw [dt, dt, prE, ← sumI_mul]
    refine sumI_congr fun k hk => ?_
    have := dt_cols e J (fun l => f (skp k l))
    show sgn k * (f k j * e j) * dt J (fun l i => f (skp k l) i * e i) = e j * prE e J * (sgn k * f k j * dt J (fun l => f (skp k l)))
    rw [this]
    grind
/-- row k comes first -/
def upF (f : Nat → Nat → Int) (k : Nat) : Nat → Nat → Int := fun l => if l = 0 then f k else if l ≤ k then f (l - 1) else f l
theorem dt_upF {J : List Nat} : ∀ (k : Nat) (f : Nat → Nat → Int), k < J.length → dt J (upF f k) = sgn k * dt J f
  | 0, f, h => by
    have : upF f 0 = f := by
      funext l
      unfold upF
      by_cases e : l = 0
      · rw [if_pos e, e]
      · rw [if_neg e, if_neg (by omega)]
    rw [this]; simp [sgn]
  | k + 1, f, h => by
    have e : upF f (k + 1) = upF (fup (fup f k (f (k + 1))) (k + 1) (f k)) k := by
      funext l
      unfold upF fup
      by_cases e0 : l = 0
      · subst e0; simp
      · rw [if_neg e0, if_neg e0]
        by_cases e1 : l = k + 1
        · subst e1; rw [if_pos (Nat.le_refl _), if_neg (by omega), if_pos rfl]; rfl
        · by_cases e2 : l ≤ k
          · rw [if_pos (by omega), if_pos e2, if_neg (by omega), if_neg (by omega)]
          · rw [if_neg (by omega), if_neg e2, if_neg e1, if_neg (by omega)]
    rw [e, dt_upF k _ (by omega), dt_swap_adj h, sgn_succ]
    grind
theorem sgn_sq (k : Nat) : sgn k * sgn k = 1 := by unfold sgn; split <;> rfl
theorem erase_range (n j0 : Nat) (h : j0 < n) : (List.range' 0 n).eraseIdx j0 = (List.range' 0 (n - 1)).map (skp j0) := by
  apply List.ext_getElem
  · rw [List.length_eraseIdx, List.length_map, List.length_range', List.length_range', if_pos h]
  · intro i h1 h2
    rw [List.getElem_eraseIdx, List.getElem_map, List.getElem_range']
    unfold skp
    simp only [List.getElem_range']
    split <;> split <;> omega
/-! ### the matrix of a grid -/
def pw1 (m : Int) : Int := if m % 2 = 0 then 1 else -1
theorem pw1_add (a b : Int) : pw1 (a + b) = pw1 a * pw1 b := by
  unfold pw1
  by_cases h1 : a % 2 = 0 <;> by_cases h2 : b % 2 = 0 <;> simp only [h1, h2, if_true, if_false]
  · rw [if_pos (by omega)]; rfl
  · rw [if_neg (by omega)]; rfl
  · rw [if_neg (by omega)]; rfl
  · rw [if_pos (by omega)]; rfl
theorem pw1_sq (a : Int) : pw1 a * pw1 a = 1 := by unfold pw1; split <;> rfl
def ib (x : Int) (j : Nat) : Int := if x < j then 1 else 0
/-- the marks in the first l columns and j rows -/
def qm (X : List Int) (l j : Nat) : Int := sumI l fun k => ib (gt X k) j
def wS (X O : List Int) (l j : Nat) : Int := pw1 (qm X l j + qm O l j)
def DG (g : Gd) : Int := dt (List.range' 0 g.1.length) (wS g.1 g.2)
theorem gt_tr_iff {X : List Int} (h : Pm X) {k r : Nat} (hk : k < X.length) (hr : r < X.length) : gt X k = r ↔ gt (tr X) r = k := by
  constructor
  · intro e
    have := gt_tr h hk
    rw [e, Int.toNat_natCast] at this
    exact this
  · intro e
    have := gt_tr (tr_pm h) (k := r) (by rw [tr_length]; exact hr)
    rw [e, Int.toNat_natCast, tr_tr h] at this
    exact this
theorem ib_sum {x : Int} (h : 0 ≤ x) : ∀ j : Nat, ib x j = sumI j fun r => if x = (r : Int) then 1 else 0
  | 0 => by unfold ib; rw [if_neg (by omega)]; rfl
  | j + 1 => by
    rw [sumI, ← ib_sum h j]
    unfold ib
    by_cases e : x = (j : Int)
    · rw [if_pos (by omega), if_neg (by omega), if_pos e]; rfl
    · rw [if_neg e]
      by_cases e2 : x < (j : Int)
      · rw [if_pos (by omega), if_pos e2]; rfl
      · rw [if_neg (by omega), if_neg e2]; rfl
theorem qm_tr {X : List Int} (h : Pm X) {l j : Nat} (hl : l ≤ X.length) (hj : j ≤ X.length) : qm (tr X) j l = qm X l j := by
  unfold qm
  have e1 : sumI j (fun k => ib (gt (tr X) k) l) = sumI j fun r => sumI l fun k => if gt (tr X) r = (k : Int) then 1 else 0 :=
    sumI_congr fun r hr => ib_sum ((tr_pm h).gt_rng (by rw [tr_length]; omega)).1 l
  have e2 : sumI l (fun k => ib (gt X k) j) = sumI l fun k => sumI j fun r => if gt X k = (r : Int) then 1 else 0 :=
    sumI_congr fun k hk => ib_sum (h.gt_rng (by omega)).1 j
  rw [e1, e2, sumI_swap]
  refine sumI_congr fun k hk => sumI_congr fun r hr => ?_
  have := gt_tr_iff h (k := k) (r := r) (by omega) (by omega)
  by_cases e : gt X k = (r : Int)
  · rw [if_pos e, if_pos (this.1 e)]
  · rw [if_neg e, if_neg (fun h => e (this.2 h))]
theorem sumI_ones (c : Nat) : sumI c (fun _ => 1) = c := by
  induction c with
  | zero => rfl
  | succ c ih => rw [sumI, ih]; omega
theorem qm_full {X : List Int} (h : Pm X) {j : Nat} (hj : j ≤ X.length) : qm X X.length j = j := by
  rw [← qm_tr h (Nat.le_refl _) hj]
  unfold qm
  rw [← sumI_ones j]
  refine sumI_congr fun k hk => ?_
  have := (tr_pm h).gt_rng (i := k) (by rw [tr_length]; omega)
  rw [tr_length] at this
  unfold ib
  rw [if_pos (by omega)]
theorem wS_zero (X O : List Int) (j : Nat) : wS X O 0 j = 1 := rfl
theorem wS_full {g : Gd} (h : VdG g) {j : Nat} (hj : j ≤ g.1.length) : wS g.1 g.2 g.1.length j = 1 := by
  have hl := h.len
  unfold wS
  rw [qm_full h.pX hj]
  have := qm_full h.pO (j := j) (by omega)
  rw [← hl] at this
  rw [this]
  unfold pw1
  rw [if_pos (by omega)]
/-- the sign of a column -/
def eS (x o : Int) (j : Nat) : Int := pw1 (ib x j + ib o j)
theorem eS_sq (x o : Int) (j : Nat) : eS x o j * eS x o j = 1 := pw1_sq _
theorem wS_succ (X O : List Int) (l j : Nat) : wS X O (l + 1) j = wS X O l j * eS (gt X l) (gt O l) j := by
  unfold wS eS qm
  rw [sumI, sumI, ← pw1_add]
  congr 1; omega
theorem DG_tr {g : Gd} (h : VdG g) : DG (tr g.1, tr g.2) = DG g := by
  have hl := h.len
  unfold DG
  simp only [tr_length]
  rw [dt_trans]
  refine dt_congr fun l hlt j hj => ?_
  rw [List.length_range'] at hlt
  have hj2 := (List.mem_range'_1.1 hj).2
  unfold wS
  rw [qm_tr h.pX (by omega) (by omega), qm_tr h.pO (by omega) (by omega)]
theorem DG_vw {g : Gd} (h : VdG g) (r : Bool) : DG (vw r g.1, vw r g.2) = DG g := by
  cases r
  · rfl
  · exact DG_tr h
/-! ### translations -/
theorem qm_rot {X : List Int} {l j : Nat} (hl : l + 1 ≤ X.length) : qm X (l + 1) j = qm (rotL X) l j + ib (gt X 0) j := by
  unfold qm
  rw [sumI_frontT]
  have : sumI l (fun k => ib (gt (rotL X) k) j) = sumI l (fun k => ib (gt X (k + 1)) j) := by
    refine sumI_congr fun k hk => ?_
    rw [gt_rot X (by omega), Nat.mod_eq_of_lt (by omega)]
  rw [this]; omega
theorem DG_rot {g : Gd} (h : VdG g) : DG (rotL g.1, rotL g.2) * DG (rotL g.1, rotL g.2) = DG g * DG g := by
  have hl := h.len
  have h2 := h.two
  have key : ∀ l j, l + 1 ≤ g.1.length → wS g.1 g.2 (l + 1) j = wS (rotL g.1) (rotL g.2) l j * eS (gt g.1 0) (gt g.2 0) j := fun l j hlt => by
    unfold wS eS
    rw [← pw1_add, qm_rot hlt, qm_rot (by omega)]
    congr 1; omega
  have hup : dt (List.range' 0 g.1.length) (upF (wS (rotL g.1) (rotL g.2)) (g.1.length - 1)) = dt (List.range' 0 g.1.length) (fun l j => wS g.1 g.2 l j * eS (gt g.1 0) (gt g.2 0) j) := by
    refine dt_congr fun l hlt j hj => ?_
    rw [List.length_range'] at hlt
    have hj2 := (List.mem_range'_1.1 hj).2
    have hsq := eS_sq (gt g.1 0) (gt g.2 0) j
    unfold upF
    by_cases e0 : l = 0
    · subst e0
      rw [if_pos rfl, wS_zero]
      have := key (g.1.length - 1) j (by omega)
      rw [Nat.sub_add_cancel (by omega), wS_full h (by omega)] at this
      grind
    · rw [if_neg e0, if_pos (by omega)]
      have := key (l - 1) j (by omega)
      rw [Nat.sub_add_cancel (by omega)] at this
      grind
  rw [dt_upF _ _ (by rw [List.length_range']; omega), dt_cols] at hup
  have h1 := sgn_sq (g.1.length - 1)
  have h3 := prE_sq (eS_sq (gt g.1 0) (gt g.2 0)) (List.range' 0 g.1.length)
  have e1 : DG (rotL g.1, rotL g.2) = dt (List.range' 0 g.1.length) (wS (rotL g.1) (rotL g.2)) := by unfold DG; simp only [rotL_length]
  have e2 : DG g = dt (List.range' 0 g.1.length) (wS g.1 g.2) := rfl
  rw [e1, e2]
  generalize dt (List.range' 0 g.1.length) (wS (rotL g.1) (rotL g.2)) = a at *
  generalize dt (List.range' 0 g.1.length) (wS g.1 g.2) = b at *
  generalize prE (eS (gt g.1 0) (gt g.2 0)) (List.range' 0 g.1.length) = c at *
  generalize sgn (g.1.length - 1) = d at *
  have : (d * a) * (d * a) = (c * b) * (c * b) := by rw [hup]
  grind
/-! ### commutations -/
theorem qm_swap {X : List Int} {a l j : Nat} (ha : a + 1 < X.length) (hl : l ≤ X.length) (hne : l ≠ a + 1) : qm (swapL X a) l j = qm X l j := by
  unfold qm
  by_cases h : l ≤ a
  · refine sumI_congr fun k hk => ?_
    rw [gt_swap2 ha (by omega), if_neg (by omega), if_neg (by omega)]
  · have := sumI_two (C := l) (j := a) (k := a + 1) (f := fun k => ib (gt (swapL X a) k) j) (g := fun k => ib (gt X k) j) (by omega) (by omega) (by omega) (fun k hk h1 h2 => by rw [gt_swap2 ha (by omega), if_neg h1, if_neg h2])
    rw [this, gt_swap2 ha (by omega), gt_swap2 ha (by omega), if_pos rfl, if_neg (by omega), if_pos rfl]
    omega
theorem qm_swap_at {X : List Int} {a j : Nat} (ha : a + 1 < X.length) : qm (swapL X a) (a + 1) j = qm X a j + ib (gt X (a + 1)) j := by
  have := qm_swap (j := j) ha (show a ≤ X.length by omega) (by omega)
  unfold qm at *
  rw [sumI, this, gt_swap2 ha (by omega), if_pos rfl]
theorem eS_comm {x o x2 o2 : Int} (h : commB x o x2 o2 = true) : ∃ α β γ : Int, α * α = 1 ∧ ∀ j : Nat, eS x2 o2 j = α * eS x o j + β + γ * (eS x o j * eS x2 o2 j) := by
  unfold commB commIv at h
  split at h
  · cases h
  next hne =>
  have hh := of_decide_eq_true h
  clear h
  have ev : ∀ (x o : Int) (j : Nat), eS x o j = if minG x o < j ∧ (j : Int) ≤ maxG x o then -1 else 1 := fun x o j => by
    unfold eS ib minG maxG pw1
    by_cases h1 : x < (j : Int) <;> by_cases h2 : o < (j : Int) <;> simp only [h1, h2, if_true, if_false] <;> (repeat' split) <;> omega
  have hmm : ∀ x o : Int, minG x o ≤ maxG x o := fun x o => by unfold minG maxG; split <;> split <;> omega
  have m1 := hmm x o
  have m2 := hmm x2 o2
  simp only [ev]
  generalize minG x o = a at *
  generalize maxG x o = b at *
  generalize minG x2 o2 = c at *
  generalize maxG x2 o2 = d at *
  rcases hh with h | h | h | h
  · refine ⟨-1, 1, 1, rfl, fun j => ?_⟩
    by_cases q1 : a < (j : Int) ∧ (j : Int) ≤ b
    · rw [if_pos q1, if_neg (by omega)]; rfl
    · rw [if_neg q1]; split <;> rfl
  · refine ⟨-1, 1, 1, rfl, fun j => ?_⟩
    by_cases q1 : a < (j : Int) ∧ (j : Int) ≤ b
    · rw [if_pos q1, if_neg (by omega)]; rfl
    · rw [if_neg q1]; split <;> rfl
  · refine ⟨1, 1, -1, rfl, fun j => ?_⟩
    by_cases q1 : c < (j : Int) ∧ (j : Int) ≤ d
    · rw [if_pos q1, if_pos (by omega)]; rfl
    · rw [if_neg q1]; split <;> rfl
  · refine ⟨1, -1, 1, rfl, fun j => ?_⟩
    by_cases q1 : a < (j : Int) ∧ (j : Int) ≤ b
    · rw [if_pos q1, if_pos (by omega)]; rfl
    · rw [if_neg q1]; split <;> rfl
theorem DG_swap {g : Gd} {a : Nat} (h : VdG g) (ha : a + 1 < g.1.length) (hc : commB (gt g.1 a) (gt g.2 a) (gt g.1 (a + 1)) (gt g.2 (a + 1)) = true) : DG (swapL g.1 a, swapL g.2 a) * DG (swapL g.1 a, swapL g.2 a) = DG g * DG g := by
  have hl := h.len
  have h2 := h.two
  obtain ⟨α, β, γ, hα, he⟩ := eS_comm hc
  obtain ⟨f, hf⟩ : ∃ f, f = wS g.1 g.2 := ⟨_, rfl⟩
  obtain ⟨b, hb⟩ : ∃ b, b = if a + 2 < g.1.length then a + 2 else 0 := ⟨_, rfl⟩
  have hbl : b < g.1.length := by rw [hb]; split <;> omega
  have hbn : b ≠ a + 1 := by rw [hb]; split <;> omega
  have e1 : DG (swapL g.1 a, swapL g.2 a) = dt (List.range' 0 g.1.length) (fup f (a + 1) fun j => (α * f (a + 1) j + β * f a j) + γ * f b j) := by
    unfold DG
    simp only [swapL_length]
    refine dt_congr fun l hlt j hj => ?_
    rw [List.length_range'] at hlt
    have hj2 := (List.mem_range'_1.1 hj).2
    unfold fup
    by_cases e : l = a + 1
    · subst e
      rw [if_pos rfl]
      have q1 : wS (swapL g.1 a) (swapL g.2 a) (a + 1) j = f a j * eS (gt g.1 (a + 1)) (gt g.2 (a + 1)) j := by
        rw [hf]
        unfold wS eS
        rw [qm_swap_at ha, qm_swap_at (by omega), ← pw1_add]
        congr 1; omega
      have q2 : f (a + 1) j = f a j * eS (gt g.1 a) (gt g.2 a) j := by rw [hf]; exact wS_succ _ _ _ _
      have q3 : f b j = f (a + 1) j * eS (gt g.1 (a + 1)) (gt g.2 (a + 1)) j := by
        rw [hf, ← wS_succ, hb]
        split
        · rfl
        · rw [wS_zero, show a + 1 + 1 = g.1.length by omega, wS_full h (by omega)]
      have q4 := he j
      rw [q1, q3, q2]
      generalize eS (gt g.1 a) (gt g.2 a) j = u at *
      generalize eS (gt g.1 (a + 1)) (gt g.2 (a + 1)) j = v at *
      generalize f a j = t at *
      rw [show α * (t * u) + β * t + γ * (t * u * v) = t * (α * u + β + γ * (u * v)) by grind, ← q4]
    · rw [if_neg e, hf]
      unfold wS
      rw [qm_swap ha (by omega) e, qm_swap (by omega) (by omega) e]
  have hk : a + 1 < (List.range' 0 g.1.length).length := by rw [List.length_range']; exact ha
  have z1 : dt (List.range' 0 g.1.length) (fup f (a + 1) (f b)) = 0 := dt_alike (a := a + 1) (b := b) hk (by rw [List.length_range']; exact hbl) (Ne.symm hbn) (fun j => by unfold fup; rw [if_pos rfl, if_neg hbn])
  have z2 : dt (List.range' 0 g.1.length) (fup f (a + 1) (f a)) = 0 := dt_alike (a := a + 1) (b := a) hk (by rw [List.length_range']; omega) (by omega) (fun j => by unfold fup; rw [if_pos rfl, if_neg (by omega)])
  have e2 : DG (swapL g.1 a, swapL g.2 a) = α * DG g := by
    rw [e1, dt_lin (fun j => α * f (a + 1) j + β * f a j) (f b) γ hk, z1, dt_lin (fun j => α * f (a + 1) j) (f a) β hk, z2, dt_mul (f (a + 1)) α hk, fup_self, hf]
    show α * DG g + β * 0 + γ * 0 = α * DG g
    omega
  rw [e2]
  grind
/-! ### a column and a row are removed -/
theorem ib_lowr (low : Nat) (x : Int) (j : Nat) : ib (lowr low x) j = ib x (skp (low + 1) j) := by
  unfold ib lowr skp
  (repeat' split) <;> omega
theorem sumI_skip (h : Nat → Int) (a : Nat) : ∀ l, a ≤ l → sumI (l + 1) h = sumI l (fun k => h (if k < a then k else k + 1)) + h a
  | 0, hl => by
    obtain rfl : a = 0 := by omega
    rfl
  | l + 1, hl => by
    by_cases e : a = l + 1
    · subst e
      rw [sumI]
      congr 1
      refine sumI_congr fun k hk => ?_
      rw [if_pos hk]
    · rw [sumI, sumI_skip h a l (by omega)]
      conv => rhs; rw [sumI]
      rw [if_neg (by omega)]
      omega
theorem qm_del_low {X : List Int} {a low l j : Nat} (ha : a < X.length) (hl : l ≤ a) : qm (delL X a low) l j = qm X l (skp (low + 1) j) := by
  unfold qm
  refine sumI_congr fun k hk => ?_
  rw [gt_del2 ha (by omega), if_pos (by omega), ib_lowr]
theorem qm_del_high {X : List Int} {a low l j : Nat} (ha : a < X.length) (hl : a ≤ l) (hlt : l + 1 ≤ X.length) : qm X (l + 1) (skp (low + 1) j) = qm (delL X a low) l j + ib (gt X a) (skp (low + 1) j) := by
  unfold qm
  rw [sumI_skip _ a l hl]
  congr 1
  refine sumI_congr fun k hk => ?_
  rw [gt_del2 ha (by omega), ib_lowr]
theorem eS_adj {x o : Int} {low j : Nat} (hA : Adj x o) (hlow : (low : Int) = minG x o) : eS x o j = if j = low + 1 then -1 else 1 := by
  unfold Adj minG at *
  unfold eS ib pw1
  split at hlow <;> by_cases h1 : x < (j : Int) <;> by_cases h2 : o < (j : Int) <;> simp only [h1, h2, if_true, if_false] <;> (repeat' split) <;> omega
theorem DG_del {g : Gd} {a low : Nat} (h : VdG g) (h3 : 3 ≤ g.1.length) (ha : a < g.1.length) (hA : Adj (gt g.1 a) (gt g.2 a)) (hlow : (low : Int) = minG (gt g.1 a) (gt g.2 a)) : DG g * DG g = 4 * (DG (delL g.1 a low, delL g.2 a low) * DG (delL g.1 a low, delL g.2 a low)) := by
  have hl := h.len
  have b1 := h.pX.gt_rng ha
  have b2 := h.pO.gt_rng (show a < g.2.length by omega)
  rw [← hl] at b2
  have hlt : low + 1 < g.1.length := by unfold minG Adj at *; split at hlow <;> omega
  obtain ⟨f, hf⟩ : ∃ f, f = wS g.1 g.2 := ⟨_, rfl⟩
  obtain ⟨ρ, hρ⟩ : ∃ ρ, ρ = if a + 1 < g.1.length then a + 1 else a := ⟨_, rfl⟩
  obtain ⟨τ, hτ⟩ : ∃ τ, τ = if a + 1 < g.1.length then a else 0 := ⟨_, rfl⟩
  have hρl : ρ < g.1.length := by rw [hρ]; split <;> omega
  have hτl : τ < g.1.length := by rw [hτ]; split <;> omega
  have hne : τ ≠ ρ := by rw [hτ, hρ]; split <;> omega
  have he := fun j => eS_adj (j := j) hA hlow
  have hrow : ∀ j, j ≤ g.1.length → f ρ j = f τ j * (if j = low + 1 then -1 else 1) := fun j hj => by
    rw [hf, hρ, hτ]
    split
    · rw [wS_succ, he]
    · have e1 := wS_succ g.1 g.2 a j
      rw [show a + 1 = g.1.length by omega, wS_full h hj, he] at e1
      rw [wS_zero]
      split at e1 <;> omega
  have hJ : (List.range' 0 g.1.length).length = g.1.length := List.length_range'
  have d1 := dt_addmul (J := List.range' 0 g.1.length) (f := f) (a := τ) (b := ρ) (by omega) (by omega) hne (-1)
  have d2 := dt_upF (J := List.range' 0 g.1.length) ρ (fup f ρ fun j => f ρ j + -1 * f τ j) (by omega)
  have hn : List.range' 0 g.1.length ≠ [] := fun e => by rw [e] at hJ; simp at hJ; omega
  have d3 := dt_row (List.range' 0 g.1.length) (upF (fup f ρ fun j => f ρ j + -1 * f τ j) ρ) hn
  rw [hJ] at d3
  have hget : ∀ p, p < g.1.length → (List.range' 0 g.1.length)[p]?.getD 0 = p := fun p hp => by
    rw [List.getElem?_range' (by omega)]; simp
  have hup0 : ∀ j, upF (fup f ρ fun j => f ρ j + -1 * f τ j) ρ 0 j = f ρ j + -1 * f τ j := fun j => by
    unfold upF fup
    rw [if_pos rfl, if_pos rfl]
  have d4 := sumI_single (C := g.1.length) (j := low + 1) (f := fun p => sgn p * upF (fup f ρ fun j => f ρ j + -1 * f τ j) ρ 0 ((List.range' 0 g.1.length)[p]?.getD 0) * dt ((List.range' 0 g.1.length).eraseIdx p) (fun l => upF (fup f ρ fun j => f ρ j + -1 * f τ j) ρ (l + 1))) hlt (fun p hp hne => by
    rw [hget p hp, hup0, hrow p (by omega), if_neg hne]
    rw [show f τ p * 1 + -1 * f τ p = 0 by omega]
    simp)
  rw [d4] at d3
  rw [hget _ hlt, hup0, hrow _ (by omega), if_pos rfl, erase_range _ _ hlt, dt_map] at d3
  have d5 : dt (List.range' 0 (g.1.length - 1)) (fun l j => upF (fup f ρ fun j => f ρ j + -1 * f τ j) ρ (l + 1) (skp (low + 1) j)) = DG (delL g.1 a low, delL g.2 a low) := by
    unfold DG
    simp only [delL_length _ _ _ ha]
    refine dt_congr fun l hlt2 j hj => ?_
    rw [List.length_range'] at hlt2
    have hj2 := (List.mem_range'_1.1 hj).2
    have hskp : upF (fup f ρ fun j => f ρ j + -1 * f τ j) ρ (l + 1) = f (skp ρ l) := by
      unfold upF fup skp
      rw [if_neg (by omega)]
      by_cases e : l + 1 ≤ ρ
      · rw [if_pos e, if_neg (by omega), if_pos (by omega)]; rfl
      · rw [if_neg e, if_neg (by omega), if_neg (by omega)]
    rw [hskp, hf]
    by_cases e : l < ρ
    · have : l ≤ a := by rw [hρ] at e; split at e <;> omega
      rw [show skp ρ l = l by unfold skp; rw [if_pos e]]
      unfold wS
      rw [qm_del_low ha this, qm_del_low (by omega) this]
    · have hr : ρ = a + 1 := by rw [hρ] at e ⊢; split at e <;> split <;> omega
      rw [show skp ρ l = l + 1 by unfold skp; rw [if_neg e]]
      have q := he (skp (low + 1) j)
      rw [if_neg (by unfold skp; split <;> omega)] at q
      unfold eS at q
      unfold wS
      rw [qm_del_high ha (by omega) (by omega), qm_del_high (show a < g.2.length by omega) (by omega) (by omega), show ∀ p q r s : Int, p + q + (r + s) = p + r + (q + s) by intros; omega, pw1_add, q]
      omega
  rw [d5] at d3
  have hs1 := sgn_sq ρ
  have hs2 := sgn_sq (low + 1)
  have hfs : f τ (low + 1) * f τ (low + 1) = 1 := by rw [hf]; exact pw1_sq _
  have hD : DG g = dt (List.range' 0 g.1.length) f := by rw [hf]; rfl
  rw [d1, ← hD] at d2
  rw [d2] at d3
  generalize DG (delL g.1 a low, delL g.2 a low) = y at *
  generalize DG g = x at *
  generalize sgn ρ = s at *
  generalize sgn (low + 1) = t at *
  generalize f τ (low + 1) = u at *
  have h5 : (s * x) * (s * x) = (t * (u * -1 + -1 * u) * y) * (t * (u * -1 + -1 * u) * y) := by rw [d3]
  grind
end Go.Proofs.YteliflcbegcdlaaGreatDoor

namespace Go.Proofs.YteliflcbegcdlaaGreatDoor
open Go.RowKit
set_option linter.unusedVariables false
/-- determinants that are alike -/
def Same2 (g g' : Gd) : Prop := DG g * DG g * 4 ^ g'.1.length = DG g' * DG g' * 4 ^ g.1.length
theorem Same2.symm {g g' : Gd} (h : Same2 g g') : Same2 g' g := Eq.symm h
theorem Same2.trans {a b c : Gd} (h : Same2 a b) (k : Same2 b c) : Same2 a c := by
  unfold Same2 at *
  have hp : (4 : Int) ^ b.1.length ≠ 0 := Int.pow_ne_zero (by decide)
  generalize DG a * DG a = x at *
  generalize DG b * DG b = y at *
  generalize DG c * DG c = z at *
  generalize (4 : Int) ^ a.1.length = p at *
  generalize (4 : Int) ^ b.1.length = q at *
  generalize (4 : Int) ^ c.1.length = r at *
  have : (x * r) * q = (z * p) * q := by
    rw [show x * r * q = (x * q) * r by grind, h, show y * p * r = (y * r) * p by grind, k]
    grind
  exact Int.eq_of_mul_eq_mul_right hp this
theorem Same2.of_eq {g g' : Gd} (hl : g'.1.length = g.1.length) (h : DG g' * DG g' = DG g * DG g) : Same2 g g' := by
  unfold Same2
  rw [hl, h]
theorem Same2.vw {g : Gd} (h : VdG g) (r : Bool) : Same2 g (vw r g.1, vw r g.2) := Same2.of_eq (vw_length _ _) (by rw [DG_vw h])
theorem apply_same3 {X O Y P : List Int} {k a v : Int} {r : Bool} (hk : k ≠ 4) (h : applyM X O k r a v = (0, Y, P)) : Same2 (X, O) (Y, P) := by
  obtain ⟨hv, hr, Y', P', hc, rfl, rfl⟩ := applyM_inv h
  have hw : VdG (vw r X, vw r O) := vw_vd hv
  have hw2 : VdG (Y', P') := by
    have := colsL_vd (a := a.toNat) (v := v.toNat) hw hr.1 (by simp only [vw_length]; have := hr.2.1; omega) (by simp only [vw_length]; have := hr.2.2; omega) (by rw [hc])
    rw [hc] at this
    exact this
  refine (Same2.vw (g := (X, O)) hv r).trans (Same2.trans ?_ (Same2.vw hw2 r))
  obtain ⟨⟨k1, k4⟩, ⟨a0, a1⟩, _⟩ := hr
  have hlv : (vw r X).length = X.length := vw_length _ _
  unfold colsL at hc
  by_cases e1 : k = 1
  · rw [if_pos e1] at hc
    injection hc with _ hc
    injection hc with eY eP
    subst eY; subst eP
    exact Same2.of_eq (rotL_length _) (DG_rot hw)
  rw [if_neg e1] at hc
  by_cases e2 : k = 2
  · rw [if_pos e2] at hc
    split at hc
    · next hcm =>
      injection hc with _ hc
      injection hc with eY eP
      subst eY; subst eP
      refine Same2.of_eq (swapL_length _ _) (DG_swap hw ?_ hcm)
      subst e2
      simp only [limAt] at a1
      simp at a1
      simp only [hlv]
      omega
    · injection hc with hc _; cases hc
  rw [if_neg e2] at hc
  by_cases e3 : k = 3
  · rw [if_pos e3] at hc
    split at hc
    · next hcm =>
      injection hc with _ hc
      injection hc with eY eP
      subst eY; subst eP
      have ha : a.toNat < (vw r X).length := by subst e3; simp only [limAt] at a1; simp at a1; omega
      obtain ⟨h3, hA, _⟩ := (desOk_iff hw.len).1 hcm
      have b1 := Pm.gt_rng (l := vw r X) hw.pX ha
      have b2 := Pm.gt_rng (l := vw r O) hw.pO (i := a.toNat) (by have := hw.len; simp only at this; omega)
      obtain ⟨low, hlow⟩ : ∃ low : Nat, (low : Int) = minG (gt (vw r X) a.toNat) (gt (vw r O) a.toNat) := ⟨(minG (gt (vw r X) a.toNat) (gt (vw r O) a.toNat)).toNat, by unfold minG; split <;> omega⟩
      have := DG_del hw h3 ha hA hlow
      simp only [getD_gt]
      rw [← hlow]
      unfold Same2
      simp only [delL_length _ _ _ ha] at this ⊢
      rw [this, show (vw r X).length = (vw r X).length - 1 + 1 by omega, Int.pow_succ, Nat.add_sub_cancel]
      grind
    · injection hc with hc _; cases hc
  · omega
theorem apply_same {X O Y P : List Int} {k a v : Int} {r : Bool} (h : applyM X O k r a v = (0, Y, P)) : Same2 (X, O) (Y, P) := by
  by_cases hk : k = 4
  · subst hk
    exact (apply_same3 (by decide) (undo_sta h)).symm
  · exact apply_same3 hk h
/-! ### translations -/
theorem tl_apply {g : Gd} (h : VdG g) (r : Bool) : Same2 g (vw r (rotL (vw r g.1)), vw r (rotL (vw r g.2))) := apply_same (k := 1) (a := 0) (v := 0) (r := r) (tu_app h r)
theorem col_same {g : Gd} (h : VdG g) : ∀ m, m ≤ g.1.length → Same2 g (trl ((g.1.length - m) % g.1.length) 0 g.1, trl ((g.1.length - m) % g.1.length) 0 g.2) ∧ comp (trl ((g.1.length - m) % g.1.length) 0 g.1) (trl ((g.1.length - m) % g.1.length) 0 g.2) = comp g.1 g.2
  | 0, _ => by
    rw [Nat.sub_zero, Nat.mod_self, trl_zero h.pX, trl_zero h.pO]
    exact ⟨rfl, rfl⟩
  | m + 1, hm => by
    obtain ⟨i1, i2⟩ := col_same h m (by omega)
    have h2 := h.two
    have hl := h.len
    have hlt : (g.1.length - m) % g.1.length < g.1.length := Nat.mod_lt _ (by omega)
    have hv : VdG (trl ((g.1.length - m) % g.1.length) 0 g.1, trl ((g.1.length - m) % g.1.length) 0 g.2) := trl_vd h hlt (by omega)
    have e : ∀ l : List Int, Pm l → l.length = g.1.length → rotL (trl ((g.1.length - m) % g.1.length) 0 l) = trl ((g.1.length - (m + 1)) % g.1.length) 0 l := fun l hp hll => by
      rw [rotL_trl (trl_pm hp (by omega) (by omega)) (by rw [trl_length]; omega), trl_length, trl_trl (by omega) (by omega), hll, Nat.mod_add_mod, show g.1.length - m + (g.1.length - 1) = g.1.length - (m + 1) + g.1.length by omega, Nat.add_mod_right, Nat.add_zero, Nat.zero_mod]
    have a1 := tl_apply hv false
    have a2 := comp_rot hv
    simp only [vw, Bool.false_eq_true, if_false] at a1
    simp only [e _ h.pX rfl, e _ h.pO hl.symm] at a1 a2
    exact ⟨i1.trans a1, a2.trans i2⟩
theorem trl_col_same {g : Gd} (h : VdG g) {c : Nat} (hc : c < g.1.length) : Same2 g (trl c 0 g.1, trl c 0 g.2) ∧ comp (trl c 0 g.1) (trl c 0 g.2) = comp g.1 g.2 := by
  have := col_same h (g.1.length - c) (by omega)
  rw [show g.1.length - (g.1.length - c) = c by omega, Nat.mod_eq_of_lt hc] at this
  exact this
theorem tl_same {g x : Gd} (h : VdG g) (t : Tl g x) : Same2 g x ∧ comp x.1 x.2 = comp g.1 g.2 := by
  obtain ⟨c, r, hc, hr, rfl⟩ := t
  have hl := h.len
  have h2 := h.two
  obtain ⟨a1, a2⟩ := trl_col_same h hc
  have hv : VdG (trl c 0 g.1, trl c 0 g.2) := trl_vd h hc (by omega)
  have hvt : VdG (tr (trl c 0 g.1), tr (trl c 0 g.2)) := tr_vd hv
  obtain ⟨b1, b2⟩ := trl_col_same (c := r) hvt (by simp only [tr_length, trl_length]; exact hr)
  have e : ∀ l : List Int, Pm l → l.length = g.1.length → trl r 0 (tr (trl c 0 l)) = tr (trl c r l) := fun l hp hll => by
    rw [tr_trl hp (by omega) (by omega), trl_trl (by rw [tr_length]; omega) (by rw [tr_length]; omega), tr_trl hp (by omega) (by omega), tr_length, Nat.zero_add, Nat.add_zero, Nat.mod_eq_of_lt (by omega), Nat.mod_eq_of_lt (by omega)]
  simp only at b1 b2
  rw [e _ h.pX rfl, e _ h.pO hl.symm] at b1 b2
  have hvx : VdG (trl c r g.1, trl c r g.2) := trl_vd h hc hr
  have t1 := Same2.vw hv true
  have t2 := Same2.vw hvx true
  simp only [vw, if_true] at t1 t2
  refine ⟨a1.trans (t1.trans (b1.trans t2.symm)), ?_⟩
  have c1 := comp_tr hv
  have c2 := comp_tr hvx
  simp only at c1 c2
  rw [← c2, b2, c1, a2]
/-! ### the determinant of the unknot -/
def DU (g : Gd) : Prop := 4 * (DG g * DG g) = 4 ^ g.1.length
theorem DU.same {g g' : Gd} (h : Same2 g g') (d : DU g) : DU g' := by
  unfold DU Same2 at *
  have hp : (4 : Int) ^ g.1.length ≠ 0 := Int.pow_ne_zero (by decide)
  generalize DG g * DG g = x at *
  generalize DG g' * DG g' = y at *
  generalize (4 : Int) ^ g.1.length = p at *
  generalize (4 : Int) ^ g'.1.length = q at *
  have : (4 * y) * p = q * p := by
    rw [← d] at h ⊢
    grind
  exact Int.eq_of_mul_eq_mul_right hp this
end Go.Proofs.YteliflcbegcdlaaGreatDoor

namespace Go.Proofs.YteliflcbegcdlaaGreatDoor
open Go.RowKit
set_option linter.unusedVariables false
/-- two rows that are neither alike nor neighbors in the cycle of n rows -/
def nadj (n : Nat) (x o : Int) : Bool := decide (x ≠ o ∧ x ≠ o + 1 ∧ o ≠ x + 1 ∧ x ≠ o + n - 1 ∧ o ≠ x + n - 1)
def pk : Nat → List Int → List (List Int)
  | 0, _ => [[]]
  | k + 1, S => S.flatMap fun x => (pk k (S.erase x)).map (x :: ·)
def pkO (n : Nat) : List Int → List Int → List (List Int)
  | [], _ => [[]]
  | x :: X, S => (S.filter (nadj n x)).flatMap fun o => (pkO n X (S.erase o)).map (o :: ·)
theorem mem_pk : ∀ (l S : List Int), l.Nodup → (∀ x ∈ l, x ∈ S) → l ∈ pk l.length S
  | [], S, _, _ => by simp [pk]
  | x :: l, S, hn, hs => by
    rw [List.nodup_cons] at hn
    rw [List.length_cons, pk, List.mem_flatMap]
    refine ⟨x, hs x (by simp), List.mem_map.2 ⟨l, mem_pk l _ hn.2 fun y hy => ?_, rfl⟩⟩
    exact (List.mem_erase_of_ne (fun e : y = _ => hn.1 (by rw [← e]; exact hy))).2 (hs y (by simp [hy]))
theorem mem_pkO (n : Nat) : ∀ (X O S : List Int), O.length = X.length → O.Nodup → (∀ x ∈ O, x ∈ S) → (∀ k, k < X.length → nadj n (gt X k) (gt O k) = true) → O ∈ pkO n X S
  | [], O, S, hl, _, _, _ => by
    obtain rfl : O = [] := List.eq_nil_of_length_eq_zero hl
    simp [pkO]
  | x :: X, [], S, hl, _, _, _ => by simp at hl
  | x :: X, o :: O, S, hl, hn, hs, ha => by
    rw [List.nodup_cons] at hn
    rw [pkO, List.mem_flatMap]
    refine ⟨o, List.mem_filter.2 ⟨hs o (by simp), ha 0 (by simp)⟩, List.mem_map.2 ⟨O, mem_pkO n X O _ (by simpa using hl) hn.2 (fun y hy => ?_) (fun k hk => ?_), rfl⟩⟩
    · exact (List.mem_erase_of_ne (fun e : y = _ => hn.1 (by rw [← e]; exact hy))).2 (hs y (by simp [hy]))
    · exact ha (k + 1) (by simpa using hk)
def rng (n : Nat) : List Int := (List.range n).map fun i : Nat => (i : Int)
theorem mem_rng {n : Nat} {x : Int} (h : 0 ≤ x ∧ x < n) : x ∈ rng n := List.mem_map.2 ⟨x.toNat, List.mem_range.2 (by omega), by omega⟩
def rowsN (n : Nat) (X O : List Int) : Bool := (List.range n).all fun k => nadj n (gt (tr X) k) (gt (tr O) k)
instance (g : Gd) : Decidable (DU g) := inferInstanceAs (Decidable (_ = _))
def chk (n : Nat) : Bool := (pk (n - 1) ((rng n).erase 0)).all fun X => (pkO n (0 :: X) (rng n)).all fun O => !(rowsN n (0 :: X) O && decide (comp (0 :: X) O = 1) && decide (DU (0 :: X, O)))
set_option maxRecDepth 100000 in
theorem chk3 : chk 3 = true := by decide +kernel
set_option maxRecDepth 100000 in
theorem chk4 : chk 4 = true := by decide +kernel
set_option maxRecDepth 100000 in
theorem chk5 : chk 5 = true := by decide +kernel
set_option maxRecDepth 100000 in
theorem chk6 : chk 6 = true := by decide +kernel
end Go.Proofs.YteliflcbegcdlaaGreatDoor

namespace Go.Proofs.YteliflcbegcdlaaGreatDoor
open Go.RowKit
set_option linter.unusedVariables false
theorem lst0 {g : Gd} (h : VdG g) : gt (lstM g).1 0 = 0 := by
  have h2 := h.two
  obtain ⟨i, hi, e⟩ := lst_cand g.1 g.2 (g.1.length - 1)
  have e2 : lstM g = cand g.1 g.2 i := e
  rw [e2]
  unfold cand
  simp only
  have hil : i < g.1.length := by omega
  have hm := h.pX.gt_rng hil
  have q := trl_vd_gt h.pX (c := (g.1.length - i) % g.1.length) (r := (g.1.length - (gt g.1 i).toNat) % g.1.length) (i := i) (Nat.mod_lt _ (by omega)) (Nat.mod_lt _ (by omega)) hil
  rw [Nat.add_mod_mod, show i + (g.1.length - i) = g.1.length by omega, Nat.mod_self] at q
  rw [q]
  by_cases h0 : gt g.1 i = 0
  · rw [h0]
    simp
  · rw [Nat.mod_eq_of_lt (show g.1.length - (gt g.1 i).toNat < g.1.length by omega)]
    rw [if_neg (by omega)]
    omega
theorem nadj_no {n : Nat} {x o : Int} (hx : 0 ≤ x ∧ x < n) (ho : 0 ≤ o ∧ o < n) (hne : x ≠ o) (h : nadj n x o ≠ true) : Adj x o ∨ (x = 0 ∧ o = n - 1) ∨ (o = 0 ∧ x = n - 1) := by
  unfold Adj
  by_cases a1 : x = o + 1
  · exact .inl (.inl a1)
  by_cases a2 : o = x + 1
  · exact .inl (.inr a2)
  by_cases a3 : x = o + n - 1
  · omega
  by_cases a4 : o = x + n - 1
  · omega
  exact absurd (decide_eq_true ⟨hne, a1, a2, a3, a4⟩) h
/-- the finite search, for the first X in the first row -/
theorem srch {g : Gd} (h : VdG g) (h3 : 3 ≤ g.1.length) (h6 : g.1.length ≤ 6) (h0 : gt g.1 0 = 0) (hc : comp g.1 g.2 = 1) (hd : DU g) : ∃ r i, i < g.1.length ∧ nadj g.1.length (gt (vw r g.1) i) (gt (vw r g.2) i) ≠ true := by
  refine Classical.byContradiction fun hno => ?_
  have hall : ∀ r i, i < g.1.length → nadj g.1.length (gt (vw r g.1) i) (gt (vw r g.2) i) = true := fun r i hi => Classical.byContradiction fun k => hno ⟨r, i, hi, k⟩
  have hl := h.len
  have hchk : chk g.1.length = true := by
    have : g.1.length = 3 ∨ g.1.length = 4 ∨ g.1.length = 5 ∨ g.1.length = 6 := by omega
    rcases this with e | e | e | e <;> rw [e]
    · exact chk3
    · exact chk4
    · exact chk5
    · exact chk6
  obtain ⟨X, O⟩ := g
  simp only at h3 h6 h0 hc hl hchk hall
  cases X with
  | nil => simp at h3
  | cons x X =>
    have hx0 : x = 0 := h0
    subst hx0
    have pX := h.pX
    have pO := h.pO
    simp only at pX pO
    have hn := List.nodup_cons.1 pX.2
    unfold chk at hchk
    have hX : X ∈ pk ((0 :: X).length - 1) ((rng (0 :: X).length).erase 0) := by
      simp only [List.length_cons, Nat.add_sub_cancel]
      refine mem_pk X _ hn.2 fun y hy => ?_
      refine (List.mem_erase_of_ne (fun e : y = 0 => hn.1 (by rw [← e]; exact hy))).2 (mem_rng ?_)
      have := pX.1 y (by simp [hy])
      simpa using this
    have h1 := List.all_eq_true.1 hchk X hX
    have hO : O ∈ pkO (0 :: X).length (0 :: X) (rng (0 :: X).length) := by
      refine mem_pkO _ _ _ _ hl.symm pO.2 (fun y hy => mem_rng ?_) (fun k hk => ?_)
      · have := pO.1 y hy
        rw [← hl] at this
        exact this
      · exact hall false k hk
    have h2 := List.all_eq_true.1 h1 O hO
    have hr : rowsN (0 :: X).length (0 :: X) O = true := by
      unfold rowsN
      refine List.all_eq_true.2 fun k hk => ?_
      exact hall true k (List.mem_range.1 hk)
    rw [hr, decide_eq_true hc, decide_eq_true hd] at h2
    cases h2
/-- no two columns make a component of their own -/
theorem no_pair {X O : List Int} {i : Nat} (h : Vd X O) (h3 : 3 ≤ X.length) (hc : comp X O = 1) (hi : i < X.length) : ∀ k, k < X.length → k ≠ i → ¬ (gt O k = gt X i ∧ gt X k = gt O i) := by
  rintro k hk hne ⟨e1, e2⟩
  have f1 : fC X O k = i := fC_uniq h hi e1.symm
  have f2 : fC X O i = k := fC_uniq h hk e2
  have hp := fC_perm h
  obtain ⟨m, hm, m1, m2⟩ : ∃ m, m < X.length ∧ m ≠ i ∧ m ≠ k := by
    by_cases a0 : i ≠ 0 ∧ k ≠ 0
    · exact ⟨0, by omega, Ne.symm a0.1, Ne.symm a0.2⟩
    · by_cases a1 : i ≠ 1 ∧ k ≠ 1
      · exact ⟨1, by omega, Ne.symm a1.1, Ne.symm a1.2⟩
      · exact ⟨2, by omega, by omega, by omega⟩
  have stay : ∀ t, itr (fC X O) t i = i ∨ itr (fC X O) t i = k := fun t => by
    induction t with
    | zero => exact .inl rfl
    | succ t ih =>
      have : itr (fC X O) (t + 1) i = fC X O (itr (fC X O) t i) := by
        rw [show t + 1 = 1 + t by omega, itr_add]; rfl
      rw [this]
      rcases ih with e | e <;> rw [e]
      · exact .inr f2
      · exact .inl f1
  obtain ⟨a, ha, ra⟩ := exists_head hp i hi
  obtain ⟨b, hb, rb⟩ := exists_head hp m hm
  have hab : a = b := by
    unfold comp cls at hc
    obtain ⟨z, hz⟩ := List.length_eq_one_iff.1 hc
    rw [hz] at ha hb
    rw [List.mem_singleton.1 ha, List.mem_singleton.1 hb]
  subst hab
  have hal : a < X.length := ((mem_heads hp).1 ha).1
  obtain ⟨t, ht⟩ := (hp.symm hal ra).trans rb
  rcases stay t with e | e <;> rw [ht] at e <;> omega
theorem fol_adj {g : Gd} {r : Bool} {i : Nat} (h : VdG g) (h3 : 3 ≤ g.1.length) (hc : comp g.1 g.2 = 1) (hi : i < g.1.length) (hA : Adj (gt (vw r g.1) i) (gt (vw r g.2) i)) : ∃ y : Gd, Fol g (lstM y) ∧ VdG y ∧ y.1.length = g.1.length - 1 ∧ Same2 g y ∧ comp y.1 y.2 = comp g.1 g.2 := by
  have hG : VdG (vw r g.1, vw r g.2) := vw_vd h
  have hlG : (vw r g.1).length = g.1.length := vw_length _ _
  have hcG : comp (vw r g.1) (vw r g.2) = 1 := by rw [comp_vw h]; exact hc
  have hd : desOk (vw r g.1) (vw r g.2) i (gt (vw r g.1) i) (gt (vw r g.2) i) = true :=
    (desOk_iff hG.len).2 ⟨by rw [hlG]; exact h3, hA, no_pair hG (by simp only [hlG]; exact h3) hcG (by simp only [hlG]; exact hi)⟩
  have hir : inRange 3 (i : Int) 0 g.1.length := ⟨by omega, by simp [limAt]; omega, by simp [limVar]⟩
  have hap := applyM_of (rows := r) (k := 3) (a := (i : Int)) (v := 0) h hir (by simpa using cols3 hd)
  refine ⟨(vw r (delL (vw r g.1) i (minG (gt (vw r g.1) i) (gt (vw r g.2) i))), vw r (delL (vw r g.2) i (minG (gt (vw r g.1) i) (gt (vw r g.2) i)))), ⟨g, _, 3, r, i, Tl.refl h, .inr rfl, hap, rfl⟩, applyM_res_vd hap, ?_, apply_same hap, comp_apply hap⟩
  show (vw r (delL (vw r g.1) i (minG (gt (vw r g.1) i) (gt (vw r g.2) i)))).length = g.1.length - 1
  rw [vw_length, delL_length _ _ _ (by rw [hlG]; exact hi), hlG]
theorem fol_nadj {g : Gd} {r : Bool} {i : Nat} (h : VdG g) (h3 : 3 ≤ g.1.length) (hc : comp g.1 g.2 = 1) (hi : i < g.1.length) (hA : nadj g.1.length (gt (vw r g.1) i) (gt (vw r g.2) i) ≠ true) : ∃ y : Gd, Fol g (lstM y) ∧ VdG y ∧ y.1.length = g.1.length - 1 ∧ Same2 g y ∧ comp y.1 y.2 = comp g.1 g.2 := by
  have hG : VdG (vw r g.1, vw r g.2) := vw_vd h
  have hl := h.len
  have h2 := h.two
  have hlG : (vw r g.1).length = g.1.length := vw_length _ _
  have hO2 : (vw r g.2).length = g.1.length := by rw [vw_length]; exact hl.symm
  have b1 := Pm.gt_rng (l := vw r g.1) hG.pX (i := i) (by omega)
  have b2 := Pm.gt_rng (l := vw r g.2) hG.pO (i := i) (by omega)
  rw [hlG] at b1
  rw [hO2] at b2
  have hne : gt (vw r g.1) i ≠ gt (vw r g.2) i := by rw [gt_get (by omega), gt_get (by omega)]; exact hG.ne i _ _
  rcases nadj_no b1 b2 hne hA with hA | hends
  · exact fol_adj h h3 hc hi hA
  · have cross : ∀ l : List Int, Pm l → 2 ≤ l.length → vw r (vw (!r) (rotL (vw (!r) l))) = trl 0 (l.length - 1) (vw r l) := fun l hp hll => by
      cases r
      · simp only [Bool.not_false, vw, Bool.false_eq_true, if_false, if_true]
        exact rotR_trl hp hll
      · simp only [Bool.not_true, vw, Bool.false_eq_true, if_false, if_true]
        have := rotR_trl (tr_pm hp) (by rw [tr_length]; exact hll)
        rw [tr_tr hp, tr_length] at this
        exact this
    have ht := tu_tl h (!r)
    have hyv := ht.vd h
    have hyl := ht.len
    obtain ⟨s1, s2⟩ := tl_same h ht
    have e1 := cross _ h.pX h2
    have e2 := cross _ h.pO (by omega)
    rw [← hl] at e2
    have w1 := trl_val (X := vw r g.1) hG.pX (c := 0) (d := g.1.length - 1) (i := i) (a := i) (by omega) (by omega) (by omega) (by rw [hlG, Nat.add_zero]; exact (Nat.mod_eq_of_lt hi).symm)
    have w2 := trl_val (X := vw r g.2) hG.pO (c := 0) (d := g.1.length - 1) (i := i) (a := i) (by omega) (by omega) (by omega) (by rw [hO2, Nat.add_zero]; exact (Nat.mod_eq_of_lt hi).symm)
    rw [hlG] at w1
    rw [hO2] at w2
    obtain ⟨y, y1, y2, y3, y4, y5⟩ := fol_adj (r := r) (i := i) hyv (by rw [hyl]; exact h3) (by rw [s2]; exact hc) (by rw [hyl]; exact hi) (by
      simp only [e1, e2]
      rw [w1, w2]
      unfold Adj shN
      rcases hends with ⟨p1, p2⟩ | ⟨p1, p2⟩ <;> rw [p1, p2] <;> (repeat' split) <;> omega)
    exact ⟨y, (Fol.tl h ht).2 y1, y2, by rw [y3, hyl], s1.trans y4, by rw [y5, s2]⟩
/-- a class leads to another one -/
inductive RC : Gd → Gd → Prop
  | refl (a : Gd) : RC a a
  | head {a b c : Gd} : Fol a b → RC b c → RC a c
theorem to_two : ∀ (n : Nat) (g : Gd), VdG g → g.1.length = n → n ≤ 6 → comp g.1 g.2 = 1 → DU g → ∃ c : Gd, RC (lstM g) c ∧ c.1.length = 2
  | 0, g, h, hn, _, _, _ => by have := h.two; omega
  | n + 1, g, h, hn, h6, hc, hd => by
    by_cases h2 : g.1.length = 2
    · exact ⟨lstM g, .refl _, by rw [lstM_len h]; exact h2⟩
    have h3 : 3 ≤ g.1.length := by have := h.two; omega
    have ht := Tl.least h
    have hv := ht.vd h
    have hll := ht.len
    obtain ⟨s1, s2⟩ := tl_same h ht
    obtain ⟨r, i, hi, hA⟩ := srch hv (by omega) (by omega) (lst0 h) (by rw [s2]; exact hc) (hd.same s1)
    obtain ⟨y, y1, y2, y3, y4, y5⟩ := fol_nadj hv (by omega) (by rw [s2]; exact hc) hi hA
    obtain ⟨c, c1, c2⟩ := to_two n y y2 (by omega) (by omega) (by rw [y5, s2]; exact hc) ((hd.same s1).same y4)
    exact ⟨c, .head y1 c1, c2⟩
end Go.Proofs.YteliflcbegcdlaaGreatDoor

namespace Go.Proofs.YteliflcbegcdlaaGreatDoor
open Go.RowKit
set_option linter.unusedVariables false
theorem Exq.det {most : Int} {short : Bool} {g : Gd} {r r' : Res} (h : Exq most short g r) (h' : Exq most short g r') : r = r' := by
  cases h with
  | none h =>
    cases h' with
    | none _ => rfl
    | some h1 _ => rw [h] at h1; cases h1
  | some h hr =>
    cases h' with
    | none h1 => rw [h] at h1; cases h1
    | some h1 hr1 =>
      rw [h] at h1
      injection h1 with h1
      subst h1
      exact hr.det hr1
/-! ### sizes -/
theorem app_len {X O Y P : List Int} {k a v : Int} {r : Bool} (hk : k ≠ 4) (h : applyM X O k r a v = (0, Y, P)) : Y.length ≤ X.length := by
  obtain ⟨hv, hr, Y', P', hc, rfl, rfl⟩ := applyM_inv h
  obtain ⟨⟨k1, k4⟩, ⟨a0, a1⟩, _⟩ := hr
  have hlv : (vw r X).length = X.length := vw_length _ _
  rw [vw_length]
  unfold colsL at hc
  by_cases e1 : k = 1
  · rw [if_pos e1] at hc
    injection hc with _ hc
    injection hc with eY eP
    rw [← eY, rotL_length]; omega
  rw [if_neg e1] at hc
  by_cases e2 : k = 2
  · rw [if_pos e2] at hc
    split at hc
    · injection hc with _ hc
      injection hc with eY eP
      rw [← eY, swapL_length]; omega
    · injection hc with hc _; cases hc
  rw [if_neg e2] at hc
  by_cases e3 : k = 3
  · rw [if_pos e3] at hc
    split at hc
    · injection hc with _ hc
      injection hc with eY eP
      have ha : a.toNat < (vw r X).length := by subst e3; simp only [limAt] at a1; simp at a1; omega
      rw [← eY, delL_length _ _ _ ha]; omega
    · injection hc with hc _; cases hc
  · omega
theorem nbrs_len {g z : Gd} {ms : List Mv} (h : VdG g) (hm : (ms, z) ∈ nbrs g) : z.1.length ≤ g.1.length := by
  have one : ∀ m : Mv, m.k ≠ 4 → (ms, z) ∈ tryM g [m] → z.1.length ≤ g.1.length := fun m hk hm => by
    obtain ⟨_, q⟩ := (tryM_one h _ _).1 hm
    exact app_len hk q
  have two : ∀ m m' : Mv, m.k ≠ 4 → m'.k ≠ 4 → (ms, z) ∈ tryM g [m, m'] → z.1.length ≤ g.1.length := fun m m' hk hk' hm => by
    obtain ⟨_, y, q1, q2⟩ := (tryM_two h _ _).1 hm
    exact Nat.le_trans (app_len hk' q2) (app_len hk q1)
  have key : ∀ r, (ms, z) ∈ nbR g r → z.1.length ≤ g.1.length := fun r hm => by
    unfold nbR nb1 nb2 nb3 at hm
    rcases List.mem_append.1 hm with hm | hm
    · rcases List.mem_append.1 hm with hm | hm
      · obtain ⟨i, hi, q⟩ := List.mem_flatMap.1 hm
        unfold rmL at q
        split at q
        · exact one _ (by simp [rmM]) q
        · exact two _ _ (by simp [tuM]) (by simp [rmM]) q
      · obtain ⟨i, hi, q⟩ := List.mem_flatMap.1 hm
        exact one _ (by simp [coM]) q
    · exact two _ _ (by simp [tuM]) (by simp [coM]) hm
  unfold nbrs at hm
  rcases List.mem_append.1 hm with hm | hm
  · exact key _ hm
  · exact key _ hm
theorem alg_len {g0 : Gd} {K : List En} {A : List Gd} (h : Alg g0 K A) : ∀ (n i : Nat) (e : En) (a : Gd), i < n → K[i]? = some e → A[i]? = some a → a.1.length ≤ g0.1.length
  | 0, i, e, a, hi, _, _ => by omega
  | n + 1, i, e, a, hi, hK, hA => by
    obtain ⟨hv, hk, hf⟩ := h.2 i e a hK hA
    rcases hf with ⟨_, _, rfl⟩ | ⟨j, b, e', hj, k1, k2, k3, k4⟩
    · exact Nat.le_refl _
    · exact Nat.le_trans (nbrs_len (h.2 j e' b k1 k2).1 k4) (alg_len h n j e' b (by omega) k1 k2)
/-! ### no room -/
theorem addM_full {most : Int} {s : St} {g : Gd} {fr : Option Gd} {ms : List Mv} (h : addM most s g fr ms = none) : most ≤ (s.1.length : Int) := by
  unfold addM at h
  split at h
  · cases h
  · split at h
    · assumption
    · cases h
theorem addAll_full {most : Int} {fr : Option Gd} : ∀ (l : List (List Mv × Gd)) {s : St}, addAll most fr s l = none → ∃ k s', addAll most fr s (l.take k) = some s' ∧ most ≤ (s'.1.length : Int)
  | [], s, h => by cases h
  | (ms, g) :: t, s, h => by
    unfold addAll at h
    cases h1 : addM most s g fr ms with
    | none => exact ⟨0, s, rfl, addM_full h1⟩
    | some s1 =>
      rw [h1] at h
      obtain ⟨k, s', k1, k2⟩ := addAll_full t h
      refine ⟨k + 1, s', ?_, k2⟩
      rw [List.take_succ_cons]
      unfold addAll
      rw [h1]
      exact k1
theorem addAll_stp {most : Int} {fr : Option Gd} : ∀ (l : List (List Mv × Gd)) {s s' : St}, StP s → (∀ p ∈ l, VdG p.2) → addAll most fr s l = some s' → StP s'
  | [], s, s', hs, _, ha => by injection ha with ha; subst ha; exact hs
  | (ms, z) :: t, s, s', hs, hv, ha => by
    unfold addAll at ha
    cases h1 : addM most s z fr ms with
    | none => rw [h1] at ha; cases ha
    | some s1 =>
      rw [h1] at ha
      exact addAll_stp t (hs.add (hv (ms, z) (by simp)) h1) (fun p hp => hv p (by simp [hp])) ha
/-- the state that is taken up -/
theorem PlX.take {g0 : Gd} {short : Bool} {s : St} {A : List Gd} {g : Gd} {W : List (List Gd)} (hp : PlX g0 short (fun _ => False) s A) (h : nextM s.2 = some (g, W)) : PlX g0 short (fun a => a = g) (s.1, W) A ∧ g ∈ A := by
  obtain ⟨k, t, e1, e2⟩ := nextM_get h
  refine ⟨⟨hp.alg, fun l hl g' hg' => ?_, fun a ha => ?_⟩, hp.wt _ (List.mem_of_getElem? e1) g (by simp)⟩
  · rw [e2] at hl
    rcases List.mem_or_eq_of_mem_set hl with q | q
    · exact hp.wt l q g' hg'
    · subst q; exact hp.wt _ (List.mem_of_getElem? e1) g' (by simp [hg'])
  · rcases hp.dn a ha with ⟨l, hl, hal⟩ | q | q
    · by_cases e : a = g
      · exact .inr (.inl e)
      · left
        obtain ⟨i, hi⟩ := List.getElem?_of_mem hl
        by_cases ei : i = k
        · subst ei
          rw [e1] at hi
          injection hi with hi
          subst hi
          have hat : a ∈ t := by
            rcases List.mem_cons.1 hal with q | q
            · exact absurd q e
            · exact q
          exact ⟨t, by rw [e2]; exact List.mem_of_getElem? (List.getElem?_set_self (List.getElem?_eq_some_iff.1 e1).1), hat⟩
        · exact ⟨l, by rw [e2]; exact List.mem_of_getElem? ((List.getElem?_set_ne (Ne.symm ei)).trans hi), hal⟩
    · exact q.elim
    · exact .inr (.inr q)
/-- where there is no room, there are as many classes as the budget -/
theorem Run.full {most : Int} {short : Bool} {g0 : Gd} {s : St} {r : Res} (h : Run most short s r) : r = .fuel → ∀ {A : List Gd}, PlX g0 short (fun _ => False) s A → StP s → ∃ K A', Alg g0 K A' ∧ (K.map En.key).Nodup ∧ most ≤ (K.length : Int) := by
  induction h with
  | done h => intro e; cases e
  | found h hsh h2 => intro e; cases e
  | @fuel s g W h hsh ha =>
    intro _ A hp hs
    obtain ⟨hs1, hvg⟩ := hs.next h
    obtain ⟨hpx, hgA⟩ := hp.take h
    obtain ⟨k, s', k1, k2⟩ := addAll_full _ ha
    have hsub : ∀ p ∈ (nbrs g).take k, p ∈ nbrs g := fun p hp => List.mem_of_mem_take hp
    obtain ⟨A', q1, _⟩ := PlX.all ((nbrs g).take k) hpx hs1.l2 hvg hgA hsub k1
    have hst := addAll_stp _ hs1 (fun p hp => nbrs_vd hvg (show (p.1, p.2) ∈ nbrs g from hsub p hp)) k1
    exact ⟨s'.1, A', q1.alg, hst.nd, k2⟩
  | @step s s' g W r h hsh ha hr ih =>
    intro e A hp hs
    obtain ⟨hs1, hvg⟩ := hs.next h
    obtain ⟨hpx, hgA⟩ := hp.take h
    obtain ⟨A', q1, q2, q3, _, q5⟩ := PlX.all (nbrs g) hpx hs1.l2 hvg hgA (fun p hp => hp) ha
    refine ih e (A := A') ⟨q1.alg, q1.wt, fun a ha => ?_⟩ (addAll_stp _ hs1 (fun p hp => nbrs_vd hvg (show (p.1, p.2) ∈ nbrs g from hp)) ha)
    rcases q1.dn a ha with q | q | q
    · exact .inl q
    · subst q
      exact .inr (.inr ⟨hsh, fun ms z hz => q3 (ms, z) hz⟩)
    · exact .inr (.inr q)
theorem len_subG {α : Type} [DecidableEq α] : ∀ (l X : List α), l.Nodup → (∀ x ∈ l, x ∈ X) → l.length ≤ X.length
  | [], X, _, _ => Nat.zero_le _
  | a :: l, X, hn, hs => by
    rw [List.nodup_cons] at hn
    have ha := hs a (by simp)
    have := len_subG l (X.erase a) hn.2 fun x hx => (List.mem_erase_of_ne (fun e : x = a => hn.1 (by rw [← e]; exact hx))).2 (hs x (by simp [hx]))
    rw [List.length_erase_of_mem ha] at this
    have := List.length_pos_of_mem ha
    simp; omega
/-- the grids of size n whose first X lies in the first row, and more -/
def gAll (n : Nat) : List Gd := (pk (n - 1) ((rng n).erase 0)).flatMap fun X => (pk n (rng n)).map fun O => ((0 :: X, O) : Gd)
theorem mem_gAll {g : Gd} (h : VdG g) (h0 : gt g.1 0 = 0) : g ∈ gAll g.1.length := by
  obtain ⟨X, O⟩ := g
  have hl := h.len
  have h2 := h.two
  simp only at h0 hl h2
  cases X with
  | nil => simp at h2
  | cons x X =>
    have hx0 : x = 0 := h0
    subst hx0
    have pX := h.pX
    have pO := h.pO
    simp only at pX pO
    have hn := List.nodup_cons.1 pX.2
    refine List.mem_flatMap.2 ⟨X, ?_, List.mem_map.2 ⟨O, ?_, rfl⟩⟩
    · simp only [List.length_cons, Nat.add_sub_cancel]
      refine mem_pk X _ hn.2 fun y hy => ?_
      refine (List.mem_erase_of_ne (fun e : y = 0 => hn.1 (by rw [← e]; exact hy))).2 (mem_rng ?_)
      have := pX.1 y (by simp [hy])
      simpa using this
    · simp only [hl]
      refine mem_pk O _ pO.2 fun y hy => mem_rng (pO.1 y hy)
def gUpto5 : List Gd := gAll 2 ++ (gAll 3 ++ (gAll 4 ++ gAll 5))
def gUpto3 : List Gd := gAll 2 ++ gAll 3
set_option maxRecDepth 100000 in
theorem gUpto5_len : gUpto5.length = 3038 := by decide +kernel
set_option maxRecDepth 100000 in
theorem gUpto3_len : gUpto3.length = 14 := by decide +kernel
theorem Exq.room {most : Int} {short : Bool} {g : Gd} (hv : VdG g) (L : List Gd) (hL : ∀ c : Gd, VdG c → gt c.1 0 = 0 → c.1.length ≤ g.1.length → c ∈ L) (hm : (L.length : Int) < most) : ¬ Exq most short g .fuel := by
  intro h
  have key : ∃ K A', Alg g K A' ∧ (K.map En.key).Nodup ∧ most ≤ (K.length : Int) := by
    cases h with
    | none h => exact ⟨[], [], ⟨rfl, fun i e a h => by simp at h⟩, by simp, by have := addM_full h; simpa [st00] using this⟩
    | some h hr =>
      obtain ⟨A, h1, _⟩ := pl_start (short := short) hv h
      exact hr.full rfl h1 (StP.start.add hv h)
  obtain ⟨K, A, hA, hn, hk⟩ := key
  have := len_subG (K.map En.key) L hn fun c hc => by
    obtain ⟨e, he, rfl⟩ := List.mem_map.1 hc
    obtain ⟨i, hi⟩ := List.getElem?_of_mem he
    have hlt : i < A.length := by rw [hA.1]; exact (List.getElem?_eq_some_iff.1 hi).1
    obtain ⟨q1, q2, _⟩ := hA.2 i e _ hi (List.getElem?_eq_getElem hlt)
    have q3 := alg_len hA (i + 1) i e _ (by omega) hi (List.getElem?_eq_getElem hlt)
    rw [← q2]
    exact hL _ (lstM_vd q1) (lst0 q1) (by rw [lstM_len q1]; exact q3)
  rw [List.length_map] at this
  omega
theorem room3 {short : Bool} {g : Gd} (hv : VdG g) (h5 : g.1.length ≤ 3) {most : Int} (hm : 14 < most) : ¬ Exq most short g .fuel := by
  refine Exq.room hv gUpto3 (fun c hc h0 hl => ?_) (by rw [gUpto3_len]; exact hm)
  have h2 := hc.two
  have hmem := mem_gAll hc h0
  unfold gUpto3
  have : c.1.length = 2 ∨ c.1.length = 3 := by omega
  rcases this with e | e <;> rw [e] at hmem
  · exact List.mem_append_left _ hmem
  · exact List.mem_append_right _ hmem
/-! ### when the unknot is found -/
/-- what was done is closed -/
theorem Dn.closed {g0 : Gd} {short : Bool} {K : List En} {A : List Gd} (hA : Alg g0 K A) (hd : ∀ a ∈ A, ¬ (short = true ∧ a.1.length = 2) ∧ ∀ ms z, (ms, z) ∈ nbrs a → hasK K (lstM z) = true) : ∀ {c c' : Gd}, RC c c' → (∃ a ∈ A, lstM a = c) → ∃ a ∈ A, lstM a = c' := by
  intro c c' h
  induction h with
  | refl a => exact fun h => h
  | @head a b c hf _ ih =>
    rintro ⟨x, hx, rfl⟩
    refine ih ?_
    obtain ⟨i, e, k1, k2, k3, k4⟩ := hA.get hx
    have hf2 : Fol x b := (Fol.tl k4 (Tl.least k4)).2 hf
    obtain ⟨ms, z, hz, rfl⟩ := fol_nbrs k4 hf2
    obtain ⟨e', he', hk'⟩ := hasK_yes ((hd x hx).2 ms z hz)
    obtain ⟨j, hj⟩ := List.getElem?_of_mem he'
    have hlt : j < A.length := by rw [hA.1]; exact (List.getElem?_eq_some_iff.1 hj).1
    obtain ⟨_, q2, _⟩ := hA.2 j e' _ hj (List.getElem?_eq_getElem hlt)
    exact ⟨A[j], List.getElem_mem hlt, by rw [q2, hk']⟩
theorem alg_first {g0 : Gd} {K : List En} {A : List Gd} (h : Alg g0 K A) (hn : A ≠ []) : g0 ∈ A := by
  cases A with
  | nil => exact absurd rfl hn
  | cons a A =>
    have hlt : 0 < K.length := by rw [← h.1]; simp
    obtain ⟨_, _, hf⟩ := h.2 0 _ a (List.getElem?_eq_getElem hlt) rfl
    rcases hf with ⟨_, _, rfl⟩ | ⟨j, b, e', hj, _⟩
    · simp
    · omega
theorem no_done {g0 : Gd} {K : List En} (hv : VdG g0) (h6 : g0.1.length ≤ 6) (hc : comp g0.1 g0.2 = 1) (hd : DU g0) : ¬ Dn g0 true K := by
  rintro ⟨A, hA, hn, hall⟩
  obtain ⟨c, c1, c2⟩ := to_two g0.1.length g0 hv rfl h6 hc hd
  obtain ⟨a, ha, rfl⟩ := Dn.closed hA hall c1 ⟨g0, alg_first hA hn, rfl⟩
  obtain ⟨i, e, k1, k2, k3, k4⟩ := hA.get ha
  rw [lstM_len k4] at c2
  exact (hall a ha).1 ⟨rfl, c2⟩
end Go.Proofs.YteliflcbegcdlaaGreatDoor

namespace Go.Proofs.YteliflcbegcdlaaGreatDoor
open Go.RowKit
set_option linter.unusedVariables false
theorem tryM_le (g : Gd) (ms : List Mv) : (tryM g ms).length ≤ 1 := by unfold tryM; split <;> simp
theorem fm_le {f : Nat → List (List Mv × Gd)} (h : ∀ i, (f i).length ≤ 1) : ∀ n, ((List.range n).flatMap f).length ≤ n
  | 0 => by simp
  | n + 1 => by
    rw [List.range_succ, List.flatMap_append, List.length_append]
    have := fm_le h n
    have := h n
    simp only [List.flatMap_cons, List.flatMap_nil, List.append_nil]
    omega
theorem nbrs_count (g : Gd) : (nbrs g).length ≤ 4 * g.1.length + 2 := by
  have one : ∀ r, (nbR g r).length ≤ 2 * g.1.length + 1 := fun r => by
    unfold nbR nb1 nb2 nb3
    rw [List.length_append, List.length_append]
    have h1 := fm_le (f := fun i : Nat => tryM g (rmL g r i)) (fun i => tryM_le _ _) g.1.length
    have h2 := fm_le (f := fun i : Nat => tryM g [coM r (i : Int)]) (fun i => tryM_le _ _) (g.1.length - 1)
    have h3 := tryM_le g [tuM r, coM r ((g.1.length : Int) - 2)]
    omega
  unfold nbrs
  rw [List.length_append]
  have := one false
  have := one true
  omega
/-- the classes gs of moves of the translations, those before (c, r, kd, a, k) all -/
structure FlI (g : Gd) (c r kd a k : Nat) (gs : List Gd) : Prop where
  fol : ∀ z ∈ gs, Fol g z
  cov : ∀ c' r' kd' a' k', c' < g.1.length → r' < g.1.length → 2 ≤ kd' → kd' ≤ 3 → a' < g.1.length → k' < 2 →
    (c' < c ∨ c' = c ∧ (r' < r ∨ r' = r ∧ (kd' < kd ∨ kd' = kd ∧ (a' < a ∨ a' = a ∧ k' < k)))) →
    ∀ y : Gd, applyM (trl c' r' g.1) (trl c' r' g.2) kd' (decide (k' = 1)) a' 0 = (0, y.1, y.2) → lstM y ∈ gs
  nd : gs.Nodup
section
variable {g : Gd} {c r kd a k : Nat} {gs : List Gd}
theorem FlI.start : FlI g 0 0 2 0 0 [] := ⟨fun z h => by simp at h, fun c' r' kd' a' k' h1 h2 h3 h4 h5 h6 h7 => by omega, List.nodup_nil⟩
theorem FlI.next (h : FlI g c r kd a k gs) (hn : ∀ y : Gd, applyM (trl c r g.1) (trl c r g.2) kd (decide (k = 1)) a 0 = (0, y.1, y.2) → lstM y ∈ gs) : FlI g c r kd a (k + 1) gs := by
  refine ⟨h.fol, fun c' r' kd' a' k' h1 h2 h3 h4 h5 h6 h7 y hy => ?_, h.nd⟩
  by_cases e : c' = c ∧ r' = r ∧ kd' = kd ∧ a' = a ∧ k' = k
  · obtain ⟨rfl, rfl, rfl, rfl, rfl⟩ := e
    exact hn y hy
  · exact h.cov c' r' kd' a' k' h1 h2 h3 h4 h5 h6 (by omega) y hy
theorem FlI.new (h : FlI g c r kd a k gs) (hc : c < g.1.length) (hr : r < g.1.length) (hk : kd = 2 ∨ kd = 3) {y : Gd} (hy : applyM (trl c r g.1) (trl c r g.2) kd (decide (k = 1)) a 0 = (0, y.1, y.2)) (hn : ¬ lstM y ∈ gs) : FlI g c r kd a (k + 1) (gs ++ [lstM y]) := by
  have h2 : FlI g c r kd a k (gs ++ [lstM y]) := by
    refine ⟨fun z hz => ?_, fun c' r' kd' a' k' h1 h2 h3 h4 h5 h6 h7 y hy => List.mem_append_left _ (h.cov c' r' kd' a' k' h1 h2 h3 h4 h5 h6 h7 y hy), ?_⟩
    · rcases List.mem_append.1 hz with hz | hz
      · exact h.fol z hz
      · rw [List.mem_singleton.1 hz]
        exact ⟨(trl c r g.1, trl c r g.2), y, kd, _, a, ⟨c, r, hc, hr, rfl⟩, by omega, hy, rfl⟩
    · rw [List.nodup_append]
      refine ⟨h.nd, by simp, ?_⟩
      intro a ha b hb e
      simp at hb
      subst hb; subst e
      exact hn ha
  refine h2.next fun y' hy' => ?_
  rw [hy] at hy'
  injection hy' with _ hy'
  injection hy' with e1 e2
  have : y = y' := Prod.ext e1 e2
  rw [← this]
  exact List.mem_append_right _ (by simp)
theorem FlI.k2 (h : FlI g c r kd a 2 gs) : FlI g c r kd (a + 1) 0 gs := ⟨h.fol, fun c' r' kd' a' k' h1 h2 h3 h4 h5 h6 h7 => h.cov c' r' kd' a' k' h1 h2 h3 h4 h5 h6 (by omega), h.nd⟩
theorem FlI.an (h : FlI g c r kd g.1.length 0 gs) : FlI g c r (kd + 1) 0 0 gs := ⟨h.fol, fun c' r' kd' a' k' h1 h2 h3 h4 h5 h6 h7 => h.cov c' r' kd' a' k' h1 h2 h3 h4 h5 h6 (by omega), h.nd⟩
theorem FlI.kd4 (h : FlI g c r 4 0 0 gs) : FlI g c (r + 1) 2 0 0 gs := ⟨h.fol, fun c' r' kd' a' k' h1 h2 h3 h4 h5 h6 h7 => h.cov c' r' kd' a' k' h1 h2 h3 h4 h5 h6 (by omega), h.nd⟩
theorem FlI.rn (h : FlI g c g.1.length 2 0 0 gs) : FlI g (c + 1) 0 2 0 0 gs := ⟨h.fol, fun c' r' kd' a' k' h1 h2 h3 h4 h5 h6 h7 => h.cov c' r' kd' a' k' h1 h2 h3 h4 h5 h6 (by omega), h.nd⟩
theorem FlI.len (h : FlI g c r kd a k gs) (hv : VdG g) : gs.length ≤ 162 := by
  have h1 := len_subG gs ((nbrs g).map fun p => lstM p.2) h.nd fun z hz => by
    obtain ⟨ms, y, hm, e⟩ := fol_nbrs hv (h.fol z hz)
    exact List.mem_map.2 ⟨(ms, y), hm, e⟩
  rw [List.length_map] at h1
  have := nbrs_count g
  have := hv.most
  omega
end
/-- the list of the classes that follow -/
def IsF (g : Gd) (gs : List Gd) : Prop := gs.Nodup ∧ gs.length ≤ 162 ∧ ∀ z, z ∈ gs ↔ Fol g z
theorem FlI.fin {g : Gd} {gs : List Gd} (hv : VdG g) (h : FlI g g.1.length 0 2 0 0 gs) : IsF g gs := by
  refine ⟨h.nd, h.len hv, fun z => ⟨h.fol z, ?_⟩⟩
  rintro ⟨x, y, kk, rr, a, ⟨c, r, hc, hr, rfl⟩, hk, hy, rfl⟩
  obtain ⟨_, hrg, _⟩ := applyM_inv hy
  obtain ⟨_, ⟨ha0, ha1⟩, _⟩ := hrg
  simp only [trl_length] at ha1
  have ha : a < (g.1.length : Int) := by
    rcases hk with rfl | rfl <;> simp only [limAt] at ha1 <;> simp at ha1 <;> omega
  obtain ⟨j, rfl⟩ : ∃ j : Nat, a = j := ⟨a.toNat, by omega⟩
  obtain ⟨kd, rfl, hkd⟩ : ∃ kd : Nat, kk = kd ∧ (2 ≤ kd ∧ kd ≤ 3) := ⟨kk.toNat, by omega, by omega⟩
  exact h.cov c r kd j (if rr then 1 else 0) hc hr hkd.1 hkd.2 (by omega) (by split <;> omega) (by omega) y (by cases rr <;> exact hy)
end Go.Proofs.YteliflcbegcdlaaGreatDoor
