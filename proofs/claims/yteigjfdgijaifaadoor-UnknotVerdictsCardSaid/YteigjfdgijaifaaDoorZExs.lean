/- package unknot: what explore keeps (plain facts on runs; boxes and the state in memory). -/
import Derived.Test.YteigjfdgijaifaaDoorZNxs
import Derived.Test.YteigjfdgijaifaaDoorZSad
import Derived.Test.YteigjfdgijaifaaDoorZNbp
import Derived.Test.YteigjfdgijaifaaDoorZMrk
namespace Go.Proofs.YteigjfdgijaifaaDoor
open Go.RowKit Go.Shelf
set_option linter.unusedVariables false

/-! ### plain -/
theorem modify_mem {α : Type} {f : α → α} : ∀ {l : List α} {n : Nat} {x : α}, x ∈ l.modify n f → x ∈ l ∨ ∃ y ∈ l, x = f y
  | [], n, x, h => by simp at h
  | a :: l, 0, x, h => by
    simp at h
    rcases h with h | h
    · exact .inr ⟨a, by simp, h⟩
    · exact .inl (by simp [h])
  | a :: l, n + 1, x, h => by
    simp at h
    rcases h with h | h
    · exact .inl (by simp [h])
    · rcases modify_mem h with h | ⟨y, h1, h2⟩
      · exact .inl (by simp [h])
      · exact .inr ⟨y, by simp [h1], h2⟩
theorem StP.add {most : Int} {s s' : St} {g : Gd} {fr : Option Gd} {ms : List Mv} (h : StP s) (hg : VdG g) (ha : addM most s g fr ms = some s') : StP s' := by
  unfold addM at ha
  split at ha
  · injection ha with ha; subst ha; exact h
  next hk =>
  split at ha
  · cases ha
  injection ha with ha
  subst ha
  refine ⟨?_, ?_, ?_, ?_, by simpa using h.l2⟩
  · intro e he
    rcases List.mem_append.1 he with he | he
    · exact h.v1 e he
    · rw [List.mem_singleton.1 he]; exact lstM_vd hg
  · intro l hl g' hg'
    rcases modify_mem hl with hl | ⟨y, hy, rfl⟩
    · exact h.v2 l hl g' hg'
    · rcases List.mem_append.1 hg' with q | q
      · exact h.v2 y hy g' q
      · rw [List.mem_singleton.1 q]; exact hg
  · rw [List.map_append, List.nodup_append]
    refine ⟨h.nd, by simp, ?_⟩
    intro a ha b hb e
    obtain ⟨x, hx, rfl⟩ := List.mem_map.1 ha
    simp at hb
    exact hasK_no hk x hx (e.trans hb)
  · intro l hl
    rw [List.length_append, List.length_singleton]
    rcases modify_mem hl with hl | ⟨y, hy, rfl⟩
    · have := h.sm l hl; omega
    · have := h.sm y hy; simp; omega
theorem nextM_get : ∀ {l : List (List Gd)} {g : Gd} {W : List (List Gd)}, nextM l = some (g, W) → ∃ k t, l[k]? = some (g :: t) ∧ W = l.set k t
  | [], g, W, h => by cases h
  | [] :: l, g, W, h => by
    rw [nextM] at h
    cases hn : nextM l with
    | none => rw [hn] at h; cases h
    | some p =>
      rw [hn] at h
      injection h with h
      injection h with h1 h2
      obtain ⟨p1, p2⟩ := p
      simp only at h1 h2
      subst h1
      obtain ⟨k, t, e1, e2⟩ := nextM_get hn
      exact ⟨k + 1, t, by simpa using e1, by rw [← h2, e2]; rfl⟩
  | (x :: t) :: l, g, W, h => by
    rw [nextM] at h
    injection h with h
    injection h with h1 h2
    subst h1
    exact ⟨0, t, rfl, h2.symm⟩
theorem StP.next {s : St} {g : Gd} {W : List (List Gd)} (h : StP s) (hn : nextM s.2 = some (g, W)) : StP (s.1, W) ∧ VdG g := by
  obtain ⟨k, t, e1, rfl⟩ := nextM_get hn
  have hm := List.mem_of_getElem? e1
  refine ⟨⟨h.v1, ?_, h.nd, ?_, by simpa using h.l2⟩, h.v2 _ hm g (by simp)⟩
  · intro l hl g' hg'
    rcases List.mem_or_eq_of_mem_set hl with q | q
    · exact h.v2 l q g' hg'
    · subst q; exact h.v2 _ hm g' (by simp [hg'])
  · intro l hl
    rcases List.mem_or_eq_of_mem_set hl with q | q
    · exact h.sm l q
    · subst q; have := h.sm _ hm; simp at this ⊢; omega
/-- how many grids wait -/
def wtN (W : List (List Gd)) : Nat := (W.map List.length).sum
theorem wtN_modify : ∀ (W : List (List Gd)) (n : Nat) (g : Gd), wtN (W.modify n (· ++ [g])) ≤ wtN W + 1
  | [], n, g => by simp [wtN]
  | x :: W, 0, g => by simp [wtN]; omega
  | x :: W, n + 1, g => by
    have := wtN_modify W n g
    simp [wtN] at this ⊢
    omega
theorem wtN_set : ∀ (W : List (List Gd)) (k : Nat) (g : Gd) (t : List Gd), W[k]? = some (g :: t) → wtN (W.set k t) + 1 = wtN W
  | [], k, g, t, h => by simp at h
  | x :: W, 0, g, t, h => by simp at h; subst h; simp [wtN]; omega
  | x :: W, k + 1, g, t, h => by
    have := wtN_set W k g t (by simpa using h)
    simp [wtN] at this ⊢
    omega
def meas (most : Int) (s : St) : Nat := 2 * (most.toNat - s.1.length) + wtN s.2
theorem meas_add {most : Int} {s s' : St} {g : Gd} {fr : Option Gd} {ms : List Mv} (ha : addM most s g fr ms = some s') : meas most s' ≤ meas most s := by
  unfold addM at ha
  split at ha
  · injection ha with ha; subst ha; exact Nat.le_refl _
  split at ha
  · cases ha
  injection ha with ha
  subst ha
  have := wtN_modify s.2 g.1.length g
  unfold meas
  simp only [List.length_append, List.length_singleton]
  omega
theorem meas_all {most : Int} {fr : Option Gd} : ∀ (l : List (List Mv × Gd)) {s s' : St}, addAll most fr s l = some s' → meas most s' ≤ meas most s
  | [], s, s', h => by injection h with h; subst h; exact Nat.le_refl _
  | (ms, g) :: t, s, s', h => by
    unfold addAll at h
    cases h1 : addM most s g fr ms with
    | none => rw [h1] at h; cases h
    | some s1 =>
      rw [h1] at h
      exact Nat.le_trans (meas_all t h) (meas_add h1)
theorem meas_next {most : Int} {s : St} {g : Gd} {W : List (List Gd)} (hn : nextM s.2 = some (g, W)) : meas most (s.1, W) + 1 = meas most s := by
  obtain ⟨k, t, e1, rfl⟩ := nextM_get hn
  have := wtN_set _ _ _ _ e1
  unfold meas
  simp only
  omega
theorem addAll_app {most : Int} {fr : Option Gd} : ∀ (a b : List (List Mv × Gd)) (s : St), addAll most fr s (a ++ b) = (addAll most fr s a).bind fun s' => addAll most fr s' b
  | [], b, s => rfl
  | (ms, g) :: a, b, s => by
    rw [List.cons_append, addAll, addAll]
    cases h1 : addM most s g fr ms with
    | none => rfl
    | some s1 => exact addAll_app a b s1
theorem addAll_succ {most : Int} {fr : Option Gd} {l : List (List Mv × Gd)} {k : Nat} {s s1 : St} {ms : List Mv} {g : Gd} (h : addAll most fr s (l.take k) = some s1) (hk : l[k]? = some (ms, g)) : addAll most fr s (l.take (k + 1)) = addM most s1 g fr ms := by
  have hlt := (List.getElem?_eq_some_iff.1 hk).1
  have he := (List.getElem?_eq_some_iff.1 hk).2
  rw [List.take_succ_eq_append_getElem hlt, addAll_app, h, he]
  show addAll most fr s1 [(ms, g)] = _
  rw [addAll]
  cases addM most s1 g fr ms <;> rfl
theorem addAll_none {most : Int} {fr : Option Gd} {l : List (List Mv × Gd)} {k : Nat} {s : St} (h : addAll most fr s (l.take k) = none) : addAll most fr s l = none := by
  conv => lhs; rw [← List.take_append_drop k l]
  rw [addAll_app, h]; rfl
/-- the neighbors are valid -/
theorem nbrs_vd {g z : Gd} {ms : List Mv} (h : VdG g) (hm : (ms, z) ∈ nbrs g) : VdG z := by
  have one : ∀ m, (ms, z) ∈ tryM g [m] → VdG z := fun m hm => by
    obtain ⟨_, q⟩ := (tryM_one h _ _).1 hm
    exact applyM_res_vd q
  have two : ∀ m m', (ms, z) ∈ tryM g [m, m'] → VdG z := fun m m' hm => by
    obtain ⟨_, y, _, q⟩ := (tryM_two h _ _).1 hm
    exact applyM_res_vd q
  have key : ∀ r, (ms, z) ∈ nbR g r → VdG z := fun r hm => by
    unfold nbR nb1 nb2 nb3 at hm
    rcases List.mem_append.1 hm with hm | hm
    · rcases List.mem_append.1 hm with hm | hm
      · obtain ⟨i, hi, q⟩ := List.mem_flatMap.1 hm
        unfold rmL at q
        split at q
        · exact one _ q
        · exact two _ _ q
      · obtain ⟨i, hi, q⟩ := List.mem_flatMap.1 hm
        exact one _ q
    · exact two _ _ hm
  unfold nbrs at hm
  rcases List.mem_append.1 hm with hm | hm
  · exact key _ hm
  · exact key _ hm
/-- the start of a search -/
def st00 : St := ([], List.replicate 41 [])
theorem StP.start : StP st00 := ⟨fun e h => by simp [st00] at h, fun l hl g hg => by unfold st00 at hl; simp at hl; subst hl; simp at hg, by simp [st00], fun l hl => by unfold st00 at hl; simp at hl; subst hl; simp, by simp [st00]⟩
/-- how a search from g ends -/
inductive Exq (most : Int) (short : Bool) (g : Gd) : Res → Prop
  | none : addM most st00 g none [] = none → Exq most short g .fuel
  | some {s : St} {r : Res} : addM most st00 g none [] = some s → Run most short s r → Exq most short g r
/-! ### memory -/
/-- block l holds neither cells nor a map -/
def Nc (l : Nat) (A : World) : Prop := (∀ es c, A.heap[l]? ≠ some (.map es c)) ∧ ∀ cs t fr, A.heap[l]? ≠ some (.cells cs t fr)
theorem Lp.nc {l : Nat} {A : World} (h : Lp l A) : Nc l A := by
  obtain ⟨r, h⟩ := h
  exact ⟨fun es c e => (by rw [h] at e; cases e), fun cs t fr e => (by rw [h] at e; cases e)⟩
theorem Nc.of_def {l : Nat} {A : World} {x : Option (List Deferred)} (h : A.heap[l]? = some (.deferred x)) : Nc l A :=
  ⟨fun es c e => (by rw [h] at e; cases e), fun cs t fr e => (by rw [h] at e; cases e)⟩
theorem Nc.ne {l b i : Nat} {A : World} {v : Value} (h : Nc l A) (k : A.cell? ⟨b, i, none⟩ = some v) : b ≠ l := by
  rintro rfl
  unfold World.cell? at k
  simp only at k
  split at k
  · next cs t fr e => exact h.2 _ _ _ e
  · cases k
theorem Nc.arr {l b : Nat} {A : World} {t : TypeId} {cs : List Value} {o : Obj} (h : Nc l A) (ha : Arr A b t cs) : Arr (A.putObj l o) b t cs :=
  (World.putObj_heap_other (fun e => h.2 _ _ _ (e ▸ ha))).trans ha
theorem Nc.cell {l b i : Nat} {A : World} {v : Value} {o : Obj} (h : Nc l A) (k : A.cell? ⟨b, i, none⟩ = some v) : (A.putObj l o).cell? ⟨b, i, none⟩ = some v :=
  (World.cell?_of_block (World.putObj_heap_other (h.ne k))).trans k
theorem Nc.ints {A : World} {l : Nat} {o : Obj} {v : Value} {xs : List Int} (h : Nc l A) (k : Ints A v xs) : Ints (A.putObj l o) v xs := by
  obtain ⟨A0, c, e, hc, hx⟩ := k
  refine ⟨A0, c, e, hc, fun j x hj => ?_⟩
  obtain ⟨b, off, e1, hcell⟩ := hx j x hj
  exact ⟨b, off, e1, h.cell hcell⟩
theorem Nc.moves {A : World} {l : Nat} {o : Obj} {v : Value} {ms : List Mv} (h : Nc l A) (k : Moves A v ms) : Moves (A.putObj l o) v ms := by
  obtain ⟨A0, c, e, hx⟩ := k
  refine ⟨A0, c, e, fun j hj => ?_⟩
  obtain ⟨b, off, e1, hcell⟩ := hx j hj
  exact ⟨b, off, e1, fun i u hu => h.cell (hcell i u hu)⟩
section
variable {gS : Nat} {w w' : World} {s : St} {p : SP}
theorem SI.putN (h : SI gS w s p) {l : Nat} {o : Obj} (hl : Nc l w) : SI gS (w.putObj l o) s p := by
  have hne : ∀ b, Ow gS p b → (w.putObj l o).heap[b]? = w.heap[b]? := fun b ho => World.putObj_heap_other (by
    rintro rfl
    rcases h.typ ho with ⟨es, c, e2⟩ | ⟨cs, t, fr, e2, _⟩
    · exact hl.1 _ _ e2
    · exact hl.2 _ _ _ e2)
  obtain ⟨cs, q1, q2⟩ := h.cls
  exact ⟨(hne _ (.inl rfl)).trans h.hd, h.wl, h.w2, h.ne, h.mp1.keep (hne _ (.inr (.inl rfl))), h.mp2.keep (hne _ (.inr (.inr (.inl rfl)))),
    ⟨h.al1.1, fun i q e h1 h2 => ⟨(h.al1.2 i q e h1 h2).1, hl.moves (h.al1.2 i q e h1 h2).2⟩⟩, ⟨cs, q1.keepK fun b hb => hne b (.inr (.inr (.inr (.inl hb)))), q2.imp fun q g hx => ⟨hl.ints hx.1, hl.ints hx.2⟩⟩,
    fun i v gs h1 h2 => by
      obtain ⟨ps, a, b⟩ := h.wt i v gs h1 h2
      exact ⟨ps, a.keepK fun b hb => hne b (.inr (.inr (.inr (.inr ⟨v, List.mem_of_getElem? h1, hb⟩)))), b.imp fun q g hx => ⟨hl.ints hx.1, hl.ints hx.2⟩⟩, h.ap1, h.ap2⟩
/-- the state where its blocks and the integers stay as they were -/
theorem SI.hold (h : SI gS w s p) (hk : ∀ b, Ow gS p b → w'.heap[b]? = w.heap[b]?) (hi : ∀ b i k n, w.cell? ⟨b, i, none⟩ = some (.int k n) → w'.heap[b]? = w.heap[b]?) : SI gS w' s p := by
  have hin : ∀ {v : Value} {xs : List Int}, Ints w v xs → Ints w' v xs := fun {v xs} hx => by
    obtain ⟨A0, c, e, hc, hx⟩ := hx
    refine ⟨A0, c, e, hc, fun j x hj => ?_⟩
    obtain ⟨b, off, e1, hcell⟩ := hx j x hj
    exact ⟨b, off, e1, (World.cell?_of_block (hi b _ _ _ hcell)).trans hcell⟩
  have hmv : ∀ {v : Value} {ms : List Mv}, Moves w v ms → Moves w' v ms := fun {v ms} hx => by
    obtain ⟨A0, c, e, hx⟩ := hx
    refine ⟨A0, c, e, fun j hj => ?_⟩
    obtain ⟨b, off, e1, hcell⟩ := hx j hj
    have hb := hi b _ _ _ (hcell 0 _ rfl)
    exact ⟨b, off, e1, fun i u hu => (World.cell?_of_block hb).trans (hcell i u hu)⟩
  obtain ⟨cs, q1, q2⟩ := h.cls
  exact ⟨(hk _ (.inl rfl)).trans h.hd, h.wl, h.w2, h.ne, h.mp1.keep (hk _ (.inr (.inl rfl))), h.mp2.keep (hk _ (.inr (.inr (.inl rfl)))),
    ⟨h.al1.1, fun i q e h1 h2 => ⟨(h.al1.2 i q e h1 h2).1, hmv (h.al1.2 i q e h1 h2).2⟩⟩, ⟨cs, q1.keepK fun b hb => hk b (.inr (.inr (.inr (.inl hb)))), q2.imp fun q g hx => ⟨hin hx.1, hin hx.2⟩⟩,
    fun i v gs h1 h2 => by
      obtain ⟨ps, a, b⟩ := h.wt i v gs h1 h2
      exact ⟨ps, a.keepK fun b hb => hk b (.inr (.inr (.inr (.inr ⟨v, List.mem_of_getElem? h1, hb⟩)))), b.imp fun q g hx => ⟨hin hx.1, hin hx.2⟩⟩, h.ap1, h.ap2⟩
/-- a block of another type than the state's is not the state's -/
theorem SI.other (h : SI gS w s p) {b : Nat} {t : TypeId} {cs : List Value} (ha : Arr w b t cs) (h1 : t ≠ 59) (h2 : t ≠ 26) : ¬ Ow gS p b := by
  intro hb
  have ha' : w.heap[b]? = _ := ha
  rcases h.typ hb with ⟨es, c, e⟩ | ⟨cs', t', fr, e, ht⟩
  · rw [e] at ha'; cases ha'
  · rw [e] at ha'
    injection ha' with ha'
    injection ha' with _ e2 _
    subst e2
    rcases ht with rfl | rfl
    · exact h1 rfl
    · exact h2 rfl
theorem Kf.arr (k : Kf gS p w w') {b : Nat} {t : TypeId} {cs : List Value} (ha : Arr w b t cs) (hb : ¬ Ow gS p b) : Arr w' b t cs := (k.keep b ha.lt hb).trans ha
end
/-- explore's boxes -/
structure ExB (n0 b4 b6 b7 b8 b9 gS : Nat) (most : Int) (w W : World) : Prop where
  bel : Below n0 w W
  le : n0 ≤ W.heap.size
  x4 : Arr W b4 3 [.int .i64 most]
  x6 : ∃ v, Arr W b6 52 [.pointer v]
  x7 : ∃ v, Arr W b7 9 [.string v]
  x8 : Arr W b8 27 [.int .i64 0]
  x9 : Arr W b9 52 [.pointer (some ⟨gS, 0, none⟩)]
  n9 : b9 ≠ b6
section
variable {n0 b4 b6 b7 b8 b9 gS : Nat} {most : Int} {w W W' : World} {s : St} {p : SP}
theorem ExB.below (h : ExB n0 b4 b6 b7 b8 b9 gS most w W) (hb : Below W.heap.size W W') : ExB n0 b4 b6 b7 b8 b9 gS most w W' := by
  obtain ⟨v6, h6⟩ := h.x6
  obtain ⟨v7, h7⟩ := h.x7
  have h8 := h.x8
  exact ⟨h.bel.trans (hb.mono h.le), Nat.le_trans h.le hb.size, h.x4.below hb h.x4.lt, ⟨v6, h6.below hb h6.lt⟩, ⟨v7, h7.below hb h7.lt⟩, h8.below hb h8.lt, h.x9.below hb h.x9.lt, h.n9⟩
theorem ExB.kf (h : ExB n0 b4 b6 b7 b8 b9 gS most w W) (hs : SI gS W s p) (k : Kf gS p W W') (hb : Below n0 W W') : ExB n0 b4 b6 b7 b8 b9 gS most w W' := by
  obtain ⟨v6, h6⟩ := h.x6
  obtain ⟨v7, h7⟩ := h.x7
  have h8 := h.x8
  exact ⟨h.bel.trans hb, Nat.le_trans h.le k.siz, k.arr h.x4 (hs.other h.x4 (by decide) (by decide)), ⟨v6, k.arr h6 (hs.other h6 (by decide) (by decide))⟩, ⟨v7, k.arr h7 (hs.other h7 (by decide) (by decide))⟩, k.arr h8 (hs.other h8 (by decide) (by decide)), k.arr h.x9 (hs.other h.x9 (by decide) (by decide)), h.n9⟩
theorem ExB.putN (h : ExB n0 b4 b6 b7 b8 b9 gS most w W) {l : Nat} {o : Obj} (hl : Nc l W) (hn : n0 ≤ l) : ExB n0 b4 b6 b7 b8 b9 gS most w (W.putObj l o) := by
  obtain ⟨v6, h6⟩ := h.x6
  obtain ⟨v7, h7⟩ := h.x7
  have h8 := h.x8
  refine ⟨⟨h.bel.os, h.bel.tape, h.bel.output, by rw [World.putObj_size]; exact h.bel.size, fun b hb => ?_⟩, by rw [World.putObj_size]; exact h.le, hl.arr h.x4, ⟨v6, hl.arr h6⟩, ⟨v7, hl.arr h7⟩, hl.arr h8, hl.arr h.x9, h.n9⟩
  exact (World.putObj_heap_other (by omega)).trans (h.bel.block b hb)
end
end Go.Proofs.YteigjfdgijaifaaDoor
