/- A queue of integers: a slice of the call's own that is cut at its head and appended to. -/
import Derived.Test.YtcjaloddgilnpaaZOwn
import Derived.Deep.AppendSrc
namespace Go.Proofs.Ytcjaloddgilnpaa
set_option linter.unusedVariables false
open Go.RowKit

/-- v is a part of a block of the call's own, from block base on, that reads as the integers xs -/
def QI (e : TypeId) (base : Nat) (w : World) (v : Value) (xs : List Int) : Prop :=
  ∃ g o c cur, v = .slice (some ⟨g, o, none⟩) xs.length c ∧ base ≤ g ∧ w.heap[g]? = some (.cells cur e (0, 0)) ∧ xs.length ≤ c ∧ o + c ≤ cur.size ∧ ∀ k x, xs[k]? = some x → cur[o + k]? = some (.int .i64 x)

section
variable {e : TypeId} {base : Nat} {w w' : World} {v : Value} {xs : List Int}
theorem QI.one (w : World) (e : TypeId) (base : Nat) (hb : base ≤ w.heap.size) (x : Int) : QI e base (w.alloc (.cells #[.int .i64 x] e)) (.slice (some ⟨w.heap.size, 0, none⟩) 1 1) [x] := by
  refine ⟨w.heap.size, 0, 1, #[.int .i64 x], rfl, hb, heap_alloc_new w _, Nat.le_refl _, Nat.le_refl _, ?_⟩
  intro k y hk
  have hk0 : k = 0 := by have := (List.getElem?_eq_some_iff.1 hk).1; simp at this; exact this
  subst hk0
  simp at hk; subst hk; rfl
theorem QI.lt {g o n c : Nat} (h : QI e base w (.slice (some ⟨g, o, none⟩) n c) xs) : base ≤ g ∧ g < w.heap.size := by
  obtain ⟨g', o', c', cur, hv, hb, hg, _⟩ := h
  injection hv with h1 h2 h3
  injection h1 with h1
  injection h1 with h1
  subst h1
  refine ⟨hb, ?_⟩
  rcases Nat.lt_or_ge g w.heap.size with hlt | hge
  · exact hlt
  · rw [Array.getElem?_eq_none hge] at hg; cases hg
theorem QI.keep (h : QI e base w v xs) (hk : ∀ g o n c, v = .slice (some ⟨g, o, none⟩) n c → w'.heap[g]? = w.heap[g]?) : QI e base w' v xs := by
  obtain ⟨g, o, c, cur, hv, hb, hg, r⟩ := h
  exact ⟨g, o, c, cur, hv, hb, (hk g o _ c hv).trans hg, r⟩
theorem QI.alloc (h : QI e base w v xs) (ob : Obj) : QI e base (w.alloc ob) v xs := by
  obtain ⟨g, o, c, cur, hv, hb, hg, r⟩ := h
  refine ⟨g, o, c, cur, hv, hb, ?_, r⟩
  have hlt : g < w.heap.size := by
    rcases Nat.lt_or_ge g w.heap.size with hlt | hge
    · exact hlt
    · rw [Array.getElem?_eq_none hge] at hg; cases hg
  rw [Below.heap_alloc w ob g hlt]; exact hg
theorem QI.head {x : Int} (h : QI e base w v (x :: xs)) : ∃ g o c, v = .slice (some ⟨g, o, none⟩) (xs.length + 1) c ∧ xs.length + 1 ≤ c ∧ w.cell? ⟨g, o, none⟩ = some (.int .i64 x) := by
  obtain ⟨g, o, c, cur, hv, hb, hg, hc, hs, hx⟩ := h
  refine ⟨g, o, c, hv, hc, ?_⟩
  rw [cell_of_row w g o cur e (0, 0) hg]
  exact hx 0 x rfl
theorem QI.tail {x : Int} {g o n c : Nat} (h : QI e base w (.slice (some ⟨g, o, none⟩) n c) (x :: xs)) (A : Option Addr) (hA : A = some ⟨g, o, none⟩ ∧ c - 1 = 0 ∨ A = some ⟨g, o + 1, none⟩) : QI e base w (.slice A (n - 1) (c - 1)) xs := by
  obtain ⟨g', o', c', cur, hv, hb, hg, hc, hs, hx⟩ := h
  injection hv with h1 h2 h3
  injection h1 with h1
  injection h1 with h1 h4
  subst h1 h2 h3 h4
  simp only [List.length_cons] at hc ⊢
  rcases hA with ⟨rfl, hA⟩ | rfl
  · refine ⟨g, o, c - 1, cur, by simp, hb, hg, by omega, by omega, fun k y hk => ?_⟩
    have := (List.getElem?_eq_some_iff.1 hk).1; omega
  · refine ⟨g, o + 1, c - 1, cur, by simp, hb, hg, by omega, by omega, fun k y hk => ?_⟩
    have := hx (k + 1) y (by simpa using hk)
    rw [Nat.add_assoc, Nat.add_comm 1 k]; exact this

/-- the run of append(v, x) -/
theorem run_appQ {P : Program} {t ty : TypeId} {i : TypeInfo} (ht : P.underlying t = some (.slice e)) (hi : P.info? e = some i) (hz : i.zero = some (.int .i64 0)) (hs : i.size = 1) (hby : i.bytes = 8)
    (h : QI e base w v xs) {b : Nat} {x : Int} (hu : w.cell? ⟨b, 0, none⟩ = some (.int .i64 x)) (hlen : xs.length ≤ 1000000) (hbase : base ≤ w.heap.size) :
    ∃ v' w', (Builtin.append_ #[t, t] ty #[v, .slice (some ⟨b, 0, none⟩) 1 1]).run P w = .ok v' w' ∧ QI e base w' v' (xs ++ [x]) ∧ Below base w w' ∧
      (∀ k, k < w.heap.size → (∀ g o n c, v = .slice (some ⟨g, o, none⟩) n c → g ≠ k) → w'.heap[k]? = w.heap[k]?) ∧ w.heap.size ≤ w'.heap.size ∧
      (∀ g o n c, v' = .slice (some ⟨g, o, none⟩) n c → (∃ o n c, v = .slice (some ⟨g, o, none⟩) n c) ∨ w.heap.size ≤ g) := by
  obtain ⟨g, o, c, cur, rfl, hb, hg, hc, hsz, hx⟩ := h
  have hcells : ∀ j u, [Value.int .i64 x][j]? = some u → w.cell? ((⟨b, 0, none⟩ : Addr).add j) = some u := by
    intro j u hj
    have hj0 : j = 0 := by have := (List.getElem?_eq_some_iff.1 hj).1; simp at this; exact this
    subst hj0
    simp at hj; subst hj
    have : (⟨b, 0, none⟩ : Addr).add 0 = ⟨b, 0, none⟩ := by unfold Addr.add; split <;> simp_all
    rw [this]; exact hu
  have hlt : g < w.heap.size := by
    rcases Nat.lt_or_ge g w.heap.size with hlt | hge
    · exact hlt
    · rw [Array.getElem?_eq_none hge] at hg; cases hg
  have src : Src P i.size t (.slice (some ⟨b, 0, none⟩) 1 1) 1 [Value.int .i64 x] w := Src.ofSlice w ht _ 1 1 _ (by rw [hs]; rfl) hcells (by intro u hu; simp at hu; subst hu; rfl)
  by_cases hroom : xs.length + 1 ≤ c
  · have hin : o + xs.length < cur.size := by omega
    have hcell : w.cell? ⟨g, o + xs.length, none⟩ = some cur[o + xs.length] := by
      rw [cell_of_row w g _ cur e (0, 0) hg, Array.getElem?_eq_getElem hin]
    have hfr : w.frozen? ⟨g, o + xs.length, none⟩ = false := frozen_of_row w g _ cur e hg
    have hr := run_append_room_src (P := P) w t t ty e i ht hi g o xs.length c (.slice (some ⟨b, 0, none⟩) 1 1) 1 [Value.int .i64 x] src hroom
      (by intro j hj; simp at hj; subst hj; rw [hs, Nat.mul_one, Nat.add_zero, hcell]; rfl) (by intro j hj; simp at hj; subst hj; rw [hs, Nat.mul_one, Nat.add_zero]; exact hfr)
    rw [hs, Nat.mul_one] at hr
    have hset : w.setCells g (o + xs.length) [Value.int .i64 x] = w.setCell ⟨g, o + xs.length, none⟩ (.int .i64 x) := rfl
    rw [hset] at hr
    refine ⟨_, _, hr, ⟨g, o, c, cur.setIfInBounds (o + xs.length) (.int .i64 x), by simp, hb, ?_, by simp; omega, by simpa using hsz, ?_⟩, (Below.refl _ _).setCell (p := ⟨g, o + xs.length, none⟩) hb _, ?_, ?_, ?_⟩
    · rw [heap_setCell_same w g _ cur e _ hg]
    · intro k y hk
      rcases Nat.lt_or_ge k xs.length with hk1 | hk1
      · rw [List.getElem?_append_left hk1] at hk
        have := hx k y hk
        rw [Array.getElem?_setIfInBounds, if_neg (by omega)]; exact this
      · rw [List.getElem?_append_right hk1] at hk
        have hk0 : k - xs.length = 0 := by have := (List.getElem?_eq_some_iff.1 hk).1; simp at this; omega
        rw [hk0] at hk
        simp at hk; subst hk
        have : k = xs.length := by omega
        subst this
        rw [Array.getElem?_setIfInBounds, if_pos rfl]
        simp [hin]
    · intro k hk hne
      exact Below.heap_setCell w ⟨g, o + xs.length, none⟩ _ k (fun e => hne g o _ c rfl e.symm)
    · exact ((Below.refl base w).setCell (p := ⟨g, o + xs.length, none⟩) hb (.int .i64 x)).size
    · intro g' o' n' c' hv
      injection hv with h1
      injection h1 with h1
      injection h1 with h1
      subst h1
      exact Or.inl ⟨_, _, _, rfl⟩
  · have hold : ∀ j u, (xs.map (Value.int .i64))[j]? = some u → w.cell? ((⟨g, o, none⟩ : Addr).add j) = some u := by
      intro j u hj
      rw [List.getElem?_map] at hj
      cases hy : xs[j]? with
      | none => rw [hy] at hj; cases hj
      | some y =>
        rw [hy] at hj
        injection hj with hj
        have : (⟨g, o, none⟩ : Addr).add j = ⟨g, o + j, none⟩ := by unfold Addr.add; split <;> simp_all
        rw [this, ← hj, cell_of_row w g _ cur e (0, 0) hg]
        exact hx j y hy
    have hncap : Builtin.nextslicecap (xs.length + 1) c * i.bytes ≤ 281474976710656 := by
      have := nextslicecap_le (need := xs.length + 1) (old := c) (by omega)
      rw [hby]; omega
    have hr := run_append_grow (P := P) w t ty e i (.int .i64 0) ht hi hz ⟨g, o, none⟩ xs.length c (xs.map (Value.int .i64)) (by rw [hs]; simp) hold ⟨b, 0, none⟩ 1 1 [Value.int .i64 x] (by rw [hs]; rfl) hcells (by omega) (by omega) hncap
    have hge : xs.length + 1 ≤ grownCap w (xs.length + 1) c e := grownCap_ge w _ _ _
    refine ⟨_, _, hr, ⟨w.heap.size, 0, _, _, by simp; rfl, hbase, heap_alloc_new w.drew _, by simp; exact hge, ?_, ?_⟩, Below.alloc (a := w) (w := w.drew) (bdrewN (Below.refl _ _) 1) hbase _, ?_, ?_, ?_⟩
    · rw [Array.size_append, size_zeroCells]
      have : (Value.int .i64 0).cells.size = 1 := rfl
      rw [this]; simp; omega
    · intro k y hk
      have hk2 : k < xs.length + 1 := by have := (List.getElem?_eq_some_iff.1 hk).1; simpa using this
      rw [Nat.zero_add, Array.getElem?_append_left (by simp; omega)]
      have h3 : ((xs ++ [x]).map (Value.int .i64))[k]? = some (.int .i64 y) := by rw [List.getElem?_map, hk]; rfl
      rw [List.map_append] at h3
      simpa using h3
    · intro k hk hne
      exact Below.heap_alloc w.drew _ k hk
    · exact Nat.le_trans (Nat.le_succ _) (by simp [World.alloc])
    · intro g' o' n' c' hv
      injection hv with h1
      injection h1 with h1
      injection h1 with h1
      subst h1
      exact Or.inr (Nat.le_refl _)
end

section
variable {P : Program} {w : World} {e : TypeId} {base : Nat} {v : Value} {xs : List Int}
theorem wp_appQ {o : Oper} {a : Act} {K : Act → World → Prop} {Q : Exit → Act → World → Prop} (s x : Operand) (t : TypeId) (ho : o.op = .call { callee := .builtin .append, args := #[s, x], argTypes := #[t, t] })
    {i : TypeInfo} (ht : P.underlying t = some (.slice e)) (hi : P.info? e = some i) (hz : i.zero = some (.int .i64 0)) (hs : i.size = 1) (hby : i.bytes = 8)
    (hv : a.eval s = v) (h : QI e base w v xs) {b : Nat} {y : Int} (hx : a.eval x = .slice (some ⟨b, 0, none⟩) 1 1) (hu : w.cell? ⟨b, 0, none⟩ = some (.int .i64 y)) (hlen : xs.length ≤ 1000000) (hbase : base ≤ w.heap.size)
    (hK : ∀ v' w', QI e base w' v' (xs ++ [y]) → Below base w w' → (∀ k, k < w.heap.size → (∀ g o n c, v = .slice (some ⟨g, o, none⟩) n c → g ≠ k) → w'.heap[k]? = w.heap[k]?) → w.heap.size ≤ w'.heap.size →
      (∀ g o n c, v' = .slice (some ⟨g, o, none⟩) n c → (∃ o n c, v = .slice (some ⟨g, o, none⟩) n c) ∨ w.heap.size ≤ g) → K (a.put o.dst v') w') : o.wp P a w K Q := by
  obtain ⟨v', w', hrun, h1, h2, h3, h4, h5⟩ := run_appQ (P := P) (ty := o.type) ht hi hz hs hby h hu hlen hbase
  unfold Oper.wp execOp
  simp only [ho, resolve, invoke, builtin, Sem.run_bind, Sem.run_pure, Result.andThen_ok, List.map_toArray, List.map_cons, List.map_nil, hv, hx, hrun]
  exact hK v' w' h1 h2 h3 h4 h5
/-- in a plain region, behind 'at_builtin' -/
theorem wpList_appQ {ops : Array Oper} {rest : List Oper} {o : Oper} {a : Act} {Q : Exit → Act → World → Prop} (hgd : o.guard = none) (s x : Operand) (t : TypeId) (ho : o.op = .call { callee := .builtin .append, args := #[s, x], argTypes := #[t, t] })
    {i : TypeInfo} (ht : P.underlying t = some (.slice e)) (hi : P.info? e = some i) (hz : i.zero = some (.int .i64 0)) (hs : i.size = 1) (hby : i.bytes = 8)
    (hv : a.eval s = v) (h : QI e base w v xs) {b : Nat} {y : Int} (hx : a.eval x = .slice (some ⟨b, 0, none⟩) 1 1) (hu : w.cell? ⟨b, 0, none⟩ = some (.int .i64 y)) (hlen : xs.length ≤ 1000000) (hbase : base ≤ w.heap.size)
    (hK : ∀ v' w', QI e base w' v' (xs ++ [y]) → Below base w w' → (∀ k, k < w.heap.size → (∀ g o n c, v = .slice (some ⟨g, o, none⟩) n c → g ≠ k) → w'.heap[k]? = w.heap[k]?) → w.heap.size ≤ w'.heap.size →
      (∀ g o n c, v' = .slice (some ⟨g, o, none⟩) n c → (∃ o n c, v = .slice (some ⟨g, o, none⟩) n c) ∨ w.heap.size ≤ g) → wpList P ops Q rest (a.put o.dst v') w') : wpList P ops Q (o :: rest) a w :=
  wpList_plain hgd fun _ hk => wp_appQ s x t ho ht hi hz hs hby hv h hx hu hlen hbase fun v' w' h1 h2 h3 h4 h5 => hk _ _ (hK v' w' h1 h2 h3 h4 h5)
end
end Go.Proofs.Ytcjaloddgilnpaa
