/- A queue of integers: a slice of the call's own that is cut at its head and appended to. -/
/- Queues of elements of some cells: a slice of the call's own that is cut at its head and appended to; a region that draws its order, appends to it and stores it back. -/
/- Maps with string keys, told by a list of their entries: look-up, and a new entry in two steps (mapEntry, entryStore). -/
import Derived.Test.YteigjfdgijaifaaDoorZOwn
import Derived.Deep.AppendSrc
import Derived.Deep.DeepAppendWide
import Derived.Test.YteigjfdgijaifaaDoorZReloc
import Derived.MapKept
import Derived.Below
namespace Go.Proofs.YteigjfdgijaifaaDoor
set_option linter.unusedVariables false
open Go.RowKit

/-- v is a part of a block of the call's own, from block base on, that reads as the integers xs -/
def QI (e : TypeId) (base : Nat) (w : World) (v : Value) (xs : List Int) : Prop :=
  ∃ g o c cur, v = .slice (some ⟨g, o, none⟩) xs.length c ∧ base ≤ g ∧ w.heap[g]? = some (.cells cur e (0, 0)) ∧ xs.length ≤ c ∧ o + c ≤ cur.size ∧ ∀ k x, xs[k]? = some x → cur[o + k]? = some (.int .i64 x)

section
variable {e : TypeId} {base : Nat} {w w' : World} {v : Value} {xs : List Int}
theorem QI.one (w : World) (e : TypeId) (base : Nat) (hb : base ≤ w.heap.size) (x : Int) : QI e base (w.alloc (.cells #[.int .i64 x] e)) (.slice (some ⟨w.heap.size, 0, none⟩) 1 1) [x] := by
  refine ⟨w.heap.size, 0, 1, #[.int .i64 x], rfl, hb, heap_alloc_new w _, Nat.le_refl _, Nat.le_refl _, ?_⟩
  intro k y hk
  have hk0 : k = 0 := by have := (List.getElem?_eq_some_iff.1 hk).1; simp at this; exact this
  subst hk0
  simp at hk; subst hk; rfl
theorem QI.lt {g o n c : Nat} (h : QI e base w (.slice (some ⟨g, o, none⟩) n c) xs) : base ≤ g ∧ g < w.heap.size := by
  obtain ⟨g', o', c', cur, hv, hb, hg, _⟩ := h
  injection hv with h1 h2 h3
  injection h1 with h1
  injection h1 with h1
  subst h1
  refine ⟨hb, ?_⟩
  rcases Nat.lt_or_ge g w.heap.size with hlt | hge
  · exact hlt
  · rw [Array.getElem?_eq_none hge] at hg; cases hg
theorem QI.keep (h : QI e base w v xs) (hk : ∀ g o n c, v = .slice (some ⟨g, o, none⟩) n c → w'.heap[g]? = w.heap[g]?) : QI e base w' v xs := by
  obtain ⟨g, o, c, cur, hv, hb, hg, r⟩ := h
  exact ⟨g, o, c, cur, hv, hb, (hk g o _ c hv).trans hg, r⟩
theorem QI.alloc (h : QI e base w v xs) (ob : Obj) : QI e base (w.alloc ob) v xs := by
  obtain ⟨g, o, c, cur, hv, hb, hg, r⟩ := h
  refine ⟨g, o, c, cur, hv, hb, ?_, r⟩
  have hlt : g < w.heap.size := by
    rcases Nat.lt_or_ge g w.heap.size with hlt | hge
    · exact hlt
    · rw [Array.getElem?_eq_none hge] at hg; cases hg
  rw [Below.heap_alloc w ob g hlt]; exact hg
theorem QI.head {x : Int} (h : QI e base w v (x :: xs)) : ∃ g o c, v = .slice (some ⟨g, o, none⟩) (xs.length + 1) c ∧ xs.length + 1 ≤ c ∧ w.cell? ⟨g, o, none⟩ = some (.int .i64 x) := by
  obtain ⟨g, o, c, cur, hv, hb, hg, hc, hs, hx⟩ := h
  refine ⟨g, o, c, hv, hc, ?_⟩
  rw [cell_of_row w g o cur e (0, 0) hg]
  exact hx 0 x rfl
theorem QI.tail {x : Int} {g o n c : Nat} (h : QI e base w (.slice (some ⟨g, o, none⟩) n c) (x :: xs)) (A : Option Addr) (hA : A = some ⟨g, o, none⟩ ∧ c - 1 = 0 ∨ A = some ⟨g, o + 1, none⟩) : QI e base w (.slice A (n - 1) (c - 1)) xs := by
  obtain ⟨g', o', c', cur, hv, hb, hg, hc, hs, hx⟩ := h
  injection hv with h1 h2 h3
  injection h1 with h1
  injection h1 with h1 h4
  subst h1 h2 h3 h4
  simp only [List.length_cons] at hc ⊢
  rcases hA with ⟨rfl, hA⟩ | rfl
  · refine ⟨g, o, c - 1, cur, by simp, hb, hg, by omega, by omega, fun k y hk => ?_⟩
    have := (List.getElem?_eq_some_iff.1 hk).1; omega
  · refine ⟨g, o + 1, c - 1, cur, by simp, hb, hg, by omega, by omega, fun k y hk => ?_⟩
    have := hx (k + 1) y (by simpa using hk)
    rw [Nat.add_assoc, Nat.add_comm 1 k]; exact this

/-- the run of append(v, x) -/
theorem run_appQ {P : Program} {t ty : TypeId} {i : TypeInfo} (ht : P.underlying t = some (.slice e)) (hi : P.info? e = some i) (hz : i.zero = some (.int .i64 0)) (hs : i.size = 1) (hby : i.bytes = 8)
    (h : QI e base w v xs) {b : Nat} {x : Int} (hu : w.cell? ⟨b, 0, none⟩ = some (.int .i64 x)) (hlen : xs.length ≤ 1000000) (hbase : base ≤ w.heap.size) :
    ∃ v' w', (Builtin.append_ #[t, t] ty #[v, .slice (some ⟨b, 0, none⟩) 1 1]).run P w = .ok v' w' ∧ QI e base w' v' (xs ++ [x]) ∧ Below base w w' ∧
      (∀ k, k < w.heap.size → (∀ g o n c, v = .slice (some ⟨g, o, none⟩) n c → g ≠ k) → w'.heap[k]? = w.heap[k]?) ∧ w.heap.size ≤ w'.heap.size ∧
      (∀ g o n c, v' = .slice (some ⟨g, o, none⟩) n c → (∃ o n c, v = .slice (some ⟨g, o, none⟩) n c) ∨ w.heap.size ≤ g) := by
  obtain ⟨g, o, c, cur, rfl, hb, hg, hc, hsz, hx⟩ := h
  have hcells : ∀ j u, [Value.int .i64 x][j]? = some u → w.cell? ((⟨b, 0, none⟩ : Addr).add j) = some u := by
    intro j u hj
    have hj0 : j = 0 := by have := (List.getElem?_eq_some_iff.1 hj).1; simp at this; exact this
    subst hj0
    simp at hj; subst hj
    have : (⟨b, 0, none⟩ : Addr).add 0 = ⟨b, 0, none⟩ := by unfold Addr.add; split <;> simp_all
    rw [this]; exact hu
  have hlt : g < w.heap.size := by
    rcases Nat.lt_or_ge g w.heap.size with hlt | hge
    · exact hlt
    · rw [Array.getElem?_eq_none hge] at hg; cases hg
  have src : Src P i.size t (.slice (some ⟨b, 0, none⟩) 1 1) 1 [Value.int .i64 x] w := Src.ofSlice w ht _ 1 1 _ (by rw [hs]; rfl) hcells (by intro u hu; simp at hu; subst hu; rfl)
  by_cases hroom : xs.length + 1 ≤ c
  · have hin : o + xs.length < cur.size := by omega
    have hcell : w.cell? ⟨g, o + xs.length, none⟩ = some cur[o + xs.length] := by
      rw [cell_of_row w g _ cur e (0, 0) hg, Array.getElem?_eq_getElem hin]
    have hfr : w.frozen? ⟨g, o + xs.length, none⟩ = false := frozen_of_row w g _ cur e hg
    have hr := run_append_room_src (P := P) w t t ty e i ht hi g o xs.length c (.slice (some ⟨b, 0, none⟩) 1 1) 1 [Value.int .i64 x] src hroom
      (by intro j hj; simp at hj; subst hj; rw [hs, Nat.mul_one, Nat.add_zero, hcell]; rfl) (by intro j hj; simp at hj; subst hj; rw [hs, Nat.mul_one, Nat.add_zero]; exact hfr)
    rw [hs, Nat.mul_one] at hr
    have hset : w.setCells g (o + xs.length) [Value.int .i64 x] = w.setCell ⟨g, o + xs.length, none⟩ (.int .i64 x) := rfl
    rw [hset] at hr
    refine ⟨_, _, hr, ⟨g, o, c, cur.setIfInBounds (o + xs.length) (.int .i64 x), by simp, hb, ?_, by simp; omega, by simpa using hsz, ?_⟩, (Below.refl _ _).setCell (p := ⟨g, o + xs.length, none⟩) hb _, ?_, ?_, ?_⟩
    · rw [heap_setCell_same w g _ cur e _ hg]
    · intro k y hk
      rcases Nat.lt_or_ge k xs.length with hk1 | hk1
      · rw [List.getElem?_append_left hk1] at hk
        have := hx k y hk
        rw [Array.getElem?_setIfInBounds, if_neg (by omega)]; exact this
      · rw [List.getElem?_append_right hk1] at hk
        have hk0 : k - xs.length = 0 := by have := (List.getElem?_eq_some_iff.1 hk).1; simp at this; omega
        rw [hk0] at hk
        simp at hk; subst hk
        have : k = xs.length := by omega
        subst this
        rw [Array.getElem?_setIfInBounds, if_pos rfl]
        simp [hin]
    · intro k hk hne
      exact Below.heap_setCell w ⟨g, o + xs.length, none⟩ _ k (fun e => hne g o _ c rfl e.symm)
    · exact ((Below.refl base w).setCell (p := ⟨g, o + xs.length, none⟩) hb (.int .i64 x)).size
    · intro g' o' n' c' hv
      injection hv with h1
      injection h1 with h1
      injection h1 with h1
      subst h1
      exact Or.inl ⟨_, _, _, rfl⟩
  · have hold : ∀ j u, (xs.map (Value.int .i64))[j]? = some u → w.cell? ((⟨g, o, none⟩ : Addr).add j) = some u := by
      intro j u hj
      rw [List.getElem?_map] at hj
      cases hy : xs[j]? with
      | none => rw [hy] at hj; cases hj
      | some y =>
        rw [hy] at hj
        injection hj with hj
        have : (⟨g, o, none⟩ : Addr).add j = ⟨g, o + j, none⟩ := by unfold Addr.add; split <;> simp_all
        rw [this, ← hj, cell_of_row w g _ cur e (0, 0) hg]
        exact hx j y hy
    have hncap : Builtin.nextslicecap (xs.length + 1) c * i.bytes ≤ 281474976710656 := by
      have := nextslicecap_le (need := xs.length + 1) (old := c) (by omega)
      rw [hby]; omega
    have hr := run_append_grow (P := P) w t ty e i (.int .i64 0) ht hi hz ⟨g, o, none⟩ xs.length c (xs.map (Value.int .i64)) (by rw [hs]; simp) hold ⟨b, 0, none⟩ 1 1 [Value.int .i64 x] (by rw [hs]; rfl) hcells (by omega) (by omega) hncap
    have hge : xs.length + 1 ≤ grownCap w (xs.length + 1) c e := grownCap_ge w _ _ _
    refine ⟨_, _, hr, ⟨w.heap.size, 0, _, _, by simp; rfl, hbase, heap_alloc_new w.drew _, by simp; exact hge, ?_, ?_⟩, Below.alloc (a := w) (w := w.drew) (bdrewN (Below.refl _ _) 1) hbase _, ?_, ?_, ?_⟩
    · rw [Array.size_append, size_zeroCells]
      have : (Value.int .i64 0).cells.size = 1 := rfl
      rw [this]; simp; omega
    · intro k y hk
      have hk2 : k < xs.length + 1 := by have := (List.getElem?_eq_some_iff.1 hk).1; simpa using this
      rw [Nat.zero_add, Array.getElem?_append_left (by simp; omega)]
      have h3 : ((xs ++ [x]).map (Value.int .i64))[k]? = some (.int .i64 y) := by rw [List.getElem?_map, hk]; rfl
      rw [List.map_append] at h3
      simpa using h3
    · intro k hk hne
      exact Below.heap_alloc w.drew _ k hk
    · exact Nat.le_trans (Nat.le_succ _) (by simp [World.alloc])
    · intro g' o' n' c' hv
      injection hv with h1
      injection h1 with h1
      injection h1 with h1
      subst h1
      exact Or.inr (Nat.le_refl _)
end

section
variable {P : Program} {w : World} {e : TypeId} {base : Nat} {v : Value} {xs : List Int}
theorem wp_appQ {o : Oper} {a : Act} {K : Act → World → Prop} {Q : Exit → Act → World → Prop} (s x : Operand) (t : TypeId) (ho : o.op = .call { callee := .builtin .append, args := #[s, x], argTypes := #[t, t] })
    {i : TypeInfo} (ht : P.underlying t = some (.slice e)) (hi : P.info? e = some i) (hz : i.zero = some (.int .i64 0)) (hs : i.size = 1) (hby : i.bytes = 8)
    (hv : a.eval s = v) (h : QI e base w v xs) {b : Nat} {y : Int} (hx : a.eval x = .slice (some ⟨b, 0, none⟩) 1 1) (hu : w.cell? ⟨b, 0, none⟩ = some (.int .i64 y)) (hlen : xs.length ≤ 1000000) (hbase : base ≤ w.heap.size)
    (hK : ∀ v' w', QI e base w' v' (xs ++ [y]) → Below base w w' → (∀ k, k < w.heap.size → (∀ g o n c, v = .slice (some ⟨g, o, none⟩) n c → g ≠ k) → w'.heap[k]? = w.heap[k]?) → w.heap.size ≤ w'.heap.size →
      (∀ g o n c, v' = .slice (some ⟨g, o, none⟩) n c → (∃ o n c, v = .slice (some ⟨g, o, none⟩) n c) ∨ w.heap.size ≤ g) → K (a.put o.dst v') w') : o.wp P a w K Q := by
  obtain ⟨v', w', hrun, h1, h2, h3, h4, h5⟩ := run_appQ (P := P) (ty := o.type) ht hi hz hs hby h hu hlen hbase
  unfold Oper.wp execOp
  simp only [ho, resolve, invoke, builtin, Sem.run_bind, Sem.run_pure, Result.andThen_ok, List.map_toArray, List.map_cons, List.map_nil, hv, hx, hrun]
  exact hK v' w' h1 h2 h3 h4 h5
/-- in a plain region, behind 'at_builtin' -/
theorem wpList_appQ {ops : Array Oper} {rest : List Oper} {o : Oper} {a : Act} {Q : Exit → Act → World → Prop} (hgd : o.guard = none) (s x : Operand) (t : TypeId) (ho : o.op = .call { callee := .builtin .append, args := #[s, x], argTypes := #[t, t] })
    {i : TypeInfo} (ht : P.underlying t = some (.slice e)) (hi : P.info? e = some i) (hz : i.zero = some (.int .i64 0)) (hs : i.size = 1) (hby : i.bytes = 8)
    (hv : a.eval s = v) (h : QI e base w v xs) {b : Nat} {y : Int} (hx : a.eval x = .slice (some ⟨b, 0, none⟩) 1 1) (hu : w.cell? ⟨b, 0, none⟩ = some (.int .i64 y)) (hlen : xs.length ≤ 1000000) (hbase : base ≤ w.heap.size)
    (hK : ∀ v' w', QI e base w' v' (xs ++ [y]) → Below base w w' → (∀ k, k < w.heap.size → (∀ g o n c, v = .slice (some ⟨g, o, none⟩) n c → g ≠ k) → w'.heap[k]? = w.heap[k]?) → w.heap.size ≤ w'.heap.size →
      (∀ g o n c, v' = .slice (some ⟨g, o, none⟩) n c → (∃ o n c, v = .slice (some ⟨g, o, none⟩) n c) ∨ w.heap.size ≤ g) → wpList P ops Q rest (a.put o.dst v') w') : wpList P ops Q (o :: rest) a w :=
  wpList_plain hgd fun _ hk => wp_appQ s x t ho ht hi hz hs hby hv h hx hu hlen hbase fun v' w' h1 h2 h3 h4 h5 => hk _ _ (hK v' w' h1 h2 h3 h4 h5)
end
end Go.Proofs.YteigjfdgijaifaaDoor

namespace Go.Proofs.YteigjfdgijaifaaDoor
open Go.RowKit
set_option linter.unusedVariables false

theorem setCells_row {e : TypeId} {g : Nat} : ∀ (vs : List Value) (o : Nat) (w : World) (cur : Array Value), w.heap[g]? = some (.cells cur e (0, 0)) → o + vs.length ≤ cur.size →
    ∃ cur' : Array Value, (w.setCells g o vs).heap[g]? = some (.cells cur' e (0, 0)) ∧ cur'.size = cur.size ∧ (∀ i, i < o ∨ o + vs.length ≤ i → cur'[i]? = cur[i]?) ∧ ∀ (j : Nat) u, vs[j]? = some u → cur'[o + j]? = some u
  | [], o, w, cur, h, hs => ⟨cur, h, rfl, fun _ _ => rfl, fun j u hj => by simp at hj⟩
  | v :: vs, o, w, cur, h, hs => by
    simp only [List.length_cons] at hs
    obtain ⟨cur', h1, h2, h3, h4⟩ := setCells_row vs (o + 1) (w.setCell ⟨g, o, none⟩ v) (cur.setIfInBounds o v) (heap_setCell_same w g o cur e v h) (by simp; omega)
    refine ⟨cur', h1, by simpa using h2, fun i hi => ?_, fun j u hj => ?_⟩
    · simp only [List.length_cons] at hi
      rw [h3 i (by omega), Array.getElem?_setIfInBounds, if_neg (by omega)]
    · cases j with
      | zero =>
        simp at hj; subst hj
        rw [h3 _ (by omega), Nat.add_zero, Array.getElem?_setIfInBounds, if_pos rfl]
        simp; omega
      | succ j =>
        have := h4 j u (by simpa using hj)
        rw [show o + (j + 1) = o + 1 + j by omega]; exact this
theorem below_setCells {B g : Nat} (hg : B ≤ g) : ∀ (vs : List Value) (o : Nat) (w0 w : World), Below B w0 w → Below B w0 (w.setCells g o vs)
  | [], _, _, _, h => h
  | v :: vs, o, w0, w, h => below_setCells hg vs (o + 1) w0 _ (h.setCell (p := ⟨g, o, none⟩) hg v)
theorem heap_setCells_far {g k : Nat} (hk : k ≠ g) : ∀ (vs : List Value) (o : Nat) (w : World), (w.setCells g o vs).heap[k]? = w.heap[k]?
  | [], _, _ => rfl
  | v :: vs, o, w => (heap_setCells_far hk vs (o + 1) _).trans (Below.heap_setCell w ⟨g, o, none⟩ _ k (fun e => hk e))
section
variable {α : Type}
def IsSl (q : Value) : Prop := ∃ A n c, q = .slice A n c
/-- v is a part of a block of the call's own, from block base on, that holds xs; the block holds slices alone -/
def QA (e : TypeId) (sz : Nat) (enc : α → List Value) (base : Nat) (w : World) (v : Value) (xs : List α) : Prop :=
  (v = .slice none 0 0 ∧ xs = []) ∨ ∃ g o c cur, v = .slice (some ⟨g, o, none⟩) xs.length c ∧ base ≤ g ∧ w.heap[g]? = some (.cells cur e (0, 0)) ∧ xs.length ≤ c ∧ o + c * sz ≤ cur.size ∧ (∀ (i : Nat) q, cur[i]? = some q → IsSl q) ∧ ∀ (j : Nat) q, (xs.flatMap enc)[j]? = some q → cur[o + j]? = some q
/-- the block of a slice, wherever it begins -/
def sBlk : Value → Option Nat
  | .slice (some ad) _ _ => some ad.block
  | _ => none
variable {e : TypeId} {sz : Nat} {enc : α → List Value} {base : Nat} {w w' : World} {v u : Value} {xs ys : List α}
theorem QA.nil (e : TypeId) (sz : Nat) (enc : α → List Value) (base : Nat) (w : World) : QA e sz enc base w (.slice none 0 0) [] := .inl ⟨rfl, rfl⟩
theorem QA.lt (h : QA e sz enc base w v xs) : ∀ k, sBlk v = some k → k < w.heap.size := by
  intro k hk
  rcases h with ⟨rfl, _⟩ | ⟨g, o, c, cur, rfl, _, hh, _⟩
  · cases hk
  · injection hk with hk; subst hk; exact (Array.getElem?_eq_some_iff.1 hh).1
theorem QA.block (h : QA e sz enc base w v xs) : ∀ k, sBlk v = some k → base ≤ k := by
  intro k hk
  rcases h with ⟨rfl, _⟩ | ⟨g, o, c, cur, rfl, hb, _⟩
  · cases hk
  · injection hk with hk; subst hk; exact hb
theorem QA.typ (h : QA e sz enc base w v xs) : ∀ k, sBlk v = some k → ∃ cs fr, w.heap[k]? = some (.cells cs e fr) := by
  intro k hk
  rcases h with ⟨rfl, _⟩ | ⟨g, o, c, cur, rfl, hb, hh, _⟩
  · cases hk
  · injection hk with hk; subst hk; exact ⟨_, _, hh⟩
theorem QA.keepK (h : QA e sz enc base w v xs) (hk : ∀ k, sBlk v = some k → w'.heap[k]? = w.heap[k]?) : QA e sz enc base w' v xs := by
  rcases h with h | ⟨g, o, c, cur, rfl, hb, hh, r⟩
  · exact .inl h
  · exact .inr ⟨g, o, c, cur, rfl, hb, (hk g rfl).trans hh, r⟩
theorem QA.below (h : QA e sz enc base w v xs) (hb : Below w.heap.size w w') : QA e sz enc base w' v xs := h.keepK fun k hk => hb.block k (h.lt k hk)
theorem QA.low {b2 : Nat} (h : QA e sz enc base w v xs) (hb : b2 ≤ base) : QA e sz enc b2 w v xs := by
  rcases h with h | ⟨g, o, c, cur, rfl, hb2, hh, r⟩
  · exact .inl h
  · exact .inr ⟨g, o, c, cur, rfl, Nat.le_trans hb hb2, hh, r⟩
theorem QA.up {b2 : Nat} (h : QA e sz enc base w v xs) (hb : ∀ k, sBlk v = some k → b2 ≤ k) : QA e sz enc b2 w v xs := by
  rcases h with h | ⟨g, o, c, cur, rfl, hb2, hh, r⟩
  · exact .inl h
  · exact .inr ⟨g, o, c, cur, rfl, hb g rfl, hh, r⟩
theorem QA.form (h : QA e sz enc base w v xs) : ∃ A c, v = .slice A xs.length c := by
  rcases h with ⟨rfl, rfl⟩ | ⟨g, o, c, cur, rfl, _⟩
  · exact ⟨none, 0, rfl⟩
  · exact ⟨_, _, rfl⟩
/-- the head of a queue that is not empty, and the queue cut at it -/
theorem QA.cons {x : α} (hsz : ∀ x, (enc x).length = sz) (h : QA e sz enc base w v (x :: xs)) : ∃ g o c, v = .slice (some ⟨g, o, none⟩) (xs.length + 1) (c + 1) ∧ base ≤ g ∧ (∀ j q, (enc x)[j]? = some q → w.cell? ⟨g, o + j, none⟩ = some q) ∧
    ∀ A, (A = some ⟨g, o, none⟩ ∧ c = 0 ∨ A = some ⟨g, o + sz, none⟩) → QA e sz enc base w (.slice A xs.length c) xs := by
  rcases h with ⟨_, h⟩ | ⟨g, o, c, cur, rfl, hb, hh, hc, hs, hsl, hx⟩
  · cases h
  · simp only [List.length_cons] at hc ⊢
    obtain ⟨c, rfl⟩ : ∃ c', c = c' + 1 := ⟨c - 1, by omega⟩
    refine ⟨g, o, c, rfl, hb, fun j q hq => ?_, ?_⟩
    · rw [cell_of_row w g _ cur e (0, 0) hh]
      exact hx j q (by rw [List.flatMap_cons, List.getElem?_append_left (List.getElem?_eq_some_iff.1 hq).1]; exact hq)
    · rw [Nat.succ_mul] at hs
      rintro A (⟨rfl, rfl⟩ | rfl)
      · have : xs = [] := List.eq_nil_of_length_eq_zero (by omega)
        subst this
        exact .inr ⟨g, o, 0, cur, rfl, hb, hh, Nat.le_refl _, by omega, hsl, fun j q hq => by simp at hq⟩
      · refine .inr ⟨g, o + sz, c, cur, rfl, hb, hh, by omega, by omega, hsl, fun j q hq => ?_⟩
        have := hx (sz + j) q (by rw [List.flatMap_cons, List.getElem?_append_right (by rw [hsz]; omega), hsz, Nat.add_sub_cancel_left]; exact hq)
        rw [Nat.add_assoc]; exact this
/-- the block holds no integers -/
theorem QA.noint (h : QA e sz enc base w v xs) {k i : Nat} {q : Value} (hk : sBlk v = some k) (hc : w.cell? ⟨k, i, none⟩ = some q) : IsSl q := by
  rcases h with ⟨rfl, _⟩ | ⟨g, o, c, cur, rfl, hb, hh, _, _, hsl, _⟩
  · cases hk
  · injection hk with hk; subst hk
    rw [cell_of_row w g _ cur e (0, 0) hh] at hc
    exact hsl _ _ hc
/-- what a kind of element of slices owes -/
structure ElQ (P : Program) (e : TypeId) (sz : Nat) (enc : α → List Value) : Prop extends ElA P e sz enc where
  esl : ∀ x, ∀ q ∈ enc x, IsSl q
  zsl : ∀ i z, P.info? e = some i → i.zero = some z → ∀ q ∈ z.cells, IsSl q
theorem mem_zeroCells {cs : Array Value} {k : Nat} {q : Value} (h : q ∈ Builtin.zeroCells cs k) : q ∈ cs := by
  unfold Builtin.zeroCells at h
  obtain ⟨i, hi, rfl⟩ := Array.mem_map.1 h
  have hi := Array.mem_range.1 hi
  have hp : 0 < cs.size := by
    rcases Nat.eq_zero_or_pos cs.size with h0 | h0
    · rw [h0] at hi; simp at hi
    · exact h0
  have hlt := Nat.mod_lt i hp
  rw [getElem!_pos cs _ hlt]
  exact Array.getElem_mem hlt
/-- the run of append(v, u...) -/
theorem run_appQA {P : Program} (E : ElQ P e sz enc) {t ty : TypeId} (ht : P.underlying t = some (.slice e))
    (h : QA e sz enc base w v xs) (hu : SlA enc w u ys) (hn : ys ≠ []) (hlen : xs.length + ys.length ≤ 100000000) (hbase : base ≤ w.heap.size) :
    ∃ v' w', (Builtin.append_ #[t, t] ty #[v, u]).run P w = .ok v' w' ∧ QA e sz enc base w' v' (xs ++ ys) ∧ Below base w w' ∧ (∀ k, k < w.heap.size → sBlk v ≠ some k → w'.heap[k]? = w.heap[k]?) ∧ (sBlk v' = sBlk v ∨ sBlk v' = some w.heap.size) := by
  obtain ⟨i, z, bytes, hi, hz, hs, hby, hzs, hb16⟩ := E.ex
  obtain ⟨A, c2, rfl, hc2, hy⟩ := hu
  have hfl : ∀ l : List α, (l.flatMap enc).length = l.length * sz := fun l => by
    induction l with
    | nil => simp
    | cons x xs ih => rw [List.flatMap_cons, List.length_append, ih, E.len x, List.length_cons, Nat.succ_mul]; omega
  have hpos : 0 < ys.length := by cases ys with | nil => exact absurd rfl hn | cons y ys => simp
  obtain ⟨ad, hA⟩ : ∃ ad, A = some ad := by
    have h0 : 0 < (ys.flatMap enc).length := by rw [hfl]; exact Nat.mul_pos hpos E.pos
    obtain ⟨b, o, hA, _⟩ := hy 0 _ (List.getElem?_eq_getElem h0)
    exact ⟨_, hA⟩
  subst hA
  have hcells : ∀ j q, (ys.flatMap enc)[j]? = some q → w.cell? (ad.add j) = some q := by
    intro j q hq
    obtain ⟨b, o, hA, hcell⟩ := hy j q hq
    injection hA with hA
    subst hA
    have : (⟨b, o, none⟩ : Addr).add j = ⟨b, o + j, none⟩ := by unfold Addr.add; split <;> simp_all
    rw [this]; exact hcell
  have hone : ∀ q ∈ ys.flatMap enc, q.oneCell' = true := fun q hq => by obtain ⟨y, hy, hq2⟩ := List.mem_flatMap.1 hq; exact E.one y q hq2
  have hesl : ∀ (l : List α), ∀ q ∈ l.flatMap enc, IsSl q := fun l q hq => by obtain ⟨y, hy, hq2⟩ := List.mem_flatMap.1 hq; exact E.esl y q hq2
  have src : Src P i.size t (.slice (some ad) ys.length c2) ys.length (ys.flatMap enc) w := Src.ofSlice w ht _ _ _ _ (by rw [hs, hfl]) hcells hone
  -- a new block
  have grown : ∀ (bs : Option Addr) (old : Nat), old < xs.length + ys.length → (Builtin.firstCells i.size xs.length (.slice bs xs.length old)).run P w.drew = .ok (xs.flatMap enc).toArray w.drew →
      ∃ v' w', (Builtin.append_ #[t, t] ty #[.slice bs xs.length old, .slice (some ad) ys.length c2]).run P w = .ok v' w' ∧ QA e sz enc base w' v' (xs ++ ys) ∧ Below base w w' ∧ (∀ k, k < w.heap.size → w'.heap[k]? = w.heap[k]?) ∧ sBlk v' = some w.heap.size := by
    intro bs old hold hfc
    have hncap : Builtin.nextslicecap (xs.length + ys.length) old * i.bytes ≤ 281474976710656 := by
      have h1 := nextslicecap_le_wide (need := xs.length + ys.length) (old := old) hold
      rw [hby]
      exact Nat.le_trans (Nat.mul_le_mul h1 hb16) (by omega)
    have hr := run_append_grow_src (P := P) w t t ty e i z ht hi hz bs xs.length old (xs.flatMap enc) hfc (.slice (some ad) ys.length c2) ys.length (ys.flatMap enc) src hold (by omega) hncap
    have hge : xs.length + ys.length ≤ grownCap w (xs.length + ys.length) old e := grownCap_ge w _ _ _
    refine ⟨_, _, hr, .inr ⟨w.heap.size, 0, _, _, by rw [List.length_append], hbase, heap_alloc_new w.drew _, by rw [List.length_append]; exact hge, ?_, fun j q hq => ?_, fun j q hq => ?_⟩, Below.alloc (a := w) (w := w.drew) (bdrewN (Below.refl _ _) 1) hbase _, fun k hk => Below.heap_alloc w.drew _ k hk, rfl⟩
    · rw [Array.size_append, size_zeroCells, hzs]
      simp only [List.size_toArray, List.length_append, hfl]
      rw [← Nat.add_mul, ← Nat.add_mul]
      rw [Nat.zero_add]
      refine Nat.mul_le_mul_right sz ?_
      omega
    · have hm := Array.mem_of_getElem? hq
      rcases Array.mem_append.1 hm with q1 | q1
      · have q2 : q ∈ xs.flatMap enc ++ ys.flatMap enc := by simpa using q1
        rcases List.mem_append.1 q2 with q3 | q3
        · exact hesl _ q q3
        · exact hesl _ q q3
      · exact E.zsl i z hi hz q (mem_zeroCells q1)
    · rw [List.flatMap_append] at hq
      rw [Nat.zero_add, Array.getElem?_append_left (by have := (List.getElem?_eq_some_iff.1 hq).1; rw [List.length_append] at this; simpa using this)]
      simpa using hq
  rcases h with ⟨rfl, rfl⟩ | ⟨g, o, c, cur, rfl, hb, hh, hc, hsz, hsl, hx⟩
  · obtain ⟨v', w', h1, h2, h3, h4, h5⟩ := grown none 0 (by simpa using hpos) (by
      have := run_firstCells_none (P := P) w.drew i.size 0 0 0
      simpa using this)
    exact ⟨v', w', h1, h2, h3, fun k hk _ => h4 k hk, .inr h5⟩
  · have hlt : g < w.heap.size := (Array.getElem?_eq_some_iff.1 hh).1
    by_cases hroom : xs.length + ys.length ≤ c
    · have hin : o + (xs.length * sz + ys.length * sz) ≤ cur.size := by
        have := Nat.mul_le_mul_right sz hroom
        rw [Nat.add_mul] at this; omega
      have hr := run_append_room_src (P := P) w t t ty e i ht hi g o xs.length c (.slice (some ad) ys.length c2) ys.length (ys.flatMap enc) src hroom
        (by
          intro j hj
          rw [hfl] at hj
          rw [hs, cell_of_row w g _ cur e (0, 0) hh, Array.getElem?_eq_getElem (by omega)]; rfl) (by intro j hj; exact frozen_of_row w g _ cur e hh)
      rw [hs] at hr
      obtain ⟨cur', k1, k2, k3, k4⟩ := setCells_row (ys.flatMap enc) (o + xs.length * sz) w cur hh (by rw [hfl]; omega)
      have hbel : Below base w (w.setCells g (o + xs.length * sz) (ys.flatMap enc)) := below_setCells hb _ _ _ _ (Below.refl base w)
      refine ⟨_, _, hr, .inr ⟨g, o, c, cur', by rw [List.length_append], hb, k1, by rw [List.length_append]; exact hroom, by rw [k2]; exact hsz, fun j q hq => ?_, fun j q hq => ?_⟩, hbel, fun k hk hne => heap_setCells_far (fun e => hne (by rw [e]; rfl)) _ _ _, .inl rfl⟩
      · by_cases hj : j < o + xs.length * sz ∨ o + xs.length * sz + (ys.flatMap enc).length ≤ j
        · rw [k3 j hj] at hq; exact hsl _ _ hq
        · have hlt2 : j - (o + xs.length * sz) < (ys.flatMap enc).length := by omega
          have h4 := k4 _ _ (List.getElem?_eq_getElem hlt2)
          rw [show o + xs.length * sz + (j - (o + xs.length * sz)) = j by omega, hq] at h4
          injection h4 with h4
          rw [h4]
          exact hesl _ _ (List.getElem_mem hlt2)
      · rw [List.flatMap_append] at hq
        rcases Nat.lt_or_ge j (xs.flatMap enc).length with hj | hj
        · rw [List.getElem?_append_left hj] at hq
          rw [k3 _ (.inl (by rw [hfl] at hj; omega))]
          exact hx j q hq
        · rw [List.getElem?_append_right hj] at hq
          have := k4 _ q hq
          rw [hfl] at hj this
          rw [show o + xs.length * sz + (j - xs.length * sz) = o + j by omega] at this
          exact this
    · obtain ⟨v', w', h1, h2, h3, h4, h5⟩ := grown (some ⟨g, o, none⟩) c (by omega) (run_firstCells_some (P := P) w.drew i.size xs.length ⟨g, o, none⟩ xs.length c (xs.flatMap enc) (by rw [hs, hfl]) (by
        intro j u hj
        have : (⟨g, o, none⟩ : Addr).add j = ⟨g, o + j, none⟩ := by unfold Addr.add; split <;> simp_all
        rw [this]
        show w.cell? _ = _
        rw [cell_of_row w g _ cur e (0, 0) hh]
        exact hx j u hj))
      exact ⟨v', w', h1, h2, h3, fun k hk _ => h4 k hk, .inr h5⟩
theorem wp_appQA {P : Program} {o : Oper} {a : Act} {K : Act → World → Prop} {Q : Exit → Act → World → Prop} (E : ElQ P e sz enc) (s x : Operand) (t t2 : TypeId) (ho : o.op = .call { callee := .builtin .append, args := #[s, x], argTypes := #[t, t2] })
    (ht : P.underlying t = some (.slice e)) (ht2 : P.underlying t2 = some (.slice e))
    (hv : a.eval s = v) (h : QA e sz enc base w v xs) (hx : a.eval x = u) (hu : SlA enc w u ys) (hn : ys ≠ []) (hlen : xs.length + ys.length ≤ 100000000) (hbase : base ≤ w.heap.size)
    (hK : ∀ v' w', QA e sz enc base w' v' (xs ++ ys) → Below base w w' → (∀ k, k < w.heap.size → sBlk v ≠ some k → w'.heap[k]? = w.heap[k]?) → (sBlk v' = sBlk v ∨ sBlk v' = some w.heap.size) → K (a.put o.dst v') w') : o.wp P a w K Q := by
  obtain ⟨v', w', hrun, h1, h2, h3, h4⟩ := run_appQA (P := P) (ty := o.type) E ht h hu hn hlen hbase
  unfold Oper.wp execOp
  simp only [ho, resolve, invoke, builtin, Sem.run_bind, Sem.run_pure, Result.andThen_ok, List.map_toArray, List.map_cons, List.map_nil, hv, hx, (append_typesA ht ht2).trans hrun]
  exact hK v' w' h1 h2 h3 h4
end
/-- what an append to v0 has left as it was; v: the slice that came -/
structure KptQ (B : Nat) (w0 w : World) (v0 v : Value) : Prop where
  bel : Below B w0 w
  keep : ∀ k, k < w0.heap.size → sBlk v0 ≠ some k → w.heap[k]? = w0.heap[k]?
  blk : ∀ k, sBlk v = some k → sBlk v0 = some k ∨ w0.heap.size ≤ k
section
variable {α : Type}
/-- c: the literal; a: the append; f: the store at p -/
structure ApQ (e : TypeId) (sz : Nat) (enc : α → List Value) (B : Nat) (w0 : World) (ev : Nat → Option Value) (c a f : Nat) (v0 : Value) (p : Addr) (L LIT : List α) (D : Nat → Bool) (x : Nat → Value) (w : World) : Prop where
  kn : ∀ i v, ev i = some v → D i = true → x i = v
  pre : D a = false → D f = false → Below w0.heap.size w0 w
  lit : D c = true → D a = false → D f = false → OwnA e sz enc w0.heap.size w (x c) LIT
  mid : D a = true → D f = false → QA e sz enc B w (x a) (L ++ LIT) ∧ KptQ B w0 w v0 (x a)
  fin : D f = true → ∃ W v, w = W.setCell p v ∧ QA e sz enc B W v (L ++ LIT) ∧ KptQ B w0 W v0 v
variable {e : TypeId} {sz : Nat} {enc : α → List Value} {B : Nat} {w0 w w' : World} {ev : Nat → Option Value} {c a f : Nat} {v0 : Value} {p : Addr} {L LIT : List α} {D : Nat → Bool} {x : Nat → Value}
theorem ApQ.start : ApQ e sz enc B w0 ev c a f v0 p L LIT (fun _ => false) x w0.drew :=
  ⟨fun i v _ h => Bool.noConfusion h, fun _ _ => (Below.refl _ _).drew, fun h => Bool.noConfusion h, fun h => Bool.noConfusion h, fun h => Bool.noConfusion h⟩
theorem ApQ.val (h : ApQ e sz enc B w0 ev c a f v0 p L LIT D x w) {i : Nat} {v : Value} (hv : ev i = some v) (h1 : i ≠ c) (h2 : i ≠ a) (h3 : i ≠ f) : ApQ e sz enc B w0 ev c a f v0 p L LIT (upd D i true) (upd x i v) w := by
  refine ⟨fun j u hu hd => ?_, fun d1 d2 => ?_, fun d1 d2 d3 => ?_, fun d1 d2 => ?_, fun d => ?_⟩
  · by_cases e : j = i
    · subst e; rw [upd_same]; rw [hv] at hu; injection hu
    · rw [upd_ne _ _ e] at hd ⊢; exact h.kn j u hu hd
  · rw [upd_ne _ _ (Ne.symm h2)] at d1; rw [upd_ne _ _ (Ne.symm h3)] at d2; exact h.pre d1 d2
  · rw [upd_ne _ _ (Ne.symm h1)] at d1 ⊢; rw [upd_ne _ _ (Ne.symm h2)] at d2; rw [upd_ne _ _ (Ne.symm h3)] at d3; exact h.lit d1 d2 d3
  · rw [upd_ne _ _ (Ne.symm h2)] at d1 ⊢; rw [upd_ne _ _ (Ne.symm h3)] at d2; exact h.mid d1 d2
  · rw [upd_ne _ _ (Ne.symm h3)] at d; exact h.fin d
theorem ApQ.call (h : ApQ e sz enc B w0 ev c a f v0 p L LIT D x w) {v : Value} (hev : ev c = none) (h1 : c ≠ a) (h2 : c ≠ f) (ha : D a = false) (hf : D f = false) (hb : Below w.heap.size w w') (ho : OwnA e sz enc w.heap.size w' v LIT) : ApQ e sz enc B w0 ev c a f v0 p L LIT (upd D c true) (upd x c v) w' := by
  have hp := h.pre ha hf
  refine ⟨fun j u hu hd => ?_, fun d1 d2 => hp.trans (hb.mono hp.size), fun d1 d2 d3 => by rw [upd_same]; exact ho.low hp.size, fun d1 d2 => ?_, fun d => ?_⟩
  · have e : j ≠ c := fun e => (by rw [e, hev] at hu; cases hu)
    rw [upd_ne _ _ e] at hd ⊢; exact h.kn j u hu hd
  · rw [upd_ne _ _ (Ne.symm h1), ha] at d1; cases d1
  · rw [upd_ne _ _ (Ne.symm h2), hf] at d; cases d
theorem ApQ.app {P : Program} (E : ElQ P e sz enc) (h : ApQ e sz enc B w0 ev c a f v0 p L LIT D x w) {o : Oper} {b : Act} (sx ux : Operand) (t t2 : TypeId) (ho : o.op = .call { callee := .builtin .append, args := #[sx, ux], argTypes := #[t, t2] })
    (ht : P.underlying t = some (.slice e)) (ht2 : P.underlying t2 = some (.slice e)) (hev : ev a = none) (hca : c ≠ a) (haf : a ≠ f) (hc : D c = true) (ha : D a = false) (hf : D f = false)
    (he1 : b.eval sx = v0) (he2 : b.eval ux = x c) (hv0 : QA e sz enc B w0 v0 L) (hn : LIT ≠ []) (hB : B ≤ w0.heap.size) (hlen : L.length + LIT.length ≤ 100000000) : o.wp P b w (StepPost (ApQ e sz enc B w0 ev c a f v0 p L LIT) D x a b o.dst) NoQ := by
  have hp := h.pre ha hf
  have hl := h.lit hc ha hf
  refine wp_appQA (P := P) (base := B) E sx ux t t2 ho ht ht2 he1 (hv0.below hp) he2 hl.sl hn hlen (Nat.le_trans hB hp.size) ?_
  intro v' w' h1 h2 h3 h4
  refine ⟨v', rfl, fun j u hu hd => ?_, fun d1 d2 => ?_, fun d1 d2 d3 => ?_, fun d1 d2 => ?_, fun d => ?_⟩
  · have e : j ≠ a := fun e => (by rw [e, hev] at hu; cases hu)
    rw [upd_ne _ _ e] at hd ⊢; exact h.kn j u hu hd
  · rw [upd_same] at d1; cases d1
  · rw [upd_same] at d2; cases d2
  · rw [upd_same]
    refine ⟨h1, (hp.mono hB).trans h2, fun k hk hne => (h3 k (Nat.lt_of_lt_of_le hk hp.size) hne).trans (hp.block k hk), fun k hk => ?_⟩
    rcases h4 with q | q
    · rw [q] at hk; exact .inl hk
    · rw [q] at hk
      injection hk with hk
      subst hk
      exact .inr hp.size
  · rw [upd_ne _ _ (Ne.symm haf), hf] at d; cases d
theorem ApQ.store (h : ApQ e sz enc B w0 ev c a f v0 p L LIT D x w) (hev : ev f = none) (ha : D a = true) (hf : D f = false) (v : Value) : ApQ e sz enc B w0 ev c a f v0 p L LIT (upd D f true) (upd x f v) (w.setCell p (x a)) := by
  obtain ⟨m1, m2⟩ := h.mid ha hf
  refine ⟨fun j u hu hd => ?_, fun d1 d2 => ?_, fun d1 d2 d3 => ?_, fun d1 d2 => ?_, fun d => ⟨w, x a, rfl, m1, m2⟩⟩
  · have e : j ≠ f := fun e => (by rw [e, hev] at hu; cases hu)
    rw [upd_ne _ _ e] at hd ⊢; exact h.kn j u hu hd
  · rw [upd_same] at d2; cases d2
  · rw [upd_same] at d3; cases d3
  · rw [upd_same] at d2; cases d2
theorem KptQ.arr {g : Nat} {t : TypeId} {cs : List Value} {v : Value} (h : KptQ B w0 w v0 v) (hg : Arr w0 g t cs) (hne : sBlk v0 ≠ some g) : Arr w g t cs := (h.keep g hg.lt hne).trans hg
/-- a block that the append does not write, at any time before the store -/
theorem ApQ.arrK (h : ApQ e sz enc B w0 ev c a f v0 p L LIT D x w) (hf : D f = false) {g : Nat} {t : TypeId} {cs : List Value} (hg : Arr w0 g t cs) (hne : sBlk v0 ≠ some g) : Arr w g t cs := by
  cases ha : D a with
  | false => exact hg.below (h.pre ha hf) hg.lt
  | true => exact (h.mid ha hf).2.arr hg hne
end
end Go.Proofs.YteigjfdgijaifaaDoor

namespace Go.Proofs.YteigjfdgijaifaaDoor
open Go.RowKit
set_option linter.unusedVariables false

theorem mod_app {α : Type} (f : α → α) (x : α) : ∀ l : List α, (l ++ [x]).modify l.length f = l ++ [f x]
  | [] => rfl
  | a :: t => by
    have := mod_app f x t
    simpa using this
def kyS (k : List UInt8) : Value := .string ⟨k.toArray⟩
theorem kyS_inj {k k' : List UInt8} (h : kyS k = kyS k') : k = k' := by
  unfold kyS at h
  injection h with h
  injection h with h
  exact Array.toList_inj.2 h |> fun e => by simpa using e
/-- the map in block b has the entries L, in this order; ck: its clock -/
def MpS (w : World) (b : Nat) (L : List (List UInt8 × Value)) (ck : Nat) : Prop :=
  ∃ es : Array MapEntry, w.heap[b]? = some (.map es ck) ∧ es.toList.map (fun e => (e.key, e.val)) = L.map (fun p => (kyS p.1, p.2)) ∧ ∀ x ∈ es.toList, x.born < ck
/-- an entry k has been made and waits for its value -/
def MpP (w : World) (b : Nat) (L : List (List UInt8 × Value)) (k : List UInt8) (ck : Nat) : Prop :=
  ∃ (es : Array MapEntry) (z : Value), w.heap[b]? = some (.map (es.push { key := kyS k, val := z, born := ck }) (ck + 1)) ∧ es.toList.map (fun e => (e.key, e.val)) = L.map (fun p => (kyS p.1, p.2)) ∧ ∀ x ∈ es.toList, x.born < ck
theorem MpS.keep {w w' : World} {b : Nat} {L : List (List UInt8 × Value)} {ck : Nat} (h : MpS w b L ck) (k : w'.heap[b]? = w.heap[b]?) : MpS w' b L ck := by
  obtain ⟨es, h1, h2, h3⟩ := h
  exact ⟨es, k.trans h1, h2, h3⟩
theorem MpP.keep {w w' : World} {b : Nat} {L : List (List UInt8 × Value)} {k : List UInt8} {ck : Nat} (h : MpP w b L k ck) (kk : w'.heap[b]? = w.heap[b]?) : MpP w' b L k ck := by
  obtain ⟨es, z, h1, h2, h3⟩ := h
  exact ⟨es, z, kk.trans h1, h2, h3⟩
theorem MpS.lt {w : World} {b : Nat} {L : List (List UInt8 × Value)} {ck : Nat} (h : MpS w b L ck) : b < w.heap.size := by
  obtain ⟨es, h1, _⟩ := h
  exact (Array.getElem?_eq_some_iff.1 h1).1
theorem MpS.new (w : World) : MpS (w.alloc (.map #[] 0)) w.heap.size [] 0 := ⟨#[], MapKept.heap_alloc w _ |>.1, rfl, fun x hx => by simp at hx⟩
section
variable {P : Program} {w : World} {b : Nat} {L : List (List UInt8 × Value)} {ck : Nat} {t kt et : TypeId} {k : List UInt8}
theorem MpS.keys {es : Array MapEntry} (h2 : es.toList.map (fun e => (e.key, e.val)) = L.map (fun p => (kyS p.1, p.2))) : (∀ x ∈ es.toList, MapKept.IsKey .string x.key) ∧ ∀ (j : Nat) (e : MapEntry), es.toList[j]? = some e → ∃ p : List UInt8 × Value, L[j]? = some p ∧ e.key = kyS p.1 ∧ e.val = p.2 := by
  have h : ∀ (j : Nat) (e : MapEntry), es.toList[j]? = some e → ∃ p : List UInt8 × Value, L[j]? = some p ∧ e.key = kyS p.1 ∧ e.val = p.2 := fun j e hj => by
    have h3 := congrArg (fun l => l[j]?) h2
    simp only [List.getElem?_map, hj, Option.map_some] at h3
    cases hL : L[j]? with
    | none => rw [hL] at h3; cases h3
    | some p =>
      rw [hL] at h3
      injection h3 with h3
      injection h3 with a b
      exact ⟨p, rfl, a, b⟩
  refine ⟨fun x hx => ?_, h⟩
  obtain ⟨j, hj⟩ := List.getElem?_of_mem hx
  obtain ⟨p, _, e, _⟩ := h j x hj
  rw [e]; exact trivial
theorem mps_lookup_no (h : MpS w b L ck) (hm : P.underlying t = some (.map kt et)) (hd : P.underlying kt = some .string) {z : Value} (hz : (zeroValue et).run P w = .ok z w) (hk : ∀ p ∈ L, p.1 ≠ k) :
    Sem.run P (Instr.lookup t (.map (some b)) (kyS k) true) w = .ok (.tuple #[z, .bool false]) w := by
  obtain ⟨es, h1, h2, _⟩ := h
  obtain ⟨a1, a2⟩ := MpS.keys h2
  rcases MapKept.findNow_spec (d := .string) (k := kyS k) trivial es.toList 0 a1 with ⟨e1, _⟩ | ⟨j, e, e1, e2, e3⟩
  · simp [Instr.lookup, run_underlying hm, MapKept.run_getObj_map h1, MapKept.run_checkKey hd (k := kyS k) trivial, MapKept.run_findKey hd e1, hz, Result.andThen]
  · obtain ⟨p, hp, e4, _⟩ := a2 j e e2
    rw [e4] at e3
    exact absurd (kyS_inj e3) (hk p (List.mem_of_getElem? hp))
theorem mps_lookup_yes (h : MpS w b L ck) (hm : P.underlying t = some (.map kt et)) (hd : P.underlying kt = some .string) (hn : (L.map (·.1)).Nodup) {v : Value} (hk : (k, v) ∈ L) :
    Sem.run P (Instr.lookup t (.map (some b)) (kyS k) true) w = .ok (.tuple #[v, .bool true]) w ∧ Sem.run P (Instr.lookup t (.map (some b)) (kyS k) false) w = .ok v w := by
  obtain ⟨es, h1, h2, _⟩ := h
  obtain ⟨a1, a2⟩ := MpS.keys h2
  rcases MapKept.findNow_spec (d := .string) (k := kyS k) trivial es.toList 0 a1 with ⟨e1, e0⟩ | ⟨j, e, e1, e2, e3⟩
  · exfalso
    obtain ⟨j, hj⟩ := List.getElem?_of_mem hk
    have hl : es.toList.length = L.length := by have := congrArg List.length h2; simpa using this
    have hjl : j < es.toList.length := by rw [hl]; exact (List.getElem?_eq_some_iff.1 hj).1
    obtain ⟨p, hp, e4, _⟩ := a2 j _ (List.getElem?_eq_getElem hjl)
    rw [hj] at hp
    injection hp with hp
    subst hp
    exact e0 _ (List.getElem_mem hjl) e4
  · obtain ⟨p, hp, e4, e5⟩ := a2 j e e2
    rw [e4] at e3
    have hpk := kyS_inj e3
    have hpe : p = (k, v) := by
      obtain ⟨i, hi⟩ := List.getElem?_of_mem hk
      have hij : i = j := by
        have hi1 : i < (L.map (·.1)).length := by rw [List.length_map]; exact (List.getElem?_eq_some_iff.1 hi).1
        have hj1 : j < (L.map (·.1)).length := by rw [List.length_map]; exact (List.getElem?_eq_some_iff.1 hp).1
        refine (List.getElem_inj (h₀ := hi1) (h₁ := hj1) hn).1 ?_
        obtain ⟨_, q1⟩ := List.getElem?_eq_some_iff.1 hi
        obtain ⟨_, q2⟩ := List.getElem?_eq_some_iff.1 hp
        rw [List.getElem_map, List.getElem_map, q1, q2, hpk]
      rw [hij, hp] at hi
      injection hi
    rw [e5, hpe] at e1
    constructor
    · simp [Instr.lookup, run_underlying hm, MapKept.run_getObj_map h1, MapKept.run_checkKey hd (k := kyS k) trivial, MapKept.run_findKey hd e1, Result.andThen]
    · simp [Instr.lookup, run_underlying hm, MapKept.run_getObj_map h1, MapKept.run_checkKey hd (k := kyS k) trivial, MapKept.run_findKey hd e1, Result.andThen]
theorem mps_entry (h : MpS w b L ck) (hm : P.underlying t = some (.map kt et)) (hd : P.underlying kt = some .string) {z : Value} (hz : (zeroValue et).run P w = .ok z w) (hk : ∀ p ∈ L, p.1 ≠ k) :
    ∃ w', Sem.run P (Instr.mapEntry t (.map (some b)) (kyS k)) w = .ok (.tuple #[z, goInt ck]) w' ∧ MpP w' b L k ck ∧ (∀ r, r ≠ b → w'.heap[r]? = w.heap[r]?) ∧ w'.heap.size = w.heap.size ∧ (∀ B, B ≤ b → Below B w w') := by
  obtain ⟨es, h1, h2, h3⟩ := h
  obtain ⟨a1, a2⟩ := MpS.keys h2
  rcases MapKept.findNow_spec (d := .string) (k := kyS k) trivial es.toList 0 a1 with ⟨e1, _⟩ | ⟨j, e, e1, e2, e3⟩
  · refine ⟨{ w with heap := w.heap.setIfInBounds b (.map (es.push { key := kyS k, val := z, born := ck }) (ck + 1)) }, ?_, ⟨es, z, (MapKept.heap_set h1).1, h2, h3⟩, fun r hr => (MapKept.heap_set h1).2 r hr, by simp, fun B hB => ⟨rfl, rfl, rfl, by simp, fun r hr => (MapKept.heap_set h1).2 r (by omega)⟩⟩
    simp [Instr.mapEntry, run_underlying hm, MapKept.run_getObj_map h1, MapKept.run_checkKey hd (k := kyS k) trivial, MapKept.run_findKey hd e1, hz, MapKept.run_setObj_map _ h1, Result.andThen]
  · obtain ⟨p, hp, e4, _⟩ := a2 j e e2
    rw [e4] at e3
    exact absurd (kyS_inj e3) (hk p (List.mem_of_getElem? hp))
theorem mps_store (h : MpP w b L k ck) (v : Value) :
    ∃ w', Sem.run P (Instr.entryStore t (.map (some b)) (goInt ck) v) w = .ok () w' ∧ MpS w' b (L ++ [(k, v)]) (ck + 1) ∧ (∀ r, r ≠ b → w'.heap[r]? = w.heap[r]?) ∧ w'.heap.size = w.heap.size ∧ (∀ B, B ≤ b → Below B w w') := by
  obtain ⟨es, z, h1, h2, h3⟩ := h
  have hf : (es.push { key := kyS k, val := z, born := ck }).findIdx? (fun e => (e.born : Int) == (ck : Int)) = some es.size := by
    rw [Array.findIdx?_push]
    have : es.findIdx? (fun e => (e.born : Int) == (ck : Int)) = none := by
      rw [Array.findIdx?_eq_none_iff]
      intro x hx
      have := h3 x (by simpa using hx)
      simp; omega
    rw [this]; simp
  refine ⟨{ w with heap := w.heap.setIfInBounds b (.map ((es.push { key := kyS k, val := z, born := ck }).modify es.size fun e => { e with val := v }) (ck + 1)) }, ?_, ⟨_, (MapKept.heap_set h1).1, ?_, ?_⟩, fun r hr => (MapKept.heap_set h1).2 r hr, by simp, fun B hB => ⟨rfl, rfl, rfl, by simp, fun r hr => (MapKept.heap_set h1).2 r (by omega)⟩⟩
  · simp only [Instr.entryStore, Sem.run_bind, MapKept.run_getObj_map h1, Result.andThen]
    simp [goInt, asInt, asIntOf, hf, MapKept.run_setObj_map _ h1, Result.andThen]
  · have e : ((es.push { key := kyS k, val := z, born := ck }).modify es.size fun e => { e with val := v }).toList = es.toList ++ [{ key := kyS k, val := v, born := ck }] := by
      rw [Array.toList_modify, Array.toList_push, ← Array.length_toList, mod_app]
    rw [e, List.map_append, List.map_append, h2]; rfl
  · intro x hx
    have e : ((es.push { key := kyS k, val := z, born := ck }).modify es.size fun e => { e with val := v }).toList = es.toList ++ [{ key := kyS k, val := v, born := ck }] := by
      rw [Array.toList_modify, Array.toList_push, ← Array.length_toList, mod_app]
    rw [e] at hx
    rcases List.mem_append.1 hx with q | q
    · have := h3 x q; omega
    · rw [List.mem_singleton.1 q]; simp
end
end Go.Proofs.YteigjfdgijaifaaDoor
