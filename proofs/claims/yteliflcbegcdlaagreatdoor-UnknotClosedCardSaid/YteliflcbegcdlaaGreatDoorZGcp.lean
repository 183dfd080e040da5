/- A queue of integers: a slice of the call's own that is cut at its head and appended to. -/
/- Queues of elements of some cells: a slice of the call's own that is cut at its head and appended to; a region that draws its order, appends to it and stores it back. -/
/- Maps with string keys, told by a list of their entries: look-up, and a new entry in two steps (mapEntry, entryStore). -/
/- package unknot: the search's state in memory. -/
/- package unknot: the comparison of grids. -/
import Derived.Test.YteliflcbegcdlaaGreatDoorZOwn
import Derived.Deep.AppendSrc
import Derived.Deep.DeepAppendWide
import Derived.Test.YteliflcbegcdlaaGreatDoorZReloc
import Derived.MapKept
import Derived.Below
import Derived.Test.YteliflcbegcdlaaGreatDoorZLst
import Derived.Test.YteliflcbegcdlaaGreatDoorZFmw
import Derived.Shelf.SlSortCmp.WholeK
import Derived.Shelf.SlSortCmp.NoneTotal
import Derived.Deep.CutBlock
import Derived.Outline
namespace Go.Proofs.YteliflcbegcdlaaGreatDoor
set_option linter.unusedVariables false
open Go.RowKit
section
variable {e : TypeId} {base : Nat} {w w' : World} {v : Value} {xs : List Int}
end
section
variable {P : Program} {w : World} {e : TypeId} {base : Nat} {v : Value} {xs : List Int}
end
end Go.Proofs.YteliflcbegcdlaaGreatDoor

namespace Go.Proofs.YteliflcbegcdlaaGreatDoor
open Go.RowKit
set_option linter.unusedVariables false
theorem setCells_row {e : TypeId} {g : Nat} : ∀ (vs : List Value) (o : Nat) (w : World) (cur : Array Value), w.heap[g]? = some (.cells cur e (0, 0)) → o + vs.length ≤ cur.size →
    ∃ cur' : Array Value, (w.setCells g o vs).heap[g]? = some (.cells cur' e (0, 0)) ∧ cur'.size = cur.size ∧ (∀ i, i < o ∨ o + vs.length ≤ i → cur'[i]? = cur[i]?) ∧ ∀ (j : Nat) u, vs[j]? = some u → cur'[o + j]? = some u
  | [], o, w, cur, h, hs => ⟨cur, h, rfl, fun _ _ => rfl, fun j u hj => by simp at hj⟩
  | v :: vs, o, w, cur, h, hs => by
    simp only [List.length_cons] at hs
    obtain ⟨cur', h1, h2, h3, h4⟩ := setCells_row vs (o + 1) (w.setCell ⟨g, o, none⟩ v) (cur.setIfInBounds o v) (heap_setCell_same w g o cur e v h) (by simp; omega)
    refine ⟨cur', h1, by simpa using h2, fun i hi => ?_, fun j u hj => ?_⟩
    · simp only [List.length_cons] at hi
      rw [h3 i (by omega), Array.getElem?_setIfInBounds, if_neg (by omega)]
    · cases j with
      | zero =>
        simp at hj; subst hj
        rw [h3 _ (by omega), Nat.add_zero, Array.getElem?_setIfInBounds, if_pos rfl]
        simp; omega
      | succ j =>
        have := h4 j u (by simpa using hj)
        rw [show o + (j + 1) = o + 1 + j by omega]; exact this
theorem below_setCells {B g : Nat} (hg : B ≤ g) : ∀ (vs : List Value) (o : Nat) (w0 w : World), Below B w0 w → Below B w0 (w.setCells g o vs)
  | [], _, _, _, h => h
  | v :: vs, o, w0, w, h => below_setCells hg vs (o + 1) w0 _ (h.setCell (p := ⟨g, o, none⟩) hg v)
theorem heap_setCells_far {g k : Nat} (hk : k ≠ g) : ∀ (vs : List Value) (o : Nat) (w : World), (w.setCells g o vs).heap[k]? = w.heap[k]?
  | [], _, _ => rfl
  | v :: vs, o, w => (heap_setCells_far hk vs (o + 1) _).trans (Below.heap_setCell w ⟨g, o, none⟩ _ k (fun e => hk e))
section
variable {α : Type}
def IsSl (q : Value) : Prop := ∃ A n c, q = .slice A n c
/-- v is a part of a block of the call's own, from block base on, that holds xs; the block holds slices alone -/
def QA (e : TypeId) (sz : Nat) (enc : α → List Value) (base : Nat) (w : World) (v : Value) (xs : List α) : Prop :=
  (v = .slice none 0 0 ∧ xs = []) ∨ ∃ g o c cur, v = .slice (some ⟨g, o, none⟩) xs.length c ∧ base ≤ g ∧ w.heap[g]? = some (.cells cur e (0, 0)) ∧ xs.length ≤ c ∧ o + c * sz ≤ cur.size ∧ (∀ (i : Nat) q, cur[i]? = some q → IsSl q) ∧ ∀ (j : Nat) q, (xs.flatMap enc)[j]? = some q → cur[o + j]? = some q
/-- the block of a slice, wherever it begins -/
def sBlk : Value → Option Nat
  | .slice (some ad) _ _ => some ad.block
  | _ => none
variable {e : TypeId} {sz : Nat} {enc : α → List Value} {base : Nat} {w w' : World} {v u : Value} {xs ys : List α}
theorem QA.nil (e : TypeId) (sz : Nat) (enc : α → List Value) (base : Nat) (w : World) : QA e sz enc base w (.slice none 0 0) [] := .inl ⟨rfl, rfl⟩
theorem QA.lt (h : QA e sz enc base w v xs) : ∀ k, sBlk v = some k → k < w.heap.size := by
  intro k hk
  rcases h with ⟨rfl, _⟩ | ⟨g, o, c, cur, rfl, _, hh, _⟩
  · cases hk
  · injection hk with hk; subst hk; exact (Array.getElem?_eq_some_iff.1 hh).1
theorem QA.block (h : QA e sz enc base w v xs) : ∀ k, sBlk v = some k → base ≤ k := by
  intro k hk
  rcases h with ⟨rfl, _⟩ | ⟨g, o, c, cur, rfl, hb, _⟩
  · cases hk
  · injection hk with hk; subst hk; exact hb
theorem QA.typ (h : QA e sz enc base w v xs) : ∀ k, sBlk v = some k → ∃ cs fr, w.heap[k]? = some (.cells cs e fr) := by
  intro k hk
  rcases h with ⟨rfl, _⟩ | ⟨g, o, c, cur, rfl, hb, hh, _⟩
  · cases hk
  · injection hk with hk; subst hk; exact ⟨_, _, hh⟩
theorem QA.keepK (h : QA e sz enc base w v xs) (hk : ∀ k, sBlk v = some k → w'.heap[k]? = w.heap[k]?) : QA e sz enc base w' v xs := by
  rcases h with h | ⟨g, o, c, cur, rfl, hb, hh, r⟩
  · exact .inl h
  · exact .inr ⟨g, o, c, cur, rfl, hb, (hk g rfl).trans hh, r⟩
theorem QA.below (h : QA e sz enc base w v xs) (hb : Below w.heap.size w w') : QA e sz enc base w' v xs := h.keepK fun k hk => hb.block k (h.lt k hk)
theorem QA.low {b2 : Nat} (h : QA e sz enc base w v xs) (hb : b2 ≤ base) : QA e sz enc b2 w v xs := by
  rcases h with h | ⟨g, o, c, cur, rfl, hb2, hh, r⟩
  · exact .inl h
  · exact .inr ⟨g, o, c, cur, rfl, Nat.le_trans hb hb2, hh, r⟩
theorem QA.up {b2 : Nat} (h : QA e sz enc base w v xs) (hb : ∀ k, sBlk v = some k → b2 ≤ k) : QA e sz enc b2 w v xs := by
  rcases h with h | ⟨g, o, c, cur, rfl, hb2, hh, r⟩
  · exact .inl h
  · exact .inr ⟨g, o, c, cur, rfl, hb g rfl, hh, r⟩
theorem QA.form (h : QA e sz enc base w v xs) : ∃ A c, v = .slice A xs.length c := by
  rcases h with ⟨rfl, rfl⟩ | ⟨g, o, c, cur, rfl, _⟩
  · exact ⟨none, 0, rfl⟩
  · exact ⟨_, _, rfl⟩
/-- the head of a queue that is not empty, and the queue cut at it -/
theorem QA.cons {x : α} (hsz : ∀ x, (enc x).length = sz) (h : QA e sz enc base w v (x :: xs)) : ∃ g o c, v = .slice (some ⟨g, o, none⟩) (xs.length + 1) (c + 1) ∧ base ≤ g ∧ (∀ j q, (enc x)[j]? = some q → w.cell? ⟨g, o + j, none⟩ = some q) ∧
    ∀ A, (A = some ⟨g, o, none⟩ ∧ c = 0 ∨ A = some ⟨g, o + sz, none⟩) → QA e sz enc base w (.slice A xs.length c) xs := by
  rcases h with ⟨_, h⟩ | ⟨g, o, c, cur, rfl, hb, hh, hc, hs, hsl, hx⟩
  · cases h
  · simp only [List.length_cons] at hc ⊢
    obtain ⟨c, rfl⟩ : ∃ c', c = c' + 1 := ⟨c - 1, by omega⟩
    refine ⟨g, o, c, rfl, hb, fun j q hq => ?_, ?_⟩
    · rw [cell_of_row w g _ cur e (0, 0) hh]
      exact hx j q (by rw [List.flatMap_cons, List.getElem?_append_left (List.getElem?_eq_some_iff.1 hq).1]; exact hq)
    · rw [Nat.succ_mul] at hs
      rintro A (⟨rfl, rfl⟩ | rfl)
      · have : xs = [] := List.eq_nil_of_length_eq_zero (by omega)
        subst this
        exact .inr ⟨g, o, 0, cur, rfl, hb, hh, Nat.le_refl _, by omega, hsl, fun j q hq => by simp at hq⟩
      · refine .inr ⟨g, o + sz, c, cur, rfl, hb, hh, by omega, by omega, hsl, fun j q hq => ?_⟩
        have := hx (sz + j) q (by rw [List.flatMap_cons, List.getElem?_append_right (by rw [hsz]; omega), hsz, Nat.add_sub_cancel_left]; exact hq)
        rw [Nat.add_assoc]; exact this
/-- the block holds no integers -/
theorem QA.noint (h : QA e sz enc base w v xs) {k i : Nat} {q : Value} (hk : sBlk v = some k) (hc : w.cell? ⟨k, i, none⟩ = some q) : IsSl q := by
  rcases h with ⟨rfl, _⟩ | ⟨g, o, c, cur, rfl, hb, hh, _, _, hsl, _⟩
  · cases hk
  · injection hk with hk; subst hk
    rw [cell_of_row w g _ cur e (0, 0) hh] at hc
    exact hsl _ _ hc
/-- what a kind of element of slices owes -/
structure ElQ (P : Program) (e : TypeId) (sz : Nat) (enc : α → List Value) : Prop extends ElA P e sz enc where
  esl : ∀ x, ∀ q ∈ enc x, IsSl q
  zsl : ∀ i z, P.info? e = some i → i.zero = some z → ∀ q ∈ z.cells, IsSl q
theorem mem_zeroCells {cs : Array Value} {k : Nat} {q : Value} (h : q ∈ Builtin.zeroCells cs k) : q ∈ cs := by
  unfold Builtin.zeroCells at h
  obtain ⟨i, hi, rfl⟩ := Array.mem_map.1 h
  have hi := Array.mem_range.1 hi
  have hp : 0 < cs.size := by
    rcases Nat.eq_zero_or_pos cs.size with h0 | h0
    · rw [h0] at hi; simp at hi
    · exact h0
  have hlt := Nat.mod_lt i hp
  rw [getElem!_pos cs _ hlt]
  exact Array.getElem_mem hlt
/-- the run of append(v, u...) -/
theorem run_appQA {P : Program} (E : ElQ P e sz enc) {t ty : TypeId} (ht : P.underlying t = some (.slice e))
    (h : QA e sz enc base w v xs) (hu : SlA enc w u ys) (hn : ys ≠ []) (hlen : xs.length + ys.length ≤ 100000000) (hbase : base ≤ w.heap.size) :
    ∃ v' w', (Builtin.append_ #[t, t] ty #[v, u]).run P w = .ok v' w' ∧ QA e sz enc base w' v' (xs ++ ys) ∧ Below base w w' ∧ (∀ k, k < w.heap.size → sBlk v ≠ some k → w'.heap[k]? = w.heap[k]?) ∧ (sBlk v' = sBlk v ∨ sBlk v' = some w.heap.size) := by
  obtain ⟨i, z, bytes, hi, hz, hs, hby, hzs, hb16⟩ := E.ex
  obtain ⟨A, c2, rfl, hc2, hy⟩ := hu
  have hfl : ∀ l : List α, (l.flatMap enc).length = l.length * sz := fun l => by
    induction l with
    | nil => simp
    | cons x xs ih => rw [List.flatMap_cons, List.length_append, ih, E.len x, List.length_cons, Nat.succ_mul]; omega
  have hpos : 0 < ys.length := by cases ys with | nil => exact absurd rfl hn | cons y ys => simp
  obtain ⟨ad, hA⟩ : ∃ ad, A = some ad := by
    have h0 : 0 < (ys.flatMap enc).length := by rw [hfl]; exact Nat.mul_pos hpos E.pos
    obtain ⟨b, o, hA, _⟩ := hy 0 _ (List.getElem?_eq_getElem h0)
    exact ⟨_, hA⟩
  subst hA
  have hcells : ∀ j q, (ys.flatMap enc)[j]? = some q → w.cell? (ad.add j) = some q := by
    intro j q hq
    obtain ⟨b, o, hA, hcell⟩ := hy j q hq
    injection hA with hA
    subst hA
    have : (⟨b, o, none⟩ : Addr).add j = ⟨b, o + j, none⟩ := by unfold Addr.add; split <;> simp_all
    rw [this]; exact hcell
  have hone : ∀ q ∈ ys.flatMap enc, q.oneCell' = true := fun q hq => by obtain ⟨y, hy, hq2⟩ := List.mem_flatMap.1 hq; exact E.one y q hq2
  have hesl : ∀ (l : List α), ∀ q ∈ l.flatMap enc, IsSl q := fun l q hq => by obtain ⟨y, hy, hq2⟩ := List.mem_flatMap.1 hq; exact E.esl y q hq2
  have src : Src P i.size t (.slice (some ad) ys.length c2) ys.length (ys.flatMap enc) w := Src.ofSlice w ht _ _ _ _ (by rw [hs, hfl]) hcells hone
  -- a new block
  have grown : ∀ (bs : Option Addr) (old : Nat), old < xs.length + ys.length → (Builtin.firstCells i.size xs.length (.slice bs xs.length old)).run P w.drew = .ok (xs.flatMap enc).toArray w.drew →
      ∃ v' w', (Builtin.append_ #[t, t] ty #[.slice bs xs.length old, .slice (some ad) ys.length c2]).run P w = .ok v' w' ∧ QA e sz enc base w' v' (xs ++ ys) ∧ Below base w w' ∧ (∀ k, k < w.heap.size → w'.heap[k]? = w.heap[k]?) ∧ sBlk v' = some w.heap.size := by
    intro bs old hold hfc
    have hncap : Builtin.nextslicecap (xs.length + ys.length) old * i.bytes ≤ 281474976710656 := by
      have h1 := nextslicecap_le_wide (need := xs.length + ys.length) (old := old) hold
      rw [hby]
      exact Nat.le_trans (Nat.mul_le_mul h1 hb16) (by omega)
    have hr := run_append_grow_src (P := P) w t t ty e i z ht hi hz bs xs.length old (xs.flatMap enc) hfc (.slice (some ad) ys.length c2) ys.length (ys.flatMap enc) src hold (by omega) hncap
    have hge : xs.length + ys.length ≤ grownCap w (xs.length + ys.length) old e := grownCap_ge w _ _ _
    refine ⟨_, _, hr, .inr ⟨w.heap.size, 0, _, _, by rw [List.length_append], hbase, heap_alloc_new w.drew _, by rw [List.length_append]; exact hge, ?_, fun j q hq => ?_, fun j q hq => ?_⟩, Below.alloc (a := w) (w := w.drew) (bdrewN (Below.refl _ _) 1) hbase _, fun k hk => Below.heap_alloc w.drew _ k hk, rfl⟩
    · rw [Array.size_append, size_zeroCells, hzs]
      simp only [List.size_toArray, List.length_append, hfl]
      rw [← Nat.add_mul, ← Nat.add_mul]
      rw [Nat.zero_add]
      refine Nat.mul_le_mul_right sz ?_
      omega
    · have hm := Array.mem_of_getElem? hq
      rcases Array.mem_append.1 hm with q1 | q1
      · have q2 : q ∈ xs.flatMap enc ++ ys.flatMap enc := by simpa using q1
        rcases List.mem_append.1 q2 with q3 | q3
        · exact hesl _ q q3
        · exact hesl _ q q3
      · exact E.zsl i z hi hz q (mem_zeroCells q1)
    · rw [List.flatMap_append] at hq
      rw [Nat.zero_add, Array.getElem?_append_left (by have := (List.getElem?_eq_some_iff.1 hq).1; rw [List.length_append] at this; simpa using this)]
      simpa using hq
  rcases h with ⟨rfl, rfl⟩ | ⟨g, o, c, cur, rfl, hb, hh, hc, hsz, hsl, hx⟩
  · obtain ⟨v', w', h1, h2, h3, h4, h5⟩ := grown none 0 (by simpa using hpos) (by
      have := run_firstCells_none (P := P) w.drew i.size 0 0 0
      simpa using this)
    exact ⟨v', w', h1, h2, h3, fun k hk _ => h4 k hk, .inr h5⟩
  · have hlt : g < w.heap.size := (Array.getElem?_eq_some_iff.1 hh).1
    by_cases hroom : xs.length + ys.length ≤ c
    · have hin : o + (xs.length * sz + ys.length * sz) ≤ cur.size := by
        have := Nat.mul_le_mul_right sz hroom
        rw [Nat.add_mul] at this; omega
      have hr := run_append_room_src (P := P) w t t ty e i ht hi g o xs.length c (.slice (some ad) ys.length c2) ys.length (ys.flatMap enc) src hroom
        (by
          intro j hj
          rw [hfl] at hj
          rw [hs, cell_of_row w g _ cur e (0, 0) hh, Array.getElem?_eq_getElem (by omega)]; rfl) (by intro j hj; exact frozen_of_row w g _ cur e hh)
      rw [hs] at hr
      obtain ⟨cur', k1, k2, k3, k4⟩ := setCells_row (ys.flatMap enc) (o + xs.length * sz) w cur hh (by rw [hfl]; omega)
      have hbel : Below base w (w.setCells g (o + xs.length * sz) (ys.flatMap enc)) := below_setCells hb _ _ _ _ (Below.refl base w)
      refine ⟨_, _, hr, .inr ⟨g, o, c, cur', by rw [List.length_append], hb, k1, by rw [List.length_append]; exact hroom, by rw [k2]; exact hsz, fun j q hq => ?_, fun j q hq => ?_⟩, hbel, fun k hk hne => heap_setCells_far (fun e => hne (by rw [e]; rfl)) _ _ _, .inl rfl⟩
      · by_cases hj : j < o + xs.length * sz ∨ o + xs.length * sz + (ys.flatMap enc).length ≤ j
        · rw [k3 j hj] at hq; exact hsl _ _ hq
        · have hlt2 : j - (o + xs.length * sz) < (ys.flatMap enc).length := by omega
          have h4 := k4 _ _ (List.getElem?_eq_getElem hlt2)
          rw [show o + xs.length * sz + (j - (o + xs.length * sz)) = j by omega, hq] at h4
          injection h4 with h4
          rw [h4]
          exact hesl _ _ (List.getElem_mem hlt2)
      · rw [List.flatMap_append] at hq
        rcases Nat.lt_or_ge j (xs.flatMap enc).length with hj | hj
        · rw [List.getElem?_append_left hj] at hq
          rw [k3 _ (.inl (by rw [hfl] at hj; omega))]
          exact hx j q hq
        · rw [List.getElem?_append_right hj] at hq
          have := k4 _ q hq
          rw [hfl] at hj this
          rw [show o + xs.length * sz + (j - xs.length * sz) = o + j by omega] at this
          exact this
    · obtain ⟨v', w', h1, h2, h3, h4, h5⟩ := grown (some ⟨g, o, none⟩) c (by omega) (run_firstCells_some (P := P) w.drew i.size xs.length ⟨g, o, none⟩ xs.length c (xs.flatMap enc) (by rw [hs, hfl]) (by
        intro j u hj
        have : (⟨g, o, none⟩ : Addr).add j = ⟨g, o + j, none⟩ := by unfold Addr.add; split <;> simp_all
        rw [this]
        show w.cell? _ = _
        rw [cell_of_row w g _ cur e (0, 0) hh]
        exact hx j u hj))
      exact ⟨v', w', h1, h2, h3, fun k hk _ => h4 k hk, .inr h5⟩
theorem wp_appQA {P : Program} {o : Oper} {a : Act} {K : Act → World → Prop} {Q : Exit → Act → World → Prop} (E : ElQ P e sz enc) (s x : Operand) (t t2 : TypeId) (ho : o.op = .call { callee := .builtin .append, args := #[s, x], argTypes := #[t, t2] })
    (ht : P.underlying t = some (.slice e)) (ht2 : P.underlying t2 = some (.slice e))
    (hv : a.eval s = v) (h : QA e sz enc base w v xs) (hx : a.eval x = u) (hu : SlA enc w u ys) (hn : ys ≠ []) (hlen : xs.length + ys.length ≤ 100000000) (hbase : base ≤ w.heap.size)
    (hK : ∀ v' w', QA e sz enc base w' v' (xs ++ ys) → Below base w w' → (∀ k, k < w.heap.size → sBlk v ≠ some k → w'.heap[k]? = w.heap[k]?) → (sBlk v' = sBlk v ∨ sBlk v' = some w.heap.size) → K (a.put o.dst v') w') : o.wp P a w K Q := by
  obtain ⟨v', w', hrun, h1, h2, h3, h4⟩ := run_appQA (P := P) (ty := o.type) E ht h hu hn hlen hbase
  unfold Oper.wp execOp
  simp only [ho, resolve, invoke, builtin, Sem.run_bind, Sem.run_pure, Result.andThen_ok, List.map_toArray, List.map_cons, List.map_nil, hv, hx, (append_typesA ht ht2).trans hrun]
  exact hK v' w' h1 h2 h3 h4
end
/-- what an append to v0 has left as it was; v: the slice that came -/
structure KptQ (B : Nat) (w0 w : World) (v0 v : Value) : Prop where
  bel : Below B w0 w
  keep : ∀ k, k < w0.heap.size → sBlk v0 ≠ some k → w.heap[k]? = w0.heap[k]?
  blk : ∀ k, sBlk v = some k → sBlk v0 = some k ∨ w0.heap.size ≤ k
section
variable {α : Type}
/-- c: the literal; a: the append; f: the store at p -/
structure ApQ (e : TypeId) (sz : Nat) (enc : α → List Value) (B : Nat) (w0 : World) (ev : Nat → Option Value) (c a f : Nat) (v0 : Value) (p : Addr) (L LIT : List α) (D : Nat → Bool) (x : Nat → Value) (w : World) : Prop where
  kn : ∀ i v, ev i = some v → D i = true → x i = v
  pre : D a = false → D f = false → Below w0.heap.size w0 w
  lit : D c = true → D a = false → D f = false → OwnA e sz enc w0.heap.size w (x c) LIT
  mid : D a = true → D f = false → QA e sz enc B w (x a) (L ++ LIT) ∧ KptQ B w0 w v0 (x a)
  fin : D f = true → ∃ W v, w = W.setCell p v ∧ QA e sz enc B W v (L ++ LIT) ∧ KptQ B w0 W v0 v
variable {e : TypeId} {sz : Nat} {enc : α → List Value} {B : Nat} {w0 w w' : World} {ev : Nat → Option Value} {c a f : Nat} {v0 : Value} {p : Addr} {L LIT : List α} {D : Nat → Bool} {x : Nat → Value}
theorem ApQ.start : ApQ e sz enc B w0 ev c a f v0 p L LIT (fun _ => false) x w0.drew :=
  ⟨fun i v _ h => Bool.noConfusion h, fun _ _ => (Below.refl _ _).drew, fun h => Bool.noConfusion h, fun h => Bool.noConfusion h, fun h => Bool.noConfusion h⟩
theorem ApQ.val (h : ApQ e sz enc B w0 ev c a f v0 p L LIT D x w) {i : Nat} {v : Value} (hv : ev i = some v) (h1 : i ≠ c) (h2 : i ≠ a) (h3 : i ≠ f) : ApQ e sz enc B w0 ev c a f v0 p L LIT (upd D i true) (upd x i v) w := by
  refine ⟨fun j u hu hd => ?_, fun d1 d2 => ?_, fun d1 d2 d3 => ?_, fun d1 d2 => ?_, fun d => ?_⟩
  · by_cases e : j = i
    · subst e; rw [upd_same]; rw [hv] at hu; injection hu
    · rw [upd_ne _ _ e] at hd ⊢; exact h.kn j u hu hd
  · rw [upd_ne _ _ (Ne.symm h2)] at d1; rw [upd_ne _ _ (Ne.symm h3)] at d2; exact h.pre d1 d2
  · rw [upd_ne _ _ (Ne.symm h1)] at d1 ⊢; rw [upd_ne _ _ (Ne.symm h2)] at d2; rw [upd_ne _ _ (Ne.symm h3)] at d3; exact h.lit d1 d2 d3
  · rw [upd_ne _ _ (Ne.symm h2)] at d1 ⊢; rw [upd_ne _ _ (Ne.symm h3)] at d2; exact h.mid d1 d2
  · rw [upd_ne _ _ (Ne.symm h3)] at d; exact h.fin d
theorem ApQ.call (h : ApQ e sz enc B w0 ev c a f v0 p L LIT D x w) {v : Value} (hev : ev c = none) (h1 : c ≠ a) (h2 : c ≠ f) (ha : D a = false) (hf : D f = false) (hb : Below w.heap.size w w') (ho : OwnA e sz enc w.heap.size w' v LIT) : ApQ e sz enc B w0 ev c a f v0 p L LIT (upd D c true) (upd x c v) w' := by
  have hp := h.pre ha hf
  refine ⟨fun j u hu hd => ?_, fun d1 d2 => hp.trans (hb.mono hp.size), fun d1 d2 d3 => by rw [upd_same]; exact ho.low hp.size, fun d1 d2 => ?_, fun d => ?_⟩
  · have e : j ≠ c := fun e => (by rw [e, hev] at hu; cases hu)
    rw [upd_ne _ _ e] at hd ⊢; exact h.kn j u hu hd
  · rw [upd_ne _ _ (Ne.symm h1), ha] at d1; cases d1
  · rw [upd_ne _ _ (Ne.symm h2), hf] at d; cases d
theorem ApQ.app {P : Program} (E : ElQ P e sz enc) (h : ApQ e sz enc B w0 ev c a f v0 p L LIT D x w) {o : Oper} {b : Act} (sx ux : Operand) (t t2 : TypeId) (ho : o.op = .call { callee := .builtin .append, args := #[sx, ux], argTypes := #[t, t2] })
    (ht : P.underlying t = some (.slice e)) (ht2 : P.underlying t2 = some (.slice e)) (hev : ev a = none) (hca : c ≠ a) (haf : a ≠ f) (hc : D c = true) (ha : D a = false) (hf : D f = false)
    (he1 : b.eval sx = v0) (he2 : b.eval ux = x c) (hv0 : QA e sz enc B w0 v0 L) (hn : LIT ≠ []) (hB : B ≤ w0.heap.size) (hlen : L.length + LIT.length ≤ 100000000) : o.wp P b w (StepPost (ApQ e sz enc B w0 ev c a f v0 p L LIT) D x a b o.dst) NoQ := by
  have hp := h.pre ha hf
  have hl := h.lit hc ha hf
  refine wp_appQA (P := P) (base := B) E sx ux t t2 ho ht ht2 he1 (hv0.below hp) he2 hl.sl hn hlen (Nat.le_trans hB hp.size) ?_
  intro v' w' h1 h2 h3 h4
  refine ⟨v', rfl, fun j u hu hd => ?_, fun d1 d2 => ?_, fun d1 d2 d3 => ?_, fun d1 d2 => ?_, fun d => ?_⟩
  · have e : j ≠ a := fun e => (by rw [e, hev] at hu; cases hu)
    rw [upd_ne _ _ e] at hd ⊢; exact h.kn j u hu hd
  · rw [upd_same] at d1; cases d1
  · rw [upd_same] at d2; cases d2
  · rw [upd_same]
    refine ⟨h1, (hp.mono hB).trans h2, fun k hk hne => (h3 k (Nat.lt_of_lt_of_le hk hp.size) hne).trans (hp.block k hk), fun k hk => ?_⟩
    rcases h4 with q | q
    · rw [q] at hk; exact .inl hk
    · rw [q] at hk
      injection hk with hk
      subst hk
      exact .inr hp.size
  · rw [upd_ne _ _ (Ne.symm haf), hf] at d; cases d
theorem ApQ.store (h : ApQ e sz enc B w0 ev c a f v0 p L LIT D x w) (hev : ev f = none) (ha : D a = true) (hf : D f = false) (v : Value) : ApQ e sz enc B w0 ev c a f v0 p L LIT (upd D f true) (upd x f v) (w.setCell p (x a)) := by
  obtain ⟨m1, m2⟩ := h.mid ha hf
  refine ⟨fun j u hu hd => ?_, fun d1 d2 => ?_, fun d1 d2 d3 => ?_, fun d1 d2 => ?_, fun d => ⟨w, x a, rfl, m1, m2⟩⟩
  · have e : j ≠ f := fun e => (by rw [e, hev] at hu; cases hu)
    rw [upd_ne _ _ e] at hd ⊢; exact h.kn j u hu hd
  · rw [upd_same] at d2; cases d2
  · rw [upd_same] at d3; cases d3
  · rw [upd_same] at d2; cases d2
theorem KptQ.arr {g : Nat} {t : TypeId} {cs : List Value} {v : Value} (h : KptQ B w0 w v0 v) (hg : Arr w0 g t cs) (hne : sBlk v0 ≠ some g) : Arr w g t cs := (h.keep g hg.lt hne).trans hg
/-- a block that the append does not write, at any time before the store -/
theorem ApQ.arrK (h : ApQ e sz enc B w0 ev c a f v0 p L LIT D x w) (hf : D f = false) {g : Nat} {t : TypeId} {cs : List Value} (hg : Arr w0 g t cs) (hne : sBlk v0 ≠ some g) : Arr w g t cs := by
  cases ha : D a with
  | false => exact hg.below (h.pre ha hf) hg.lt
  | true => exact (h.mid ha hf).2.arr hg hne
end
end Go.Proofs.YteliflcbegcdlaaGreatDoor

namespace Go.Proofs.YteliflcbegcdlaaGreatDoor
open Go.RowKit
set_option linter.unusedVariables false
theorem mod_app {α : Type} (f : α → α) (x : α) : ∀ l : List α, (l ++ [x]).modify l.length f = l ++ [f x]
  | [] => rfl
  | a :: t => by
    have := mod_app f x t
    simpa using this
def kyS (k : List UInt8) : Value := .string ⟨k.toArray⟩
theorem kyS_inj {k k' : List UInt8} (h : kyS k = kyS k') : k = k' := by
  unfold kyS at h
  injection h with h
  injection h with h
  exact Array.toList_inj.2 h |> fun e => by simpa using e
/-- the map in block b has the entries L, in this order; ck: its clock -/
def MpS (w : World) (b : Nat) (L : List (List UInt8 × Value)) (ck : Nat) : Prop :=
  ∃ es : Array MapEntry, w.heap[b]? = some (.map es ck) ∧ es.toList.map (fun e => (e.key, e.val)) = L.map (fun p => (kyS p.1, p.2)) ∧ ∀ x ∈ es.toList, x.born < ck
/-- an entry k has been made and waits for its value -/
def MpP (w : World) (b : Nat) (L : List (List UInt8 × Value)) (k : List UInt8) (ck : Nat) : Prop :=
  ∃ (es : Array MapEntry) (z : Value), w.heap[b]? = some (.map (es.push { key := kyS k, val := z, born := ck }) (ck + 1)) ∧ es.toList.map (fun e => (e.key, e.val)) = L.map (fun p => (kyS p.1, p.2)) ∧ ∀ x ∈ es.toList, x.born < ck
theorem MpS.keep {w w' : World} {b : Nat} {L : List (List UInt8 × Value)} {ck : Nat} (h : MpS w b L ck) (k : w'.heap[b]? = w.heap[b]?) : MpS w' b L ck := by
  obtain ⟨es, h1, h2, h3⟩ := h
  exact ⟨es, k.trans h1, h2, h3⟩
theorem MpP.keep {w w' : World} {b : Nat} {L : List (List UInt8 × Value)} {k : List UInt8} {ck : Nat} (h : MpP w b L k ck) (kk : w'.heap[b]? = w.heap[b]?) : MpP w' b L k ck := by
  obtain ⟨es, z, h1, h2, h3⟩ := h
  exact ⟨es, z, kk.trans h1, h2, h3⟩
theorem MpS.lt {w : World} {b : Nat} {L : List (List UInt8 × Value)} {ck : Nat} (h : MpS w b L ck) : b < w.heap.size := by
  obtain ⟨es, h1, _⟩ := h
  exact (Array.getElem?_eq_some_iff.1 h1).1
theorem MpS.new (w : World) : MpS (w.alloc (.map #[] 0)) w.heap.size [] 0 := ⟨#[], MapKept.heap_alloc w _ |>.1, rfl, fun x hx => by simp at hx⟩
section
variable {P : Program} {w : World} {b : Nat} {L : List (List UInt8 × Value)} {ck : Nat} {t kt et : TypeId} {k : List UInt8}
theorem MpS.keys {es : Array MapEntry} (h2 : es.toList.map (fun e => (e.key, e.val)) = L.map (fun p => (kyS p.1, p.2))) : (∀ x ∈ es.toList, MapKept.IsKey .string x.key) ∧ ∀ (j : Nat) (e : MapEntry), es.toList[j]? = some e → ∃ p : List UInt8 × Value, L[j]? = some p ∧ e.key = kyS p.1 ∧ e.val = p.2 := by
  have h : ∀ (j : Nat) (e : MapEntry), es.toList[j]? = some e → ∃ p : List UInt8 × Value, L[j]? = some p ∧ e.key = kyS p.1 ∧ e.val = p.2 := fun j e hj => by
    have h3 := congrArg (fun l => l[j]?) h2
    simp only [List.getElem?_map, hj, Option.map_some] at h3
    cases hL : L[j]? with
    | none => rw [hL] at h3; cases h3
    | some p =>
      rw [hL] at h3
      injection h3 with h3
      injection h3 with a b
      exact ⟨p, rfl, a, b⟩
  refine ⟨fun x hx => ?_, h⟩
  obtain ⟨j, hj⟩ := List.getElem?_of_mem hx
  obtain ⟨p, _, e, _⟩ := h j x hj
  rw [e]; exact trivial
theorem mps_lookup_no (h : MpS w b L ck) (hm : P.underlying t = some (.map kt et)) (hd : P.underlying kt = some .string) {z : Value} (hz : (zeroValue et).run P w = .ok z w) (hk : ∀ p ∈ L, p.1 ≠ k) :
    Sem.run P (Instr.lookup t (.map (some b)) (kyS k) true) w = .ok (.tuple #[z, .bool false]) w := by
  obtain ⟨es, h1, h2, _⟩ := h
  obtain ⟨a1, a2⟩ := MpS.keys h2
  rcases MapKept.findNow_spec (d := .string) (k := kyS k) trivial es.toList 0 a1 with ⟨e1, _⟩ | ⟨j, e, e1, e2, e3⟩
  · simp [Instr.lookup, run_underlying hm, MapKept.run_getObj_map h1, MapKept.run_checkKey hd (k := kyS k) trivial, MapKept.run_findKey hd e1, hz, Result.andThen]
  · obtain ⟨p, hp, e4, _⟩ := a2 j e e2
    rw [e4] at e3
    exact absurd (kyS_inj e3) (hk p (List.mem_of_getElem? hp))
theorem mps_lookup_yes (h : MpS w b L ck) (hm : P.underlying t = some (.map kt et)) (hd : P.underlying kt = some .string) (hn : (L.map (·.1)).Nodup) {v : Value} (hk : (k, v) ∈ L) :
    Sem.run P (Instr.lookup t (.map (some b)) (kyS k) true) w = .ok (.tuple #[v, .bool true]) w ∧ Sem.run P (Instr.lookup t (.map (some b)) (kyS k) false) w = .ok v w := by
  obtain ⟨es, h1, h2, _⟩ := h
  obtain ⟨a1, a2⟩ := MpS.keys h2
  rcases MapKept.findNow_spec (d := .string) (k := kyS k) trivial es.toList 0 a1 with ⟨e1, e0⟩ | ⟨j, e, e1, e2, e3⟩
  · exfalso
    obtain ⟨j, hj⟩ := List.getElem?_of_mem hk
    have hl : es.toList.length = L.length := by have := congrArg List.length h2; simpa using this
    have hjl : j < es.toList.length := by rw [hl]; exact (List.getElem?_eq_some_iff.1 hj).1
    obtain ⟨p, hp, e4, _⟩ := a2 j _ (List.getElem?_eq_getElem hjl)
    rw [hj] at hp
    injection hp with hp
    subst hp
    exact e0 _ (List.getElem_mem hjl) e4
  · obtain ⟨p, hp, e4, e5⟩ := a2 j e e2
    rw [e4] at e3
    have hpk := kyS_inj e3
    have hpe : p = (k, v) := by
      obtain ⟨i, hi⟩ := List.getElem?_of_mem hk
      have hij : i = j := by
        have hi1 : i < (L.map (·.1)).length := by rw [List.length_map]; exact (List.getElem?_eq_some_iff.1 hi).1
        have hj1 : j < (L.map (·.1)).length := by rw [List.length_map]; exact (List.getElem?_eq_some_iff.1 hp).1
        refine (List.getElem_inj (h₀ := hi1) (h₁ := hj1) hn).1 ?_
        obtain ⟨_, q1⟩ := List.getElem?_eq_some_iff.1 hi
        obtain ⟨_, q2⟩ := List.getElem?_eq_some_iff.1 hp
        rw [List.getElem_map, List.getElem_map, q1, q2, hpk]
      rw [hij, hp] at hi
      injection hi
    rw [e5, hpe] at e1
    constructor
    · simp [Instr.lookup, run_underlying hm, MapKept.run_getObj_map h1, MapKept.run_checkKey hd (k := kyS k) trivial, MapKept.run_findKey hd e1, Result.andThen]
    · simp [Instr.lookup, run_underlying hm, MapKept.run_getObj_map h1, MapKept.run_checkKey hd (k := kyS k) trivial, MapKept.run_findKey hd e1, Result.andThen]
theorem mps_entry (h : MpS w b L ck) (hm : P.underlying t = some (.map kt et)) (hd : P.underlying kt = some .string) {z : Value} (hz : (zeroValue et).run P w = .ok z w) (hk : ∀ p ∈ L, p.1 ≠ k) :
    ∃ w', Sem.run P (Instr.mapEntry t (.map (some b)) (kyS k)) w = .ok (.tuple #[z, goInt ck]) w' ∧ MpP w' b L k ck ∧ (∀ r, r ≠ b → w'.heap[r]? = w.heap[r]?) ∧ w'.heap.size = w.heap.size ∧ (∀ B, B ≤ b → Below B w w') := by
  obtain ⟨es, h1, h2, h3⟩ := h
  obtain ⟨a1, a2⟩ := MpS.keys h2
  rcases MapKept.findNow_spec (d := .string) (k := kyS k) trivial es.toList 0 a1 with ⟨e1, _⟩ | ⟨j, e, e1, e2, e3⟩
  · refine ⟨{ w with heap := w.heap.setIfInBounds b (.map (es.push { key := kyS k, val := z, born := ck }) (ck + 1)) }, ?_, ⟨es, z, (MapKept.heap_set h1).1, h2, h3⟩, fun r hr => (MapKept.heap_set h1).2 r hr, by simp, fun B hB => ⟨rfl, rfl, rfl, by simp, fun r hr => (MapKept.heap_set h1).2 r (by omega)⟩⟩
    simp [Instr.mapEntry, run_underlying hm, MapKept.run_getObj_map h1, MapKept.run_checkKey hd (k := kyS k) trivial, MapKept.run_findKey hd e1, hz, MapKept.run_setObj_map _ h1, Result.andThen]
  · obtain ⟨p, hp, e4, _⟩ := a2 j e e2
    rw [e4] at e3
    exact absurd (kyS_inj e3) (hk p (List.mem_of_getElem? hp))
theorem mps_store (h : MpP w b L k ck) (v : Value) :
    ∃ w', Sem.run P (Instr.entryStore t (.map (some b)) (goInt ck) v) w = .ok () w' ∧ MpS w' b (L ++ [(k, v)]) (ck + 1) ∧ (∀ r, r ≠ b → w'.heap[r]? = w.heap[r]?) ∧ w'.heap.size = w.heap.size ∧ (∀ B, B ≤ b → Below B w w') := by
  obtain ⟨es, z, h1, h2, h3⟩ := h
  have hf : (es.push { key := kyS k, val := z, born := ck }).findIdx? (fun e => (e.born : Int) == (ck : Int)) = some es.size := by
    rw [Array.findIdx?_push]
    have : es.findIdx? (fun e => (e.born : Int) == (ck : Int)) = none := by
      rw [Array.findIdx?_eq_none_iff]
      intro x hx
      have := h3 x (by simpa using hx)
      simp; omega
    rw [this]; simp
  refine ⟨{ w with heap := w.heap.setIfInBounds b (.map ((es.push { key := kyS k, val := z, born := ck }).modify es.size fun e => { e with val := v }) (ck + 1)) }, ?_, ⟨_, (MapKept.heap_set h1).1, ?_, ?_⟩, fun r hr => (MapKept.heap_set h1).2 r hr, by simp, fun B hB => ⟨rfl, rfl, rfl, by simp, fun r hr => (MapKept.heap_set h1).2 r (by omega)⟩⟩
  · simp only [Instr.entryStore, Sem.run_bind, MapKept.run_getObj_map h1, Result.andThen]
    simp [goInt, asInt, asIntOf, hf, MapKept.run_setObj_map _ h1, Result.andThen]
  · have e : ((es.push { key := kyS k, val := z, born := ck }).modify es.size fun e => { e with val := v }).toList = es.toList ++ [{ key := kyS k, val := v, born := ck }] := by
      rw [Array.toList_modify, Array.toList_push, ← Array.length_toList, mod_app]
    rw [e, List.map_append, List.map_append, h2]; rfl
  · intro x hx
    have e : ((es.push { key := kyS k, val := z, born := ck }).modify es.size fun e => { e with val := v }).toList = es.toList ++ [{ key := kyS k, val := v, born := ck }] := by
      rw [Array.toList_modify, Array.toList_push, ← Array.length_toList, mod_app]
    rw [e] at hx
    rcases List.mem_append.1 hx with q | q
    · have := h3 x q; omega
    · rw [List.mem_singleton.1 q]; simp
end
end Go.Proofs.YteliflcbegcdlaaGreatDoor

namespace Go.Proofs.YteliflcbegcdlaaGreatDoor
open Go.RowKit Go.Shelf
set_option linter.unusedVariables false
abbrev SL := Option Addr × Nat × Nat
abbrev GV := SL × SL
def sv (s : SL) : Value := .slice s.1 s.2.1 s.2.2
def eG (p : GV) : List Value := [sv p.1, sv p.2]
def GvI (w : World) (p : GV) (g : Gd) : Prop := Ints w (sv p.1) g.1 ∧ Ints w (sv p.2) g.2
theorem GvI.gd {w : World} {p : GV} {g : Gd} (h : GvI w p g) : GdI w (.agg #[sv p.1, sv p.2]) g := ⟨_, _, _, _, _, _, rfl, h.1, h.2⟩
theorem GdI.gv {w : World} {v : Value} {g : Gd} (h : GdI w v g) : ∃ p : GV, v = .agg #[sv p.1, sv p.2] ∧ GvI w p g := by
  obtain ⟨A, n, c, B, m, d, rfl, a, b⟩ := h
  exact ⟨((A, n, c), (B, m, d)), rfl, a, b⟩
/-- the list ps of values reads as the grids gs -/
def Al (w : World) : List GV → List Gd → Prop
  | [], [] => True
  | p :: ps, g :: gs => GvI w p g ∧ Al w ps gs
  | _, _ => False
theorem Al.len {w : World} : ∀ {ps : List GV} {gs : List Gd}, Al w ps gs → ps.length = gs.length
  | [], [], _ => rfl
  | p :: ps, g :: gs, h => by simp [Al.len h.2]
  | [], g :: gs, h => h.elim
  | p :: ps, [], h => h.elim
theorem Al.imp {w w' : World} (hk : ∀ p g, GvI w p g → GvI w' p g) : ∀ {ps : List GV} {gs : List Gd}, Al w ps gs → Al w' ps gs
  | [], [], _ => trivial
  | p :: ps, g :: gs, h => ⟨hk p g h.1, Al.imp hk h.2⟩
  | [], g :: gs, h => h.elim
  | p :: ps, [], h => h.elim
theorem Al.snoc {w : World} {q : GV} {x : Gd} (hq : GvI w q x) : ∀ {ps : List GV} {gs : List Gd}, Al w ps gs → Al w (ps ++ [q]) (gs ++ [x])
  | [], [], _ => ⟨hq, trivial⟩
  | p :: ps, g :: gs, h => ⟨h.1, Al.snoc hq h.2⟩
  | [], g :: gs, h => h.elim
  | p :: ps, [], h => h.elim
theorem Al.get {w : World} : ∀ {ps : List GV} {gs : List Gd}, Al w ps gs → ∀ (i : Nat) (p : GV) (g : Gd), ps[i]? = some p → gs[i]? = some g → GvI w p g
  | [], [], _, i, p, g, h, _ => by simp at h
  | p :: ps, g :: gs, h, 0, q, x, h1, h2 => by simp at h1 h2; subst h1; subst h2; exact h.1
  | p :: ps, g :: gs, h, i + 1, q, x, h1, h2 => Al.get h.2 i q x (by simpa using h1) (by simpa using h2)
  | [], g :: gs, h, _, _, _, _, _ => h.elim
  | p :: ps, [], h, _, _, _, _, _ => h.elim
theorem info_gr5 : (Tryz.prog.info? 24).map (fun i => (i.zero, i.size, i.bytes)) = some (some (.agg #[.slice none 0 0, .slice none 0 0]), 2, 48) := by kernel_rfl
theorem elG : ElQ Tryz.prog 24 2 eG where
  ex := by
    obtain ⟨i, hi, hz, hs, hb⟩ := info_parts info_gr5
    exact ⟨i, _, 48, hi, hz, hs, hb, rfl, by omega⟩
  pos := by omega
  len := fun x => rfl
  one := fun x q h => by unfold eG sv at h; simp at h; rcases h with rfl | rfl <;> rfl
  esl := fun x q h => by unfold eG sv at h; simp at h; rcases h with rfl | rfl <;> exact ⟨_, _, _, rfl⟩
  zsl := fun i z h1 h2 q hq => by
    obtain ⟨j, hj, hz, hs, hb⟩ := info_parts info_gr5
    have e1 := h1.symm.trans hj
    injection e1 with e1
    subst e1
    have e2 := h2.symm.trans hz
    injection e2 with e2
    subst e2
    have : q = .slice none 0 0 := by simpa [Value.cells] using hq
    exact ⟨_, _, _, this⟩
/-! ### the state -/
structure SP where
  m1 : Nat
  m2 : Nat
  vC : Value
  WS : List Value
  L1 : List (List UInt8 × Value)
  c1 : Nat
  c2 : Nat
def frS : Option Gd → List UInt8
  | none => []
  | some c => fmG c
def l2 (K : List En) : List (List UInt8 × Value) := K.map fun e => (fmG e.key, .string ⟨(frS e.fr).toArray⟩)
def Ow (gS : Nat) (p : SP) (b : Nat) : Prop := b = gS ∨ b = p.m1 ∨ b = p.m2 ∨ sBlk p.vC = some b ∨ ∃ v ∈ p.WS, sBlk v = some b
/-- the entries of the map of moves -/
def AlK (w : World) (L : List (List UInt8 × Value)) (K : List En) : Prop :=
  L.length = K.length ∧ ∀ (i : Nat) q e, L[i]? = some q → K[i]? = some e → q.1 = fmG e.key ∧ Moves w q.2 e.ms
structure SI (gS : Nat) (w : World) (s : St) (p : SP) : Prop where
  hd : Arr w gS 52 (.map (some p.m1) :: .map (some p.m2) :: p.vC :: p.WS)
  wl : p.WS.length = 41
  w2 : s.2.length = 41
  ne : p.m1 ≠ p.m2
  mp1 : MpS w p.m1 p.L1 p.c1
  mp2 : MpS w p.m2 (l2 s.1) p.c2
  al1 : AlK w p.L1 s.1
  cls : ∃ cs, QA 24 2 eG 0 w p.vC cs ∧ Al w cs (s.1.map En.key)
  wt : ∀ (i : Nat) v gs, p.WS[i]? = some v → s.2[i]? = some gs → ∃ ps, QA 24 2 eG 0 w v ps ∧ Al w ps gs
  ap1 : ∀ (i : Nat) v b, p.WS[i]? = some v → sBlk v = some b → sBlk p.vC ≠ some b
  ap2 : ∀ (i j : Nat) v u b, p.WS[i]? = some v → p.WS[j]? = some u → i ≠ j → sBlk v = some b → sBlk u ≠ some b
/-- the plain part -/
structure StP (s : St) : Prop where
  v1 : ∀ e ∈ s.1, Vd e.key.1 e.key.2
  v2 : ∀ l ∈ s.2, ∀ g ∈ l, Vd g.1 g.2
  nd : (s.1.map En.key).Nodup
  sm : ∀ l ∈ s.2, l.length ≤ s.1.length
  l2 : s.2.length = 41
/-- what may hold in a block of the state -/
theorem SI.typ {gS : Nat} {w : World} {s : St} {p : SP} (h : SI gS w s p) {b : Nat} (hb : Ow gS p b) : (∃ es c, w.heap[b]? = some (.map es c)) ∨ ∃ cs t fr, w.heap[b]? = some (.cells cs t fr) ∧ (t = 52 ∨ t = 24) := by
  rcases hb with rfl | rfl | rfl | hb | ⟨v, hv, hb⟩
  · exact .inr ⟨_, _, _, h.hd, .inl rfl⟩
  · obtain ⟨es, h1, _⟩ := h.mp1; exact .inl ⟨_, _, h1⟩
  · obtain ⟨es, h1, _⟩ := h.mp2; exact .inl ⟨_, _, h1⟩
  · obtain ⟨cs, h1, _⟩ := h.cls
    obtain ⟨cs, fr, h2⟩ := h1.typ b hb
    exact .inr ⟨_, _, _, h2, .inr rfl⟩
  · obtain ⟨i, hi⟩ := List.getElem?_of_mem hv
    have hlt : i < s.2.length := by have := (List.getElem?_eq_some_iff.1 hi).1; have := h.wl; have := h.w2; omega
    obtain ⟨ps, h1, _⟩ := h.wt i v _ hi (List.getElem?_eq_getElem hlt)
    obtain ⟨cs, fr, h2⟩ := h1.typ b hb
    exact .inr ⟨_, _, _, h2, .inr rfl⟩
theorem SI.lt {gS : Nat} {w : World} {s : St} {p : SP} (h : SI gS w s p) {b : Nat} (hb : Ow gS p b) : b < w.heap.size := by
  rcases h.typ hb with ⟨es, c, e⟩ | ⟨cs, t, fr, e, _⟩ <;> exact (Array.getElem?_eq_some_iff.1 e).1
/-- no integer lies in a block of the state -/
theorem SI.noint {gS : Nat} {w : World} {s : St} {p : SP} (h : SI gS w s p) {b i : Nat} {k : IntKind} {n : Int} (hc : w.cell? ⟨b, i, none⟩ = some (.int k n)) : ¬ Ow gS p b := by
  intro hb
  rcases hb with rfl | rfl | rfl | hb | ⟨v, hv, hb⟩
  · rw [h.hd.cell i] at hc
    rcases i with _ | _ | _ | i
    · cases hc
    · cases hc
    · obtain ⟨cs, h1, _⟩ := h.cls
      obtain ⟨A, c, e⟩ := h1.form
      simp only [List.getElem?_cons_succ, List.getElem?_cons_zero, e] at hc
      cases hc
    · simp only [List.getElem?_cons_succ] at hc
      have hlt : i < s.2.length := by have := (List.getElem?_eq_some_iff.1 hc).1; have := h.wl; have := h.w2; omega
      obtain ⟨ps, h1, _⟩ := h.wt i _ _ hc (List.getElem?_eq_getElem hlt)
      obtain ⟨A, c, e⟩ := h1.form
      cases e
  · obtain ⟨es, h1, _⟩ := h.mp1; unfold World.cell? at hc; rw [h1] at hc; cases hc
  · obtain ⟨es, h1, _⟩ := h.mp2; unfold World.cell? at hc; rw [h1] at hc; cases hc
  · obtain ⟨cs, h1, _⟩ := h.cls
    obtain ⟨A, n, c, e⟩ := h1.noint hb hc
    cases e
  · obtain ⟨j, hj⟩ := List.getElem?_of_mem hv
    have hlt : j < s.2.length := by have := (List.getElem?_eq_some_iff.1 hj).1; have := h.wl; have := h.w2; omega
    obtain ⟨ps, h1, _⟩ := h.wt j v _ hj (List.getElem?_eq_getElem hlt)
    obtain ⟨A, n, c, e⟩ := h1.noint hb hc
    cases e
/-- a step that writes the state's blocks alone -/
structure Kf (gS : Nat) (p : SP) (w w' : World) : Prop where
  siz : w.heap.size ≤ w'.heap.size
  keep : ∀ b, b < w.heap.size → ¬ Ow gS p b → w'.heap[b]? = w.heap[b]?
section
variable {gS : Nat} {w w' : World} {s : St} {p : SP}
theorem Kf.ints (k : Kf gS p w w') (h : SI gS w s p) {v : Value} {xs : List Int} (hx : Ints w v xs) : Ints w' v xs := by
  obtain ⟨A0, c, e, hc, hx⟩ := hx
  refine ⟨A0, c, e, hc, fun j x hj => ?_⟩
  obtain ⟨b, off, e1, hcell⟩ := hx j x hj
  exact ⟨b, off, e1, (World.cell?_of_block (k.keep b (block_lt_of_cell hcell) (h.noint hcell))).trans hcell⟩
theorem Kf.gv (k : Kf gS p w w') (h : SI gS w s p) (q : GV) (g : Gd) (hx : GvI w q g) : GvI w' q g := ⟨k.ints h hx.1, k.ints h hx.2⟩
theorem Kf.gd (k : Kf gS p w w') (h : SI gS w s p) {v : Value} {g : Gd} (hx : GdI w v g) : GdI w' v g := by
  obtain ⟨A, n, c, B, m, d, rfl, a, b⟩ := hx
  exact ⟨A, n, c, B, m, d, rfl, k.ints h a, k.ints h b⟩
theorem Kf.moves (k : Kf gS p w w') (h : SI gS w s p) {v : Value} {ms : List Mv} (hx : Moves w v ms) : Moves w' v ms := by
  obtain ⟨A0, c, e, hx⟩ := hx
  refine ⟨A0, c, e, fun j hj => ?_⟩
  obtain ⟨b, off, e1, hcell⟩ := hx j hj
  have h0 := hcell 0 _ rfl
  have hb := k.keep b (block_lt_of_cell h0) (h.noint h0)
  exact ⟨b, off, e1, fun i u hu => (World.cell?_of_block hb).trans (hcell i u hu)⟩
/-- the state where nothing of it is written -/
theorem SI.below (h : SI gS w s p) (hb : Below w.heap.size w w') : SI gS w' s p := by
  have k : Kf gS p w w' := ⟨hb.size, fun b hlt _ => hb.block b hlt⟩
  have hk : ∀ b, Ow gS p b → w'.heap[b]? = w.heap[b]? := fun b ho => hb.block b (h.lt ho)
  obtain ⟨cs, q1, q2⟩ := h.cls
  exact ⟨(hk _ (.inl rfl)).trans h.hd, h.wl, h.w2, h.ne, h.mp1.keep (hk _ (.inr (.inl rfl))), h.mp2.keep (hk _ (.inr (.inr (.inl rfl)))),
    ⟨h.al1.1, fun i q e h1 h2 => ⟨(h.al1.2 i q e h1 h2).1, (h.al1.2 i q e h1 h2).2.below hb⟩⟩, ⟨cs, q1.below hb, q2.imp (k.gv h)⟩,
    fun i v gs h1 h2 => by
      obtain ⟨ps, a, b⟩ := h.wt i v gs h1 h2
      exact ⟨ps, a.below hb, b.imp (k.gv h)⟩, h.ap1, h.ap2⟩
theorem SI.put (h : SI gS w s p) {l : Nat} {o : Obj} (hl : Lp l w) : SI gS (w.putObj l o) s p := by
  have hne : ∀ b, Ow gS p b → (w.putObj l o).heap[b]? = w.heap[b]? := fun b ho => World.putObj_heap_other (by
    rintro rfl
    obtain ⟨r, e⟩ := hl
    rcases h.typ ho with ⟨es, c, e2⟩ | ⟨cs, t, fr, e2, _⟩ <;> (rw [e] at e2; cases e2))
  obtain ⟨cs, q1, q2⟩ := h.cls
  exact ⟨(hne _ (.inl rfl)).trans h.hd, h.wl, h.w2, h.ne, h.mp1.keep (hne _ (.inr (.inl rfl))), h.mp2.keep (hne _ (.inr (.inr (.inl rfl)))),
    ⟨h.al1.1, fun i q e h1 h2 => ⟨(h.al1.2 i q e h1 h2).1, (h.al1.2 i q e h1 h2).2.put hl⟩⟩, ⟨cs, q1.keepK fun b hb => hne b (.inr (.inr (.inr (.inl hb)))), q2.imp fun q g hx => ⟨hx.1.put hl, hx.2.put hl⟩⟩,
    fun i v gs h1 h2 => by
      obtain ⟨ps, a, b⟩ := h.wt i v gs h1 h2
      exact ⟨ps, a.keepK fun b hb => hne b (.inr (.inr (.inr (.inr ⟨v, List.mem_of_getElem? h1, hb⟩)))), b.imp fun q g hx => ⟨hx.1.put hl, hx.2.put hl⟩⟩, h.ap1, h.ap2⟩
end
end Go.Proofs.YteliflcbegcdlaaGreatDoor

namespace Go.Proofs.YteliflcbegcdlaaGreatDoor
open Go.RowKit Go.Shelf Go.Lib Go.Sort
set_option linter.unusedVariables false
/-- only new memory has been made and the tape been drawn from -/
def Grw (w w' : World) : Prop := ∃ q os, w' = Sort.grow (w.drewN q) os
theorem Grw.refl (w : World) : Grw w w := ⟨0, #[], by rw [grow_empty]; rfl⟩
theorem Grw.drew (w : World) : Grw w w.drew := ⟨1, #[], by rw [grow_empty]; rfl⟩
theorem Grw.alloc (w : World) (o : Obj) : Grw w (w.alloc o) := ⟨0, #[o], by rw [alloc_eq_grow]; rfl⟩
theorem Grw.trans {a b c : World} (h : Grw a b) (k : Grw b c) : Grw a c := by
  obtain ⟨q, os, rfl⟩ := h
  obtain ⟨q2, os2, rfl⟩ := k
  refine ⟨q + q2, os ++ os2, ?_⟩
  rw [← grow_grow]
  unfold Sort.grow World.drewN
  simp only [Nat.add_assoc]
theorem Grw.below {w w' : World} (h : Grw w w') : Go.RowKit.Below w.heap.size w w' := by
  obtain ⟨q, os, rfl⟩ := h
  refine ⟨rfl, rfl, rfl, ?_, fun k hk => ?_⟩
  · unfold Sort.grow World.drewN
    simp
  · unfold Sort.grow World.drewN
    show (w.heap ++ os)[k]? = w.heap[k]?
    rw [Array.getElem?_append_left hk]
section
variable {P : Program} {Q : Exit → Act → World → Prop}
/-- behind one operation -/
def PhwPost (T : World → World → Prop) (w : World) (Φ : Nat → Value → World → Prop) (i : Nat) (b : Act) (d : Option Tmp) (a' : Act) (w' : World) : Prop := ∃ v, a' = b.put d v ∧ T w w' ∧ Φ i v w'
def PhwI (T : World → World → Prop) (w0 : World) (Φ : Nat → Value → World → Prop) (x0 : Nat → Value) (D : Nat → Bool) (x : Nat → Value) (w : World) : Prop := T w0 w ∧ (∀ i, D i = true → Φ i (x i) w) ∧ ∀ i, D i = false → x i = x0 i
theorem wp_region_phw (T : World → World → Prop) (T1 : ∀ w, T w w) (Tr : ∀ {a b c}, T a b → T b c → T a c) (T0 : ∀ w, T w w.drew) {id : Nat} {l : List Oper} {a : Act} {w0 : World} (hm : P.follows .mixedOrders = true) (hd : apartD (dstOf l.toArray) = true) (hb : backD l.toArray = true) (hg : l.all (fun o => o.guard.isNone) = true) (hn : inD a.tmps.size (dstOf l.toArray) = true)
    (Φ : Nat → Value → World → Prop) (hΦ : ∀ i v w w', Φ i v w → T w w' → Φ i v w')
    (hstep : AllOps (fun i o => ∀ (x : Nat → Value) w (b : Act), T w0 w → (∀ j ∈ deps o, Φ j (x j) w) → (∀ j, i ∈ depsAt l.toArray j → x j = slotV a ((dstOf l.toArray).getD (j - 0) none)) → (∀ t : Nat, b.tmps[t]?.getD undef = look (dstOf l.toArray) x a t) → o.wp P b w (PhwPost T w Φ i b o.dst) NoQ) 0 l)
    (hend : ∀ (x : Nat → Value) w, T w0 w → (∀ i, i < l.length → Φ i (x i) w) → Q .normal (putAll (dstOf l.toArray) 0 x a) w) : (Code.region id l.toArray true).wp P Q a w0 := by
  refine wp_region_facts2U hm hd hb hg hn (PhwI T w0 Φ (fun j => slotV a ((dstOf l.toArray).getD (j - 0) none))) ⟨T0 _, fun i h => Bool.noConfusion h, fun _ _ => rfl⟩ ?_ ?_
  · have key : ∀ k o, l[k]? = some o → ∀ D x W (b : Act), PhwI T w0 Φ (fun j => slotV a ((dstOf l.toArray).getD (j - 0) none)) D x W → D k = false → (∀ j ∈ deps o, D j = true) → (∀ j, D j = true → ∀ q ∈ depsAt l.toArray j, D q = true) → (∀ t : Nat, b.tmps[t]?.getD undef = look (dstOf l.toArray) x a t) → o.wp P b W (StepPost (PhwI T w0 Φ (fun j => slotV a ((dstOf l.toArray).getD (j - 0) none))) D x k b o.dst) NoQ := by
      intro k o ho D x W b hI hD hdep hcl hbt
      have hs := hstep.get _ _ k o ho x W b hI.1 (fun j hj => hI.2.1 j (hdep j hj)) (fun j hj => hI.2.2 j (by
        cases h : D j with
        | false => rfl
        | true =>
          rw [Nat.zero_add] at hj
          have := hcl j h k hj
          rw [hD] at this; cases this)) hbt
      rw [Nat.zero_add] at hs
      refine Oper.wp_mono ?_ hs
      rintro a' w' ⟨v, rfl, hb', hv⟩
      refine ⟨v, rfl, Tr hI.1 hb', fun i hi => ?_, fun i hi => ?_⟩
      · by_cases e : i = k
        · subst e; rw [upd_same]; exact hv
        · rw [upd_ne _ _ e] at hi ⊢
          exact hΦ i (x i) W w' (hI.2.1 i hi) hb'
      · by_cases e : i = k
        · subst e; rw [upd_same] at hi; cases hi
        · rw [upd_ne _ _ e] at hi ⊢
          exact hI.2.2 i hi
    have aux : ∀ (r : List Oper) (s : Nat), (∀ k, r[k]? = l[s + k]?) → AllOps (fun i o => ∀ D x W (b : Act), PhwI T w0 Φ (fun j => slotV a ((dstOf l.toArray).getD (j - 0) none)) D x W → D i = false → (∀ j ∈ deps o, D j = true) → (∀ j, D j = true → ∀ q ∈ depsAt l.toArray j, D q = true) → (∀ t : Nat, b.tmps[t]?.getD undef = look (dstOf l.toArray) x a t) → o.wp P b W (StepPost (PhwI T w0 Φ (fun j => slotV a ((dstOf l.toArray).getD (j - 0) none))) D x i b o.dst) NoQ) s r := by
      intro r
      induction r with
      | nil => intro s _; trivial
      | cons o r ih =>
        intro s hr
        refine ⟨key s o (by have := hr 0; simpa using this.symm), ih (s + 1) (fun k => ?_)⟩
        have := hr (k + 1)
        rw [List.getElem?_cons_succ] at this
        rw [this]; congr 1; omega
    exact aux l 0 (fun k => by rw [Nat.zero_add])
  · intro D x W hI hall
    exact hend x W hI.1 (fun i hi => hI.2.1 i (hall i hi))
variable {w : World} {Φ : Nat → Value → World → Prop} {i : Nat} {b : Act} {o : Oper}
theorem phw_run {T : World → World → Prop} (T1 : ∀ w, T w w) (v : Value) (h : (execOp b.eval o).run P w = .ok (.value v) w) (hv : Φ i v w) : o.wp P b w (PhwPost T w Φ i b o.dst) NoQ := by
  unfold Oper.wp; rw [h]; exact ⟨v, rfl, T1 _, hv⟩
theorem phw_make {T : World → World → Prop} (v : Value) (w' : World) (h : (execOp b.eval o).run P w = .ok (.value v) w') (hb : T w w') (hv : Φ i v w') : o.wp P b w (PhwPost T w Φ i b o.dst) NoQ := by
  unfold Oper.wp; rw [h]; exact ⟨v, rfl, hb, hv⟩
theorem phw_call {T : World → World → Prop} {f : FuncId} {args : Array Value} (h : (execOp b.eval o).run P w = .ok (.enter f args) w) (hc : Calls P f args w fun e w' => ∃ v, e = .returned v ∧ T w w' ∧ Φ i v w') : o.wp P b w (PhwPost T w Φ i b o.dst) NoQ := by
  unfold Oper.wp; rw [h]
  simp only [Oper.upon]
  refine hc.mono ?_
  rintro e w' ⟨v, rfl, hb, hv⟩
  exact ⟨v, rfl, hb, hv⟩
end
theorem ints_len {w : World} {A : Option Addr} {n c : Nat} {xs : List Int} (h : Ints w (.slice A n c) xs) : n = xs.length := by
  obtain ⟨A0, c0, e, _⟩ := h
  injection e
set_option maxHeartbeats 1000000 in
theorem cor3_any (g : Nat) (a b c : Int) (W : World) (hg : Arr W g 3 [.int .i64 a, .int .i64 b, .int .i64 c]) : Calls Tryz.prog 18 #[.slice (some ⟨g, 0, none⟩) 3 3] W fun e w' => e = .returned (.int .i64 (if a ≠ 0 then a else if b ≠ 0 then b else c)) ∧ w' = W := by
  have c0 := hg.cell 0
  have c1 := hg.cell 1
  have c2 := hg.cell 2
  clear hg
  by_cases h1 : a = 0
  · subst h1
    rw [if_neg (by simp)]
    by_cases h2 : b = 0
    · subst h2
      rw [if_neg (by simp)]
      by_cases h3 : c = 0
      · subst h3
        go_enter Tryz.func18, Tryz.ntmps18
        go_wp2_with fail
        refine wp_loop_rounds 4 ?_
        rw [rounds_succ]; go_wp2_with fail
        rw [rounds_succ]; go_wp2_with fail
        rw [rounds_succ]; go_wp2_with fail
        rw [rounds_succ]; go_wp2_with fail
        go_ret
        exact ⟨rfl, rfl⟩
      · have n3 : (c == 0) = false := beq_eq_false_iff_ne.2 h3
        go_enter Tryz.func18, Tryz.ntmps18
        go_wp2_with fail
        refine wp_loop_rounds 4 ?_
        rw [rounds_succ]; go_wp2_with fail
        rw [rounds_succ]; go_wp2_with fail
        rw [rounds_succ]; go_wp2_with fail
        go_ret
        exact ⟨rfl, rfl⟩
    · have n2 : (b == 0) = false := beq_eq_false_iff_ne.2 h2
      rw [if_pos h2]
      go_enter Tryz.func18, Tryz.ntmps18
      go_wp2_with fail
      refine wp_loop_rounds 4 ?_
      rw [rounds_succ]; go_wp2_with fail
      rw [rounds_succ]; go_wp2_with fail
      go_ret
      exact ⟨rfl, rfl⟩
  · have n1 : (a == 0) = false := beq_eq_false_iff_ne.2 h1
    rw [if_pos h1]
    go_enter Tryz.func18, Tryz.ntmps18
    go_wp2_with fail
    refine wp_loop_rounds 4 ?_
    rw [rounds_succ]; go_wp2_with fail
    go_ret
    exact ⟨rfl, rfl⟩
/-- the comparison -/
def cmpG (a b : Gd) : Int := if cmpI a.1.length b.1.length ≠ 0 then cmpI a.1.length b.1.length else if cmpL a.1 b.1 ≠ 0 then cmpL a.1 b.1 else cmpL a.2 b.2
theorem cmpI_cases (a b : Int) : (a < b ∧ cmpI a b = -1) ∨ (a = b ∧ cmpI a b = 0) ∨ (b < a ∧ cmpI a b = 1) := by
  unfold cmpI
  by_cases h1 : a < b
  · exact .inl ⟨h1, by simp [h1]⟩
  · by_cases h2 : b < a
    · exact .inr (.inr ⟨h2, by simp [h1, h2]⟩)
    · exact .inr (.inl ⟨by omega, by simp [h1, h2]⟩)
theorem cmpG_cases (a b : Gd) : (a.1.length < b.1.length ∧ cmpG a b = -1) ∨ (a.1.length = b.1.length ∧ cmpG a b = cmpP a b) ∨ (b.1.length < a.1.length ∧ cmpG a b = 1) := by
  unfold cmpG
  rcases cmpI_cases a.1.length b.1.length with ⟨h, e⟩ | ⟨h, e⟩ | ⟨h, e⟩
  · exact .inl ⟨by omega, by rw [e]; simp⟩
  · exact .inr (.inl ⟨by omega, by rw [e, if_neg (by simp)]; rfl⟩)
  · exact .inr (.inr ⟨by omega, by rw [e]; simp⟩)
theorem cmpG_anti (a b : Gd) : cmpG b a = - cmpG a b := by
  rcases cmpG_cases a b with ⟨h, e⟩ | ⟨h, e⟩ | ⟨h, e⟩
  · rcases cmpG_cases b a with ⟨h', e'⟩ | ⟨h', e'⟩ | ⟨h', e'⟩
    · omega
    · omega
    · rw [e, e']; rfl
  · rcases cmpG_cases b a with ⟨h', e'⟩ | ⟨h', e'⟩ | ⟨h', e'⟩
    · omega
    · rw [e, e', cmpP_anti]
    · omega
  · rcases cmpG_cases b a with ⟨h', e'⟩ | ⟨h', e'⟩ | ⟨h', e'⟩
    · rw [e, e']
    · omega
    · omega
theorem cmpG_zero {a b : Gd} (h : cmpG a b = 0) : a = b := by
  rcases cmpG_cases a b with ⟨_, e⟩ | ⟨_, e⟩ | ⟨_, e⟩
  · omega
  · exact cmpP_zero _ _ (e.symm.trans h)
  · omega
theorem cmpG_trans {a b c : Gd} (h1 : cmpG a b < 0) (h2 : cmpG b c < 0) : cmpG a c < 0 := by
  rcases cmpG_cases a b with ⟨p, e⟩ | ⟨p, e⟩ | ⟨p, e⟩ <;> rcases cmpG_cases b c with ⟨p', e'⟩ | ⟨p', e'⟩ | ⟨p', e'⟩ <;> rcases cmpG_cases a c with ⟨q, f⟩ | ⟨q, f⟩ | ⟨q, f⟩ <;> try omega
  rw [f]
  exact cmpP_trans _ _ _ (e ▸ h1) (e' ▸ h2)
theorem cmpG_self (a : Gd) : cmpG a a = 0 := by have := cmpG_anti a a; omega
set_option maxHeartbeats 2000000 in
set_option maxRecDepth 100000 in
theorem gcmp_any (p q : GV) (a b : Gd) (W : World) (ha : GvI W p a) (hb : GvI W q b) (l1 : a.1.length ≤ 1000000) (l2 : a.2.length ≤ 1000000) (l3 : b.1.length ≤ 1000000) (l4 : b.2.length ≤ 1000000) :
    Calls Tryz.prog 17 #[.agg #[sv p.1, sv p.2], .agg #[sv q.1, sv q.2]] W fun e w' => e = .returned (.int .i64 (cmpG a b)) ∧ ∃ q os', w' = Sort.grow (W.drewN q) os' := by
  obtain ⟨X, O⟩ := a
  obtain ⟨Y, R⟩ := b
  have HC1 := Lib.hid (fun W' => cmpCompare_any (X.length : Int) (Y.length : Int) W')
  have HC2 := Lib.hid (fun W' (h : Grw W W') => slicesCompare_any _ _ X Y W' (ha.1.below h.below) (hb.1.below h.below) l1 l3)
  have HC3 := Lib.hid (fun W' (h : Grw W W') => slicesCompare_any _ _ O R W' (ha.2.below h.below) (hb.2.below h.below) l2 l4)
  obtain ⟨⟨A0, n0, c0⟩, A1, n1, c1⟩ := p
  obtain ⟨⟨A2, n2, c2⟩, A3, n3, c3⟩ := q
  have h1 : n0 = X.length := ints_len ha.1
  have h2 : n1 = O.length := ints_len ha.2
  have h3 : n2 = Y.length := ints_len hb.1
  have h4 : n3 = R.length := ints_len hb.2
  simp only [sv] at HC2 HC3
  clear ha hb
  subst h1 h2 h3 h4
  simp only [sv]
  obtain ⟨rr, hrr⟩ : ∃ rr, rr = cmpG (X, O) (Y, R) := ⟨_, rfl⟩
  rw [← hrr]
  unfold cmpG at hrr
  simp only at hrr
  generalize cmpI (X.length : Int) (Y.length : Int) = r1 at *
  generalize cmpL X Y = r2 at *
  generalize cmpL O R = r3 at *
  have HRR := Lib.hid hrr
  clear hrr l1 l2 l3 l4
  have hW : ∀ w, w = (W.alloc (.cells #[.slice A0 X.length c0, .slice A1 O.length c1] 24)).alloc (.cells #[.slice A2 Y.length c2, .slice A3 R.length c3] 24) → Arr w W.heap.size 24 [.slice A0 X.length c0, .slice A1 O.length c1] ∧ Arr w (W.heap.size + 1) 24 [.slice A2 Y.length c2, .slice A3 R.length c3] ∧ Grw W w := by
    intro w hw
    subst hw
    exact ⟨(Arr.new _ _ [_, _]).alloc _, Arr.newAt (W.alloc _) _ [_, _] _ (by simp), (Grw.alloc _ _).trans (Grw.alloc _ _)⟩
  go_enter Tryz.func17, Tryz.ntmps17
  go_upto_region 1 with fail
  generalize (W.alloc (.cells #[.slice A0 X.length c0, .slice A1 O.length c1] 24)).alloc (.cells #[.slice A2 Y.length c2, .slice A3 R.length c3] 24) = w3 at hW ⊢
  obtain ⟨q1, q2, hg3⟩ := hW w3 rfl
  obtain ⟨B1, hB1⟩ : ∃ B, B = W.heap.size := ⟨_, rfl⟩
  obtain ⟨B2, hB2⟩ : ∃ B, B = W.heap.size + 1 := ⟨_, rfl⟩
  rw [← hB2] at q2
  try rw [← hB2]
  rw [← hB1] at q1 ⊢
  rw [← hB1] at hB2
  try rw [← hB2]
  have Q1 := Lib.hid q1
  have Q2 := Lib.hid q2
  have HG3 := Lib.hid hg3
  clear q1 q2 hg3 hW hB1 hB2
  refine wp_region_phw Grw Grw.refl Grw.trans Grw.drew (by kernel_rfl) (by kernel_rfl) (by kernel_rfl) (by kernel_rfl) (by kernel_rfl) (phiT (fun i => ([some (.pointer (some ⟨B1, 0, none⟩)), some (.slice A0 X.length c0), some (.int .i64 (X.length : Int)), some (.pointer (some ⟨B2, 0, none⟩)), some (.slice A2 Y.length c2), some (.int .i64 (Y.length : Int)), some (.int .i64 r1), some (.pointer (some ⟨B1, 0, none⟩)), some (.slice A0 X.length c0), some (.pointer (some ⟨B2, 0, none⟩)), some (.slice A2 Y.length c2), some (.int .i64 r2), some (.pointer (some ⟨B1, 1, none⟩)), some (.slice A1 O.length c1), some (.pointer (some ⟨B2, 1, none⟩)), some (.slice A3 R.length c3), some (.int .i64 r3), none, some (.int .i64 rr), some (.int .i64 rr)] : List (Option Value)).getD i none) (fun i v w => (if i = 17 then (fun v w => ∃ g, v = .slice (some ⟨g, 0, none⟩) 3 3 ∧ Arr w g 3 [.int .i64 r1, .int .i64 r2, .int .i64 r3]) v w else True))) (fun i v w w' h hb => ?_) ⟨?_, ?_, ?_, ?_, ?_, ?_, ?_, ?_, ?_, ?_, ?_, ?_, ?_, ?_, ?_, ?_, ?_, ?_, ?_, ?_, trivial⟩ ?_
  · unfold phiT at h ⊢
    split
    · next u hu => rw [hu] at h; exact h
    · next hu =>
      rw [hu] at h
      simp only at h ⊢
      by_cases q17 : i = 17
      · rw [if_pos q17] at h ⊢; exact by obtain ⟨g, h1, h2⟩ := h; exact ⟨g, h1, h2.below hb.below h2.lt⟩
      · rw [if_neg q17] at h ⊢
        trivial
  · intro x w1 bA hbel hdep hold hb
    have e2 : bA.tmps[2]?.getD undef = .pointer (some ⟨B1, 0, none⟩) := hb 2
    refine phw_run Grw.refl (.pointer (some ⟨B1, 0, none⟩)) ?_ rfl
    clear hb hdep hold
    go_simp
  · intro x w1 bA hbel hdep hold hb
    have e5 : bA.tmps[5]?.getD undef = .pointer (some ⟨B1, 0, none⟩) := (hb 5).trans (hdep 0 (by decide))
    have cc := (Q1.out.below hbel.below Q1.out.lt).cell 0
    refine phw_run Grw.refl (.slice A0 X.length c0) ?_ rfl
    clear hb hdep hold
    go_simp
  · intro x w1 bA hbel hdep hold hb
    have e6 : bA.tmps[6]?.getD undef = .slice A0 X.length c0 := (hb 6).trans (hdep 1 (by decide))
    refine phw_run Grw.refl (.int .i64 (X.length : Int)) ?_ rfl
    clear hb hdep hold
    go_simp
  · intro x w1 bA hbel hdep hold hb
    have e3 : bA.tmps[3]?.getD undef = .pointer (some ⟨B2, 0, none⟩) := hb 3
    refine phw_run Grw.refl (.pointer (some ⟨B2, 0, none⟩)) ?_ rfl
    clear hb hdep hold
    go_simp
  · intro x w1 bA hbel hdep hold hb
    have e8 : bA.tmps[8]?.getD undef = .pointer (some ⟨B2, 0, none⟩) := (hb 8).trans (hdep 3 (by decide))
    have cc := (Q2.out.below hbel.below Q2.out.lt).cell 0
    refine phw_run Grw.refl (.slice A2 Y.length c2) ?_ rfl
    clear hb hdep hold
    go_simp
  · intro x w1 bA hbel hdep hold hb
    have e9 : bA.tmps[9]?.getD undef = .slice A2 Y.length c2 := (hb 9).trans (hdep 4 (by decide))
    refine phw_run Grw.refl (.int .i64 (Y.length : Int)) ?_ rfl
    clear hb hdep hold
    go_simp
  · intro x w1 bA hbel hdep hold hb
    have e7 : bA.tmps[7]?.getD undef = .int .i64 (X.length : Int) := (hb 7).trans (hdep 2 (by decide))
    have e10 : bA.tmps[10]?.getD undef = .int .i64 (Y.length : Int) := (hb 10).trans (hdep 5 (by decide))
    refine phw_call ?_ ((HC1.out w1).mono fun e w' h => ⟨_, h.1, by rw [← h.2]; exact Grw.refl _, rfl⟩)
    clear hb hdep hold
    go_simp
  · intro x w1 bA hbel hdep hold hb
    have e2 : bA.tmps[2]?.getD undef = .pointer (some ⟨B1, 0, none⟩) := hb 2
    refine phw_run Grw.refl (.pointer (some ⟨B1, 0, none⟩)) ?_ rfl
    clear hb hdep hold
    go_simp
  · intro x w1 bA hbel hdep hold hb
    have e12 : bA.tmps[12]?.getD undef = .pointer (some ⟨B1, 0, none⟩) := (hb 12).trans (hdep 7 (by decide))
    have cc := (Q1.out.below hbel.below Q1.out.lt).cell 0
    refine phw_run Grw.refl (.slice A0 X.length c0) ?_ rfl
    clear hb hdep hold
    go_simp
  · intro x w1 bA hbel hdep hold hb
    have e3 : bA.tmps[3]?.getD undef = .pointer (some ⟨B2, 0, none⟩) := hb 3
    refine phw_run Grw.refl (.pointer (some ⟨B2, 0, none⟩)) ?_ rfl
    clear hb hdep hold
    go_simp
  · intro x w1 bA hbel hdep hold hb
    have e14 : bA.tmps[14]?.getD undef = .pointer (some ⟨B2, 0, none⟩) := (hb 14).trans (hdep 9 (by decide))
    have cc := (Q2.out.below hbel.below Q2.out.lt).cell 0
    refine phw_run Grw.refl (.slice A2 Y.length c2) ?_ rfl
    clear hb hdep hold
    go_simp
  · intro x w1 bA hbel hdep hold hb
    have e13 : bA.tmps[13]?.getD undef = .slice A0 X.length c0 := (hb 13).trans (hdep 8 (by decide))
    have e15 : bA.tmps[15]?.getD undef = .slice A2 Y.length c2 := (hb 15).trans (hdep 10 (by decide))
    refine phw_call ?_ ((HC2.out w1 (HG3.out.trans hbel)).mono fun e w' h => ⟨_, h.1, by rw [← h.2]; exact Grw.refl _, rfl⟩)
    clear hb hdep hold
    go_simp
  · intro x w1 bA hbel hdep hold hb
    have e2 : bA.tmps[2]?.getD undef = .pointer (some ⟨B1, 0, none⟩) := hb 2
    refine phw_run Grw.refl (.pointer (some ⟨B1, 1, none⟩)) ?_ rfl
    clear hb hdep hold
    go_simp
  · intro x w1 bA hbel hdep hold hb
    have e17 : bA.tmps[17]?.getD undef = .pointer (some ⟨B1, 1, none⟩) := (hb 17).trans (hdep 12 (by decide))
    have cc := (Q1.out.below hbel.below Q1.out.lt).cell 1
    refine phw_run Grw.refl (.slice A1 O.length c1) ?_ rfl
    clear hb hdep hold
    go_simp
  · intro x w1 bA hbel hdep hold hb
    have e3 : bA.tmps[3]?.getD undef = .pointer (some ⟨B2, 0, none⟩) := hb 3
    refine phw_run Grw.refl (.pointer (some ⟨B2, 1, none⟩)) ?_ rfl
    clear hb hdep hold
    go_simp
  · intro x w1 bA hbel hdep hold hb
    have e19 : bA.tmps[19]?.getD undef = .pointer (some ⟨B2, 1, none⟩) := (hb 19).trans (hdep 14 (by decide))
    have cc := (Q2.out.below hbel.below Q2.out.lt).cell 1
    refine phw_run Grw.refl (.slice A3 R.length c3) ?_ rfl
    clear hb hdep hold
    go_simp
  · intro x w1 bA hbel hdep hold hb
    have e18 : bA.tmps[18]?.getD undef = .slice A1 O.length c1 := (hb 18).trans (hdep 13 (by decide))
    have e20 : bA.tmps[20]?.getD undef = .slice A3 R.length c3 := (hb 20).trans (hdep 15 (by decide))
    refine phw_call ?_ ((HC3.out w1 (HG3.out.trans hbel)).mono fun e w' h => ⟨_, h.1, by rw [← h.2]; exact Grw.refl _, rfl⟩)
    clear hb hdep hold
    go_simp
  · intro x w1 bA hbel hdep hold hb
    have e11 : bA.tmps[11]?.getD undef = .int .i64 r1 := (hb 11).trans (hdep 6 (by decide))
    have e16 : bA.tmps[16]?.getD undef = .int .i64 r2 := (hb 16).trans (hdep 11 (by decide))
    have e21 : bA.tmps[21]?.getD undef = .int .i64 r3 := (hb 21).trans (hdep 16 (by decide))
    refine phw_make (.slice (some ⟨w1.heap.size, 0, none⟩) 3 3) (w1.alloc (.cells #[.int .i64 r1, .int .i64 r2, .int .i64 r3] 3)) ?_ (Grw.alloc _ _) (⟨w1.heap.size, rfl, Arr.new w1 3 [.int .i64 r1, .int .i64 r2, .int .i64 r3]⟩)
    clear hb hdep hold
    go_simp
  · intro x w1 bA hbel hdep hold hb
    have p22 := hdep 17 (by decide)
    have e22 : bA.tmps[22]?.getD undef = x 17 := hb 22
    generalize x 17 = x22 at p22 e22
    have P22 := Lib.hid (show (fun v w => ∃ g, v = .slice (some ⟨g, 0, none⟩) 3 3 ∧ Arr w g 3 [.int .i64 r1, .int .i64 r2, .int .i64 r3]) x22 w1 from p22)
    clear p22
    obtain ⟨gq, heq, haq⟩ := P22.out
    subst heq
    have HAQ := Lib.hid haq
    clear haq P22
    refine phw_call ?_ ((cor3_any gq r1 r2 r3 w1 HAQ.out).mono fun e w' h => ⟨.int .i64 rr, by rw [h.1, HRR.out], by rw [h.2]; exact Grw.refl _, rfl⟩)
    clear hb hdep hold
    go_simp
  · intro x w1 bA hbel hdep hold hb
    have e23 : bA.tmps[23]?.getD undef = .int .i64 rr := (hb 23).trans (hdep 18 (by decide))
    refine phw_run Grw.refl (.int .i64 rr) ?_ rfl
    clear hb hdep hold
    go_simp
  intro x w1 hbel hall
  have x0e : x 0 = .pointer (some ⟨B1, 0, none⟩) := hall 0 (by decide)
  have x1e : x 1 = .slice A0 X.length c0 := hall 1 (by decide)
  have x2e : x 2 = .int .i64 (X.length : Int) := hall 2 (by decide)
  have x3e : x 3 = .pointer (some ⟨B2, 0, none⟩) := hall 3 (by decide)
  have x4e : x 4 = .slice A2 Y.length c2 := hall 4 (by decide)
  have x5e : x 5 = .int .i64 (Y.length : Int) := hall 5 (by decide)
  have x6e : x 6 = .int .i64 r1 := hall 6 (by decide)
  have x7e : x 7 = .pointer (some ⟨B1, 0, none⟩) := hall 7 (by decide)
  have x8e : x 8 = .slice A0 X.length c0 := hall 8 (by decide)
  have x9e : x 9 = .pointer (some ⟨B2, 0, none⟩) := hall 9 (by decide)
  have x10e : x 10 = .slice A2 Y.length c2 := hall 10 (by decide)
  have x11e : x 11 = .int .i64 r2 := hall 11 (by decide)
  have x12e : x 12 = .pointer (some ⟨B1, 1, none⟩) := hall 12 (by decide)
  have x13e : x 13 = .slice A1 O.length c1 := hall 13 (by decide)
  have x14e : x 14 = .pointer (some ⟨B2, 1, none⟩) := hall 14 (by decide)
  have x15e : x 15 = .slice A3 R.length c3 := hall 15 (by decide)
  have x16e : x 16 = .int .i64 r3 := hall 16 (by decide)
  have p22 := hall 17 (by decide)
  have x18e : x 18 = .int .i64 rr := hall 18 (by decide)
  have x19e : x 19 = .int .i64 rr := hall 19 (by decide)
  simp only [putAll, dstOf, Act.put, List.map_cons, List.map_nil, List.setIfInBounds_toArray, List.set_cons_succ, List.set_cons_zero, Nat.reduceAdd, x0e, x1e, x2e, x3e, x4e, x5e, x6e, x7e, x8e, x9e, x10e, x11e, x12e, x13e, x14e, x15e, x16e, x18e, x19e]
  clear x0e x1e x2e x3e x4e x5e x6e x7e x8e x9e x10e x11e x12e x13e x14e x15e x16e x18e x19e hall
  clear p22
  have HG := Lib.hid (HG3.out.trans hbel)
  clear hbel
  go_wp2_with fail
  go_ret
  exact ⟨rfl, HG.out⟩
end Go.Proofs.YteliflcbegcdlaaGreatDoor
