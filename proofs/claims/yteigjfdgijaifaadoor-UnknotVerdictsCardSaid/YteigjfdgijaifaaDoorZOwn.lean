/- Slices of elements of some cells that the call owns, and a region that draws its order and builds one by appends, a literal beside them. -/
/- A region that draws its order, reads, appends one element to an own slice and stores the slice back. -/
/- append onto a slice of integers that the call itself owns: laws in the words of this seat. -/
import Derived.Test.YteigjfdgijaifaaDoorZPhg
import Derived.Test.YteigjfdgijaifaaDoorZReloc
import Derived.Maps.AppendAt
import Derived.Deep.AppendLies
import Derived.OwnWalk
import Derived.Test.YteigjfdgijaifaaDoorZBase
import Derived.RegionTactic
import Derived.Deep.RegionLaw
namespace Go.Proofs.YteigjfdgijaifaaDoor
open Go.RowKit
set_option linter.unusedVariables false

section
variable {α : Type}
/-- v is a slice of the call's own, from block base on, that holds xs -/
def OwnA (e : TypeId) (sz : Nat) (enc : α → List Value) (base : Nat) (w : World) (v : Value) (xs : List α) : Prop := w.ownsRow base e sz v xs.length (xs.flatMap enc)
/-- u is a slice that reads as ys -/
def SlA (enc : α → List Value) (w : World) (u : Value) (ys : List α) : Prop :=
  ∃ A c, u = .slice A ys.length c ∧ ys.length ≤ c ∧ ∀ j q, (ys.flatMap enc)[j]? = some q → ∃ b o, A = some ⟨b, o, none⟩ ∧ w.cell? ⟨b, o + j, none⟩ = some q
/-- the same, whatever the capacity -/
def SlA0 (enc : α → List Value) (w : World) (u : Value) (ys : List α) : Prop :=
  ∃ A c, u = .slice A ys.length c ∧ ∀ j q, (ys.flatMap enc)[j]? = some q → ∃ b o, A = some ⟨b, o, none⟩ ∧ w.cell? ⟨b, o + j, none⟩ = some q
variable {e : TypeId} {sz : Nat} {enc : α → List Value} {base : Nat} {w w' : World} {v u : Value} {xs ys : List α}
theorem SlA.weak (h : SlA enc w u ys) : SlA0 enc w u ys := by
  obtain ⟨A, c, e, _, hx⟩ := h
  exact ⟨A, c, e, hx⟩
theorem OwnA.form (h : OwnA e sz enc base w v xs) : ∃ A c, v = .slice A xs.length c := by
  rcases h.2 with ⟨rfl, h0⟩ | ⟨g, cap, cur, rfl, _⟩
  · exact ⟨none, 0, by rw [h0]⟩
  · exact ⟨_, _, rfl⟩
theorem OwnA.lt (h : OwnA e sz enc base w v xs) : ∀ k, v.ownBlock = some k → k < w.heap.size := by
  intro k hk
  rcases h.2 with ⟨rfl, h0⟩ | ⟨b, cap, cur, rfl, hg, hh, r⟩
  · simp [Value.ownBlock] at hk
  · simp [Value.ownBlock] at hk
    subst hk
    exact (Array.getElem?_eq_some_iff.1 hh).1
theorem OwnA.block (h : OwnA e sz enc base w v xs) : ∀ k, v.ownBlock = some k → base ≤ k := by
  intro k hk
  rcases h.2 with ⟨rfl, h0⟩ | ⟨g, cap, cur, rfl, hg, _⟩
  · simp [Value.ownBlock] at hk
  · simp [Value.ownBlock] at hk; omega
theorem OwnA.keepK (h : OwnA e sz enc base w v xs) (hk : ∀ k, v.ownBlock = some k → w'.heap[k]? = w.heap[k]?) : OwnA e sz enc base w' v xs := by
  refine ⟨h.1, ?_⟩
  rcases h.2 with h0 | ⟨b, cap, cur, rfl, hg, hh, r⟩
  · exact .inl h0
  · exact .inr ⟨b, cap, cur, rfl, hg, (hk b rfl).trans hh, r⟩
theorem OwnA.below (h : OwnA e sz enc base w v xs) (hb : Below w.heap.size w w') : OwnA e sz enc base w' v xs := h.keepK fun k hk => hb.block k (h.lt k hk)
theorem OwnA.alloc (h : OwnA e sz enc base w v xs) (o : Obj) : OwnA e sz enc base (w.alloc o) v xs := h.below ((Below.refl _ _).alloc (Nat.le_refl _) o)
theorem OwnA.low {b2 : Nat} (h : OwnA e sz enc base w v xs) (hb : b2 ≤ base) : OwnA e sz enc b2 w v xs := by
  refine ⟨h.1, ?_⟩
  rcases h.2 with h0 | ⟨g, cap, cur, rfl, hg, r⟩
  · exact .inl h0
  · exact .inr ⟨g, cap, cur, rfl, Nat.le_trans hb hg, r⟩
theorem OwnA.nil (e : TypeId) (sz : Nat) (enc : α → List Value) (base : Nat) (w : World) : OwnA e sz enc base w (.slice none 0 0) [] := ⟨by simp, .inl ⟨rfl, rfl⟩⟩
theorem SlA.below (h : SlA enc w u ys) (hb : Below w.heap.size w w') : SlA enc w' u ys := by
  obtain ⟨A, c, hu, hc, hx⟩ := h
  refine ⟨A, c, hu, hc, fun j q hq => ?_⟩
  obtain ⟨b, o, hA, hcell⟩ := hx j q hq
  exact ⟨b, o, hA, (hb.cell (block_lt_of_cell hcell)).trans hcell⟩
theorem SlA.nil (enc : α → List Value) (w : World) : SlA enc w (.slice none 0 0) ([] : List α) := ⟨none, 0, rfl, Nat.le_refl _, fun j q h => by simp at h⟩
theorem OwnA.sl (h : OwnA e sz enc base w v xs) : SlA enc w v xs := by
  rcases h.2 with ⟨rfl, h0⟩ | ⟨g, cap, cur, rfl, hg, hh, hn, _, hc, ht⟩
  · have : xs = [] := List.eq_nil_of_length_eq_zero h0
    subst this
    exact SlA.nil enc w
  · refine ⟨_, _, rfl, hn, fun j q hq => ⟨g, 0, rfl, ?_⟩⟩
    rw [cell_of_row w g _ cur e (0, 0) hh, Nat.zero_add]
    have h1 : (cur.toList.take (xs.length * sz))[j]? = some q := by rw [ht]; exact hq
    rw [List.getElem?_take] at h1
    split at h1
    · simpa using h1
    · cases h1
/-- a literal in a block of its own -/
theorem OwnA.lit (hsz : ∀ x ∈ xs, (enc x).length = sz) (hb : base ≤ w.heap.size) (hl : xs.length ≤ 1000000) (hn : xs ≠ []) : OwnA e sz enc base (w.alloc (.cells (rowOf (xs.flatMap enc)) e)) (.slice (some ⟨w.heap.size, 0, none⟩) xs.length xs.length) xs := by
  have hlen : (xs.flatMap enc).length = xs.length * sz := by
    clear hl hn
    induction xs with
    | nil => simp
    | cons x xs ih => rw [List.flatMap_cons, List.length_append, ih (fun y hy => hsz y (List.mem_cons_of_mem _ hy)), hsz x (List.mem_cons_self ..), List.length_cons, Nat.succ_mul]; omega
  refine ⟨hlen, .inr ⟨w.heap.size, xs.length, rowOf (xs.flatMap enc), rfl, hb, heap_alloc_new w _, Nat.le_refl _, by unfold maxLen; omega, by unfold rowOf; simp [hlen], ?_⟩⟩
  show List.take (xs.length * sz) (xs.flatMap enc) = _
  exact List.take_of_length_le (by omega)
theorem OwnA.emptyAt {g : Nat} (hb : base ≤ g) (hh : w.heap[g]? = some (.cells #[] e (0, 0))) : OwnA e sz enc base w (.slice (some ⟨g, 0, none⟩) 0 0) ([] : List α) :=
  ⟨by simp, .inr ⟨g, 0, #[], rfl, hb, hh, Nat.le_refl _, by unfold maxLen; omega, by simp, by simp⟩⟩
/-- the run of append(v, u...), with where the result lies -/
theorem run_appA0 {P : Program} {t ty : TypeId} {i : TypeInfo} {z : Value} {bytes : Nat} (ht : P.underlying t = some (.slice e)) (hi : P.info? e = some i) (hz : i.zero = some z) (hs : i.size = sz) (hby : i.bytes = bytes) (hzs : z.cells.size = sz) (hsz0 : 0 < sz) (hb16 : bytes ≤ 64)
    (hsz : ∀ x ∈ ys, (enc x).length = sz) (hone : ∀ x ∈ ys, ∀ q ∈ enc x, q.oneCell' = true)
    (h : OwnA e sz enc base w v xs) (hu : SlA0 enc w u ys) (hlen : xs.length + ys.length ≤ 1000000000) (hbase : base ≤ w.heap.size) :
    ∃ v' w', (Builtin.append_ #[t, t] ty #[v, u]).run P w = .ok v' w' ∧ OwnA e sz enc base w' v' (xs ++ ys) ∧ Below base w w' ∧ (∀ k, k < w.heap.size → v.ownBlock ≠ some k → w'.heap[k]? = w.heap[k]?) ∧ (v'.ownBlock = v.ownBlock ∨ v'.ownBlock = some w.heap.size) := by
  obtain ⟨A, c, rfl, hx⟩ := hu
  have hylen : (ys.flatMap enc).length = ys.length * sz := by
    clear hx hlen hone
    induction ys with
    | nil => simp
    | cons x xs ih => rw [List.flatMap_cons, List.length_append, ih (fun y hy => hsz y (List.mem_cons_of_mem _ hy)), hsz x (List.mem_cons_self ..), List.length_cons, Nat.succ_mul]; omega
  cases A with
  | none =>
    have hy : ys = [] := by
      cases ys with
      | nil => rfl
      | cons y ys =>
        exfalso
        have h0 : 0 < ((y :: ys).flatMap enc).length := by rw [hylen, List.length_cons]; exact Nat.mul_pos (by omega) hsz0
        obtain ⟨b, o, hA, _⟩ := hx 0 _ (List.getElem?_eq_getElem h0)
        cases hA
    subst hy
    refine ⟨v, w, ?_, by simpa using h, Below.refl _ _, fun _ _ _ => rfl, .inl rfl⟩
    rcases h.2 with ⟨rfl, h0⟩ | ⟨g, cap, cur, rfl, _, _, hnc, _⟩
    · simp [Builtin.append_, run_underlying ht, sizeOf, typeInfo, hi, Builtin.lenOf, Builtin.firstCells]
    · simp [Builtin.append_, run_underlying ht, sizeOf, typeInfo, hi, Builtin.lenOf, Builtin.firstCells, hnc, storeCells]
  | some ad =>
    have hcells : ∀ j q, (ys.flatMap enc)[j]? = some q → w.cell? (ad.add j) = some q := by
      intro j q hq
      obtain ⟨b, o, hA, hcell⟩ := hx j q hq
      injection hA with hA
      subst hA
      have : (⟨b, o, none⟩ : Addr).add j = ⟨b, o + j, none⟩ := by unfold Addr.add; split <;> simp_all
      rw [this]; exact hcell
    obtain ⟨v', w', hrun, h2, h3, _, h5⟩ := run_append_own_at (P := P) w base t ty e i z sz bytes ht hi hz hs hby hzs hsz0 v xs.length (xs.flatMap enc) h ad ys.length c (ys.flatMap enc) hylen hcells
      (by intro q hq; obtain ⟨y, hy, hq2⟩ := List.mem_flatMap.1 hq; exact hone y hy q hq2) (by unfold maxLen; omega) (Nat.le_trans (Nat.mul_le_mul hlen hb16) (by omega)) hbase
    refine ⟨v', w', hrun, ?_, (Below.refl _ _).grown h3 hbase h.block, fun k hk hne => h3.block k hk (fun e => hne e.symm), h5⟩
    unfold OwnA
    rw [List.length_append, List.flatMap_append]
    exact h2
theorem run_appA {P : Program} {t ty : TypeId} {i : TypeInfo} {z : Value} {bytes : Nat} (ht : P.underlying t = some (.slice e)) (hi : P.info? e = some i) (hz : i.zero = some z) (hs : i.size = sz) (hby : i.bytes = bytes) (hzs : z.cells.size = sz) (hsz0 : 0 < sz) (hb16 : bytes ≤ 64)
    (hsz : ∀ x ∈ ys, (enc x).length = sz) (hone : ∀ x ∈ ys, ∀ q ∈ enc x, q.oneCell' = true)
    (h : OwnA e sz enc base w v xs) (hu : SlA enc w u ys) (hlen : xs.length + ys.length ≤ 1000000000) (hbase : base ≤ w.heap.size) :
    ∃ v' w', (Builtin.append_ #[t, t] ty #[v, u]).run P w = .ok v' w' ∧ OwnA e sz enc base w' v' (xs ++ ys) ∧ Below base w w' ∧ (∀ k, k < w.heap.size → v.ownBlock ≠ some k → w'.heap[k]? = w.heap[k]?) ∧ (v'.ownBlock = v.ownBlock ∨ v'.ownBlock = some w.heap.size) :=
  run_appA0 ht hi hz hs hby hzs hsz0 hb16 hsz hone h hu.weak hlen hbase
theorem append_typesA {P : Program} {t t2 ty : TypeId} (ht : P.underlying t = some (.slice e)) (ht2 : P.underlying t2 = some (.slice e)) : (Builtin.append_ #[t, t2] ty #[v, u]).run P w = (Builtin.append_ #[t, t] ty #[v, u]).run P w := by
  unfold Builtin.append_
  cases v <;> simp [run_underlying ht, run_underlying ht2, Sem.run_bind]
/-- what a kind of element owes -/
structure ElA (P : Program) (e : TypeId) (sz : Nat) (enc : α → List Value) : Prop where
  ex : ∃ i z bytes, P.info? e = some i ∧ i.zero = some z ∧ i.size = sz ∧ i.bytes = bytes ∧ z.cells.size = sz ∧ bytes ≤ 64
  pos : 0 < sz
  len : ∀ x, (enc x).length = sz
  one : ∀ x, ∀ q ∈ enc x, q.oneCell' = true
theorem wp_appA {P : Program} {o : Oper} {a : Act} {K : Act → World → Prop} {Q : Exit → Act → World → Prop} (E : ElA P e sz enc) (s x : Operand) (t t2 : TypeId) (ho : o.op = .call { callee := .builtin .append, args := #[s, x], argTypes := #[t, t2] })
    (ht : P.underlying t = some (.slice e)) (ht2 : P.underlying t2 = some (.slice e))
    (hv : a.eval s = v) (h : OwnA e sz enc base w v xs) (hx : a.eval x = u) (hu : SlA enc w u ys) (hlen : xs.length + ys.length ≤ 1000000000) (hbase : base ≤ w.heap.size)
    (hK : ∀ v' w', OwnA e sz enc base w' v' (xs ++ ys) → Below base w w' → (∀ k, k < w.heap.size → v.ownBlock ≠ some k → w'.heap[k]? = w.heap[k]?) → (v'.ownBlock = v.ownBlock ∨ v'.ownBlock = some w.heap.size) → K (a.put o.dst v') w') : o.wp P a w K Q := by
  obtain ⟨i, z, bytes, hi, hz, hs, hby, hzs, hb⟩ := E.ex
  obtain ⟨v', w', hrun, h1, h2, h3, h4⟩ := run_appA (P := P) (ty := o.type) ht hi hz hs hby hzs E.pos hb (fun x _ => E.len x) (fun x _ => E.one x) h hu hlen hbase
  unfold Oper.wp execOp
  simp only [ho, resolve, invoke, builtin, Sem.run_bind, Sem.run_pure, Result.andThen_ok, List.map_toArray, List.map_cons, List.map_nil, hv, hx, (append_typesA ht ht2).trans hrun]
  exact hK v' w' h1 h2 h3 h4
theorem wpList_appA {P : Program} {ops : Array Oper} {rest : List Oper} {o : Oper} {a : Act} {Q : Exit → Act → World → Prop} (hgd : o.guard = none) (E : ElA P e sz enc) (s x : Operand) (t t2 : TypeId) (ho : o.op = .call { callee := .builtin .append, args := #[s, x], argTypes := #[t, t2] })
    (ht : P.underlying t = some (.slice e)) (ht2 : P.underlying t2 = some (.slice e))
    (hv : a.eval s = v) (h : OwnA e sz enc base w v xs) (hx : a.eval x = u) (hu : SlA enc w u ys) (hlen : xs.length + ys.length ≤ 1000000000) (hbase : base ≤ w.heap.size)
    (hK : ∀ v' w', OwnA e sz enc base w' v' (xs ++ ys) → Below base w w' → (∀ k, k < w.heap.size → v.ownBlock ≠ some k → w'.heap[k]? = w.heap[k]?) → (v'.ownBlock = v.ownBlock ∨ v'.ownBlock = some w.heap.size) → wpList P ops Q rest (a.put o.dst v') w') : wpList P ops Q (o :: rest) a w :=
  wpList_plain hgd fun _ hk => wp_appA E s x t t2 ho ht ht2 hv h hx hu hlen hbase fun v' w' h1 h2 h3 h4 => hk _ _ (hK v' w' h1 h2 h3 h4)
theorem wp_appA0 {P : Program} {o : Oper} {a : Act} {K : Act → World → Prop} {Q : Exit → Act → World → Prop} (E : ElA P e sz enc) (s x : Operand) (t t2 : TypeId) (ho : o.op = .call { callee := .builtin .append, args := #[s, x], argTypes := #[t, t2] })
    (ht : P.underlying t = some (.slice e)) (ht2 : P.underlying t2 = some (.slice e))
    (hv : a.eval s = v) (h : OwnA e sz enc base w v xs) (hx : a.eval x = u) (hu : SlA0 enc w u ys) (hlen : xs.length + ys.length ≤ 1000000000) (hbase : base ≤ w.heap.size)
    (hK : ∀ v' w', OwnA e sz enc base w' v' (xs ++ ys) → Below base w w' → (∀ k, k < w.heap.size → v.ownBlock ≠ some k → w'.heap[k]? = w.heap[k]?) → (v'.ownBlock = v.ownBlock ∨ v'.ownBlock = some w.heap.size) → K (a.put o.dst v') w') : o.wp P a w K Q := by
  obtain ⟨i, z, bytes, hi, hz, hs, hby, hzs, hb⟩ := E.ex
  obtain ⟨v', w', hrun, h1, h2, h3, h4⟩ := run_appA0 (P := P) (ty := o.type) ht hi hz hs hby hzs E.pos hb (fun x _ => E.len x) (fun x _ => E.one x) h hu hlen hbase
  unfold Oper.wp execOp
  simp only [ho, resolve, invoke, builtin, Sem.run_bind, Sem.run_pure, Result.andThen_ok, List.map_toArray, List.map_cons, List.map_nil, hv, hx, (append_typesA ht ht2).trans hrun]
  exact hK v' w' h1 h2 h3 h4
theorem wpList_appA0 {P : Program} {ops : Array Oper} {rest : List Oper} {o : Oper} {a : Act} {Q : Exit → Act → World → Prop} (hgd : o.guard = none) (E : ElA P e sz enc) (s x : Operand) (t t2 : TypeId) (ho : o.op = .call { callee := .builtin .append, args := #[s, x], argTypes := #[t, t2] })
    (ht : P.underlying t = some (.slice e)) (ht2 : P.underlying t2 = some (.slice e))
    (hv : a.eval s = v) (h : OwnA e sz enc base w v xs) (hx : a.eval x = u) (hu : SlA0 enc w u ys) (hlen : xs.length + ys.length ≤ 1000000000) (hbase : base ≤ w.heap.size)
    (hK : ∀ v' w', OwnA e sz enc base w' v' (xs ++ ys) → Below base w w' → (∀ k, k < w.heap.size → v.ownBlock ≠ some k → w'.heap[k]? = w.heap[k]?) → (v'.ownBlock = v.ownBlock ∨ v'.ownBlock = some w.heap.size) → wpList P ops Q rest (a.put o.dst v') w') : wpList P ops Q (o :: rest) a w :=
  wpList_plain hgd fun _ hk => wp_appA0 E s x t t2 ho ht ht2 hv h hx hu hlen hbase fun v' w' h1 h2 h3 h4 => hk _ _ (hK v' w' h1 h2 h3 h4)
/-- S: the stages (operation, the operation that takes it up, the list); c: the literal, taken up by cu; f: the last operation, which hands the slice on -/
structure ChA (e : TypeId) (sz : Nat) (enc : α → List Value) (B : Nat) (w0 : World) (ev : Nat → Option Value) (S : List (Nat × Nat × List α)) (c cu f : Nat) (LF LIT : List α) (D : Nat → Bool) (x : Nat → Value) (w : World) : Prop where
  bel : Below B w0 w
  siz : B ≤ w.heap.size
  kn : ∀ i v, ev i = some v → D i = true → x i = v
  stg : ∀ s ∈ S, D s.1 = true → D s.2.1 = false → OwnA e sz enc B w (x s.1) s.2.2
  lit : D c = true → D cu = false → OwnA e sz enc B w (x c) LIT ∧ ∀ s ∈ S, D s.1 = true → D s.2.1 = false → ∀ k, (x c).ownBlock = some k → (x s.1).ownBlock ≠ some k
  fin : D f = true → OwnA e sz enc B w (x f) LF
end
section
variable {α : Type} {e : TypeId} {sz : Nat} {enc : α → List Value} {B : Nat} {w0 w w' : World} {ev : Nat → Option Value} {S : List (Nat × Nat × List α)} {c cu f : Nat} {LF LIT : List α} {D : Nat → Bool} {x : Nat → Value}
theorem ChA.grow (h : ChA e sz enc B w0 ev S c cu f LF LIT D x w) (hb : Below w.heap.size w w') : ChA e sz enc B w0 ev S c cu f LF LIT D x w' :=
  ⟨h.bel.trans (hb.mono h.siz), Nat.le_trans h.siz hb.size, h.kn, fun s hs h1 h2 => (h.stg s hs h1 h2).below hb, fun h1 h2 => ⟨(h.lit h1 h2).1.below hb, (h.lit h1 h2).2⟩, fun d => (h.fin d).below hb⟩
theorem upd_tA {D : Nat → Bool} {i j : Nat} : upd D i true j = true ↔ j = i ∨ D j = true := by
  by_cases e : j = i
  · subst e; simp
  · rw [upd_ne _ _ e]; simp [e]
theorem upd_fA {D : Nat → Bool} {i j : Nat} : upd D i true j = false ↔ j ≠ i ∧ D j = false := by
  by_cases e : j = i
  · subst e; simp
  · rw [upd_ne _ _ e]; simp [e]
theorem ChA.val (h : ChA e sz enc B w0 ev S c cu f LF LIT D x w) {i : Nat} {v : Value} (hv : ev i = some v) (h1 : S.all (fun s => s.1 != i && s.2.1 != i) = true) (h2 : i ≠ c) (h3 : i ≠ cu) (h4 : i ≠ f) : ChA e sz enc B w0 ev S c cu f LF LIT (upd D i true) (upd x i v) w := by
  have hS : ∀ s ∈ S, s.1 ≠ i ∧ s.2.1 ≠ i := fun s hs => by have := List.all_eq_true.1 h1 s hs; simpa using this
  refine ⟨h.bel, h.siz, fun j u hu hd => ?_, fun s hs d1 d2 => ?_, fun d1 d2 => ?_, fun d => ?_⟩
  · by_cases e : j = i
    · subst e; rw [upd_same]; rw [hv] at hu; injection hu
    · rw [upd_ne _ _ e] at hd ⊢; exact h.kn j u hu hd
  · rw [upd_ne _ _ (hS s hs).1] at d1 ⊢; rw [upd_ne _ _ (hS s hs).2] at d2; exact h.stg s hs d1 d2
  · rw [upd_ne _ _ (Ne.symm h2)] at d1 ⊢; rw [upd_ne _ _ (Ne.symm h3)] at d2
    refine ⟨(h.lit d1 d2).1, fun s hs e1 e2 => ?_⟩
    rw [upd_ne _ _ (hS s hs).1] at e1 ⊢; rw [upd_ne _ _ (hS s hs).2] at e2
    exact (h.lit d1 d2).2 s hs e1 e2
  · rw [upd_ne _ _ (Ne.symm h4)] at d ⊢; exact h.fin d
theorem ChA.stage (h : ChA e sz enc B w0 ev S c cu f LF LIT D x w) {i n : Nat} {L : List α} {v : Value} (hi : (i, n, L) ∈ S) (hun : ∀ s ∈ S, s.1 = i → s = (i, n, L)) (hoth : ∀ s ∈ S, s.1 ≠ i → D s.1 = true → s.2.1 = i ∨ D s.2.1 = true) (hev : ev i = none) (hc : i ≠ c) (hf : i ≠ f) (hfd : D f = false)
    (hbel : Below B w w') (ho : OwnA e sz enc B w' v L) (hiv : D c = true → i ≠ cu → D cu = false → OwnA e sz enc B w' (x c) LIT ∧ ∀ k, (x c).ownBlock = some k → v.ownBlock ≠ some k) : ChA e sz enc B w0 ev S c cu f LF LIT (upd D i true) (upd x i v) w' := by
  refine ⟨h.bel.trans hbel, Nat.le_trans h.siz hbel.size, fun j u hu hd => ?_, fun s hs d1 d2 => ?_, fun d1 d2 => ?_, fun d => ?_⟩
  · have e : j ≠ i := fun e => (by rw [e, hev] at hu; cases hu)
    rw [upd_ne _ _ e] at hd ⊢; exact h.kn j u hu hd
  · by_cases e : s.1 = i
    · have := hun s hs e
      subst this
      rw [upd_same]; exact ho
    · rw [upd_ne _ _ e] at d1
      rcases hoth s hs e d1 with q | q
      · rw [q, upd_same] at d2; cases d2
      · have := (upd_fA.1 d2).2
        rw [q] at this; cases this
  · rw [upd_ne _ _ (Ne.symm hc)] at d1 ⊢
    have d3 := upd_fA.1 d2
    obtain ⟨a1, a2⟩ := hiv d1 (Ne.symm d3.1) d3.2
    refine ⟨a1, fun s hs e1 e2 k hk => ?_⟩
    by_cases e : s.1 = i
    · rw [e, upd_same]; exact a2 k hk
    · rw [upd_ne _ _ e] at e1
      rcases hoth s hs e e1 with q | q
      · rw [q, upd_same] at e2; cases e2
      · have := (upd_fA.1 e2).2
        rw [q] at this; cases this
  · rw [upd_ne _ _ (Ne.symm hf)] at d
    rw [hfd] at d; cases d
theorem ChA.call (h : ChA e sz enc B w0 ev S c cu f LF LIT D x w) {v : Value} (h1 : S.all (fun s => s.1 != c && s.2.1 != c) = true) (hev : ev c = none) (h2 : c ≠ f) (hb : Below w.heap.size w w') (ho : OwnA e sz enc w.heap.size w' v LIT) : ChA e sz enc B w0 ev S c cu f LF LIT (upd D c true) (upd x c v) w' := by
  have hS : ∀ s ∈ S, s.1 ≠ c ∧ s.2.1 ≠ c := fun s hs => by have := List.all_eq_true.1 h1 s hs; simpa using this
  have hg := h.grow hb
  refine ⟨hg.bel, hg.siz, fun j u hu hd => ?_, fun s hs d1 d2 => ?_, fun d1 d2 => ?_, fun d => ?_⟩
  · have e : j ≠ c := fun e => (by rw [e, hev] at hu; cases hu)
    rw [upd_ne _ _ e] at hd ⊢; exact h.kn j u hu hd
  · rw [upd_ne _ _ (hS s hs).1] at d1 ⊢; rw [upd_ne _ _ (hS s hs).2] at d2; exact hg.stg s hs d1 d2
  · rw [upd_same]
    refine ⟨ho.low h.siz, fun s hs e1 e2 k hk => ?_⟩
    rw [upd_ne _ _ (hS s hs).1] at e1 ⊢; rw [upd_ne _ _ (hS s hs).2] at e2
    intro hk2
    have q1 := (h.stg s hs e1 e2).lt k hk2
    have q2 := ho.block k hk
    omega
  · rw [upd_ne _ _ (Ne.symm h2)] at d ⊢; exact hg.fin d
theorem ChA.last (h : ChA e sz enc B w0 ev S c cu f LF LIT D x w) {v : Value} {g : Nat} (hv : v = x g) (hg : (g, f, LF) ∈ S) (hDg : D g = true) (hDf : D f = false) (h0 : S.all (fun s => s.1 != f) = true) (hev : ev f = none) (h2 : f ≠ c) (h3 : f ≠ cu) : ChA e sz enc B w0 ev S c cu f LF LIT (upd D f true) (upd x f v) w := by
  have hS : ∀ s ∈ S, s.1 ≠ f := fun s hs => by have := List.all_eq_true.1 h0 s hs; simpa using this
  refine ⟨h.bel, h.siz, fun j u hu hd => ?_, fun s hs d1 d2 => ?_, fun d1 d2 => ?_, fun d => ?_⟩
  · have e : j ≠ f := fun e => (by rw [e, hev] at hu; cases hu)
    rw [upd_ne _ _ e] at hd ⊢; exact h.kn j u hu hd
  · rw [upd_ne _ _ (hS s hs)] at d1 ⊢; exact h.stg s hs d1 (upd_fA.1 d2).2
  · rw [upd_ne _ _ (Ne.symm h2)] at d1 ⊢; rw [upd_ne _ _ (Ne.symm h3)] at d2
    refine ⟨(h.lit d1 d2).1, fun s hs e1 e2 => ?_⟩
    rw [upd_ne _ _ (hS s hs)] at e1 ⊢
    exact (h.lit d1 d2).2 s hs e1 (upd_fA.1 e2).2
  · rw [upd_same, hv]
    exact h.stg _ hg hDg hDf
theorem ChA.app {P : Program} (E : ElA P e sz enc) (h : ChA e sz enc B w0 ev S c cu f LF LIT D x w) {r i n : Nat} {L ys : List α} {u : Value} {o : Oper} {b : Act} (sx ux : Operand) (t t2 : TypeId) (ho : o.op = .call { callee := .builtin .append, args := #[sx, ux], argTypes := #[t, t2] })
    (ht : P.underlying t = some (.slice e)) (ht2 : P.underlying t2 = some (.slice e))
    (hr : (r, i, L) ∈ S) (hi : (i, n, L ++ ys) ∈ S) (hun : ∀ s ∈ S, s.1 = i → s = (i, n, L ++ ys)) (hoth : ∀ s ∈ S, s.1 ≠ i → D s.1 = true → s.2.1 = i ∨ D s.2.1 = true) (hev : ev i = none) (hc : i ≠ c) (hf : i ≠ f) (hfd : D f = false) (hDr : D r = true) (hDi : D i = false)
    (he1 : b.eval sx = x r) (he2 : b.eval ux = u) (hu : SlA enc w u ys) (hlen : L.length + ys.length ≤ 100000000) : o.wp P b w (StepPost (ChA e sz enc B w0 ev S c cu f LF LIT) D x i b o.dst) NoQ := by
  refine wp_appA (P := P) (base := B) E sx ux t t2 ho ht ht2 he1 (h.stg _ hr hDr hDi) he2 hu (by show L.length + ys.length ≤ _; omega) h.siz ?_
  intro v' w' h1 h2 h3 h4
  refine ⟨v', rfl, h.stage hi hun hoth hev hc hf hfd h2 h1 (fun d1 _ d3 => ?_)⟩
  obtain ⟨a1, a2⟩ := h.lit d1 d3
  have a3 := a2 _ hr hDr hDi
  refine ⟨a1.keepK fun k hk => h3 k (a1.lt k hk) (a3 k hk), fun k hk => ?_⟩
  rcases h4 with q | q
  · rw [q]; exact a3 k hk
  · rw [q]
    have := a1.lt k hk
    intro e
    injection e with e
    omega
end
end Go.Proofs.YteigjfdgijaifaaDoor

namespace Go.Proofs.YteigjfdgijaifaaDoor
open Go.RowKit
set_option linter.unusedVariables false

/-- what an append to v0 has left as it was; v: the slice that came -/
structure Kpt (B : Nat) (w0 w : World) (v0 v : Value) : Prop where
  bel : Below B w0 w
  keep : ∀ k, k < w0.heap.size → v0.ownBlock ≠ some k → w.heap[k]? = w0.heap[k]?
  blk : ∀ k, v.ownBlock = some k → v0.ownBlock = some k ∨ w0.heap.size ≤ k
section
variable {α : Type}
/-- c: the literal; a: the append; f: the store at p -/
structure ApS (e : TypeId) (sz : Nat) (enc : α → List Value) (B : Nat) (w0 : World) (ev : Nat → Option Value) (c a f : Nat) (v0 : Value) (p : Addr) (L LIT : List α) (D : Nat → Bool) (x : Nat → Value) (w : World) : Prop where
  kn : ∀ i v, ev i = some v → D i = true → x i = v
  pre : D a = false → D f = false → Below w0.heap.size w0 w
  lit : D c = true → D a = false → D f = false → OwnA e sz enc w0.heap.size w (x c) LIT
  mid : D a = true → D f = false → OwnA e sz enc B w (x a) (L ++ LIT) ∧ Kpt B w0 w v0 (x a)
  fin : D f = true → ∃ W v, w = W.setCell p v ∧ OwnA e sz enc B W v (L ++ LIT) ∧ Kpt B w0 W v0 v
variable {e : TypeId} {sz : Nat} {enc : α → List Value} {B : Nat} {w0 w w' : World} {ev : Nat → Option Value} {c a f : Nat} {v0 : Value} {p : Addr} {L LIT : List α} {D : Nat → Bool} {x : Nat → Value}
theorem ApS.start : ApS e sz enc B w0 ev c a f v0 p L LIT (fun _ => false) x w0.drew :=
  ⟨fun i v _ h => Bool.noConfusion h, fun _ _ => (Below.refl _ _).drew, fun h => Bool.noConfusion h, fun h => Bool.noConfusion h, fun h => Bool.noConfusion h⟩
theorem ApS.val (h : ApS e sz enc B w0 ev c a f v0 p L LIT D x w) {i : Nat} {v : Value} (hv : ev i = some v) (h1 : i ≠ c) (h2 : i ≠ a) (h3 : i ≠ f) : ApS e sz enc B w0 ev c a f v0 p L LIT (upd D i true) (upd x i v) w := by
  refine ⟨fun j u hu hd => ?_, fun d1 d2 => ?_, fun d1 d2 d3 => ?_, fun d1 d2 => ?_, fun d => ?_⟩
  · by_cases e : j = i
    · subst e; rw [upd_same]; rw [hv] at hu; injection hu
    · rw [upd_ne _ _ e] at hd ⊢; exact h.kn j u hu hd
  · rw [upd_ne _ _ (Ne.symm h2)] at d1; rw [upd_ne _ _ (Ne.symm h3)] at d2; exact h.pre d1 d2
  · rw [upd_ne _ _ (Ne.symm h1)] at d1 ⊢; rw [upd_ne _ _ (Ne.symm h2)] at d2; rw [upd_ne _ _ (Ne.symm h3)] at d3; exact h.lit d1 d2 d3
  · rw [upd_ne _ _ (Ne.symm h2)] at d1 ⊢; rw [upd_ne _ _ (Ne.symm h3)] at d2; exact h.mid d1 d2
  · rw [upd_ne _ _ (Ne.symm h3)] at d; exact h.fin d
theorem ApS.call (h : ApS e sz enc B w0 ev c a f v0 p L LIT D x w) {v : Value} (hev : ev c = none) (h1 : c ≠ a) (h2 : c ≠ f) (ha : D a = false) (hf : D f = false) (hb : Below w.heap.size w w') (ho : OwnA e sz enc w.heap.size w' v LIT) : ApS e sz enc B w0 ev c a f v0 p L LIT (upd D c true) (upd x c v) w' := by
  have hp := h.pre ha hf
  refine ⟨fun j u hu hd => ?_, fun d1 d2 => hp.trans (hb.mono hp.size), fun d1 d2 d3 => by rw [upd_same]; exact ho.low hp.size, fun d1 d2 => ?_, fun d => ?_⟩
  · have e : j ≠ c := fun e => (by rw [e, hev] at hu; cases hu)
    rw [upd_ne _ _ e] at hd ⊢; exact h.kn j u hu hd
  · rw [upd_ne _ _ (Ne.symm h1), ha] at d1; cases d1
  · rw [upd_ne _ _ (Ne.symm h2), hf] at d; cases d
theorem ApS.app {P : Program} (E : ElA P e sz enc) (h : ApS e sz enc B w0 ev c a f v0 p L LIT D x w) {o : Oper} {b : Act} (sx ux : Operand) (t t2 : TypeId) (ho : o.op = .call { callee := .builtin .append, args := #[sx, ux], argTypes := #[t, t2] })
    (ht : P.underlying t = some (.slice e)) (ht2 : P.underlying t2 = some (.slice e)) (hev : ev a = none) (hca : c ≠ a) (haf : a ≠ f) (hc : D c = true) (ha : D a = false) (hf : D f = false)
    (he1 : b.eval sx = v0) (he2 : b.eval ux = x c) (hv0 : OwnA e sz enc B w0 v0 L) (hB : B ≤ w0.heap.size) (hlen : L.length + LIT.length ≤ 100000000) : o.wp P b w (StepPost (ApS e sz enc B w0 ev c a f v0 p L LIT) D x a b o.dst) NoQ := by
  have hp := h.pre ha hf
  have hl := h.lit hc ha hf
  refine wp_appA (P := P) (base := B) E sx ux t t2 ho ht ht2 he1 (hv0.below hp) he2 hl.sl (by omega) (Nat.le_trans hB hp.size) ?_
  intro v' w' h1 h2 h3 h4
  refine ⟨v', rfl, fun j u hu hd => ?_, fun d1 d2 => ?_, fun d1 d2 d3 => ?_, fun d1 d2 => ?_, fun d => ?_⟩
  · have e : j ≠ a := fun e => (by rw [e, hev] at hu; cases hu)
    rw [upd_ne _ _ e] at hd ⊢; exact h.kn j u hu hd
  · rw [upd_same] at d1; cases d1
  · rw [upd_same] at d2; cases d2
  · rw [upd_same]
    refine ⟨h1, (hp.mono hB).trans h2, fun k hk hne => (h3 k (Nat.lt_of_lt_of_le hk hp.size) hne).trans (hp.block k hk), fun k hk => ?_⟩
    rcases h4 with q | q
    · rw [q] at hk; exact .inl hk
    · rw [q] at hk
      injection hk with hk
      subst hk
      exact .inr hp.size
  · rw [upd_ne _ _ (Ne.symm haf), hf] at d; cases d
theorem ApS.store (h : ApS e sz enc B w0 ev c a f v0 p L LIT D x w) (hev : ev f = none) (ha : D a = true) (hf : D f = false) (v : Value) : ApS e sz enc B w0 ev c a f v0 p L LIT (upd D f true) (upd x f v) (w.setCell p (x a)) := by
  obtain ⟨m1, m2⟩ := h.mid ha hf
  refine ⟨fun j u hu hd => ?_, fun d1 d2 => ?_, fun d1 d2 d3 => ?_, fun d1 d2 => ?_, fun d => ⟨w, x a, rfl, m1, m2⟩⟩
  · have e : j ≠ f := fun e => (by rw [e, hev] at hu; cases hu)
    rw [upd_ne _ _ e] at hd ⊢; exact h.kn j u hu hd
  · rw [upd_same] at d2; cases d2
  · rw [upd_same] at d3; cases d3
  · rw [upd_same] at d2; cases d2
theorem Kpt.arr {g : Nat} {t : TypeId} {cs : List Value} {v : Value} (h : Kpt B w0 w v0 v) (hg : Arr w0 g t cs) (hne : v0.ownBlock ≠ some g) : Arr w g t cs := (h.keep g hg.lt hne).trans hg
/-- a block that the append does not write, at any time before the store -/
theorem ApS.arrK (h : ApS e sz enc B w0 ev c a f v0 p L LIT D x w) (hf : D f = false) {g : Nat} {t : TypeId} {cs : List Value} (hg : Arr w0 g t cs) (hne : v0.ownBlock ≠ some g) : Arr w g t cs := by
  cases ha : D a with
  | false => exact hg.below (h.pre ha hf) hg.lt
  | true => exact (h.mid ha hf).2.arr hg hne
end
end Go.Proofs.YteigjfdgijaifaaDoor

namespace Go.Proofs.YteigjfdgijaifaaDoor
set_option linter.unusedVariables false
open Go.RowKit

/-- v is a slice of the call's own, from block base on, that holds the integers xs -/
def OwnI (e : TypeId) (base : Nat) (w : World) (v : Value) (xs : List Int) : Prop := w.ownsRow base e 1 v xs.length (xs.map (Value.int .i64))

section
variable {e : TypeId} {base : Nat} {w w' : World} {v : Value} {xs : List Int}
theorem OwnI.nil (e : TypeId) (base : Nat) (w : World) : OwnI e base w (.slice none 0 0) [] := ⟨rfl, .inl ⟨rfl, rfl⟩⟩
theorem OwnI.form (h : OwnI e base w v xs) : ∃ A c, v = .slice A xs.length c := by
  rcases h.2 with ⟨rfl, h0⟩ | ⟨g, cap, cur, rfl, _⟩
  · exact ⟨none, 0, by rw [h0]⟩
  · exact ⟨_, _, rfl⟩
theorem OwnI.block (h : OwnI e base w v xs) : ∀ k, v.ownBlock = some k → base ≤ k := by
  intro k hk
  rcases h.2 with ⟨rfl, h0⟩ | ⟨g, cap, cur, rfl, hg, _⟩
  · simp [Value.ownBlock] at hk
  · simp [Value.ownBlock] at hk; omega
theorem OwnI.ints (h : OwnI e base w v xs) : Ints w v xs := by
  rcases h.2 with ⟨rfl, h0⟩ | ⟨g, cap, cur, rfl, hg, hh, hn, _, hc, ht⟩
  · have : xs = [] := List.eq_nil_of_length_eq_zero h0
    subst this
    exact Ints.nil w
  · refine ⟨_, _, rfl, hn, fun k x hk => ⟨g, 0, rfl, ?_⟩⟩
    rw [cell_of_row w g _ cur e (0, 0) hh, Nat.zero_add]
    have hk' : k < xs.length := (List.getElem?_eq_some_iff.1 hk).1
    have h1 : (cur.toList.take (xs.length * 1))[k]? = some (.int .i64 x) := by rw [ht, List.getElem?_map, hk]; rfl
    rw [List.getElem?_take, if_pos (by omega)] at h1
    simpa using h1
theorem OwnI.below {B : Nat} (h : OwnI e base w v xs) (hb : Below B w w') (hB : w.heap.size ≤ B) : OwnI e base w' v xs := by
  refine ⟨h.1, ?_⟩
  rcases h.2 with h0 | ⟨g, cap, cur, e1, hg, hh, r⟩
  · exact .inl h0
  · refine .inr ⟨g, cap, cur, e1, hg, ?_, r⟩
    have hlt : g < w.heap.size := by
      rcases Nat.lt_or_ge g w.heap.size with hlt | hge
      · exact hlt
      · rw [Array.getElem?_eq_none hge] at hh; cases hh
    rw [hb.block g (by omega)]; exact hh
theorem OwnI.alloc (h : OwnI e base w v xs) (o : Obj) : OwnI e base (w.alloc o) v xs := h.below ((Below.refl _ _).alloc (Nat.le_refl _) o) (Nat.le_refl _)
theorem OwnI.drew (h : OwnI e base w v xs) : OwnI e base w.drew v xs := h
theorem OwnI.drewN (h : OwnI e base w v xs) (n : Nat) : OwnI e base (w.drewN n) v xs := h

/-- the run of append(v, u...) -/
theorem run_appI {P : Program} {t ty : TypeId} {i : TypeInfo} (ht : P.underlying t = some (.slice e)) (hi : P.info? e = some i) (hz : i.zero = some (.int .i64 0)) (hs : i.size = 1) (hby : i.bytes = 8)
    (h : OwnI e base w v xs) {u : Value} {ys : List Int} (hu : Ints w u ys) (hlen : xs.length + ys.length ≤ 1000000000) (hbase : base ≤ w.heap.size) :
    ∃ v' w', (Builtin.append_ #[t, t] ty #[v, u]).run P w = .ok v' w' ∧ OwnI e base w' v' (xs ++ ys) ∧ Below base w w' ∧ (∀ k, k < w.heap.size → v.ownBlock ≠ some k → w'.heap[k]? = w.heap[k]?) := by
  obtain ⟨A, c, rfl, hc, hx⟩ := hu
  cases A with
  | none =>
    have hy : ys = [] := by
      cases ys with
      | nil => rfl
      | cons y ys => obtain ⟨b, o, hA, _⟩ := hx 0 y rfl; cases hA
    subst hy
    refine ⟨v, w, ?_, by simpa using h, Below.refl _ _, fun _ _ _ => rfl⟩
    rcases h.2 with ⟨rfl, h0⟩ | ⟨g, cap, cur, rfl, _, _, hnc, _⟩
    · simp [Builtin.append_, run_underlying ht, sizeOf, typeInfo, hi, Builtin.lenOf, Builtin.firstCells]
    · simp [Builtin.append_, run_underlying ht, sizeOf, typeInfo, hi, Builtin.lenOf, Builtin.firstCells, hnc, storeCells]
  | some ad =>
    have hcells : ∀ j q, (ys.map (Value.int .i64))[j]? = some q → w.cell? (ad.add j) = some q := by
      intro j q hq
      rw [List.getElem?_map] at hq
      cases hy : ys[j]? with
      | none => rw [hy] at hq; cases hq
      | some y =>
        rw [hy] at hq
        injection hq with hq
        obtain ⟨b, o, hA, hcell⟩ := hx j y hy
        injection hA with hA
        subst hA
        rw [← hq]
        have : (⟨b, o, none⟩ : Addr).add j = ⟨b, o + j, none⟩ := by unfold Addr.add; split <;> simp_all
        rw [this]; exact hcell
    obtain ⟨v', w', hrun, h2, h3, _, _⟩ := run_append_own_at (P := P) w base t ty e i (.int .i64 0) 1 8 ht hi hz hs hby rfl (by decide) v xs.length (xs.map (Value.int .i64)) h ad ys.length c (ys.map (Value.int .i64)) (by simp) hcells
      (by intro q hq; obtain ⟨y, _, rfl⟩ := List.mem_map.1 hq; rfl) (by unfold maxLen; omega) (by omega) hbase
    refine ⟨v', w', hrun, ?_, (Below.refl _ _).grown h3 hbase h.block, fun k hk hne => h3.block k hk (fun e => hne e.symm)⟩
    unfold OwnI
    rw [List.length_append, List.map_append]
    exact h2
end

section
variable {P : Program} {w : World} {e : TypeId} {base : Nat} {v : Value} {xs : List Int}
theorem wp_appI {o : Oper} {a : Act} {K : Act → World → Prop} {Q : Exit → Act → World → Prop} (s x : Operand) (t : TypeId) (ho : o.op = .call { callee := .builtin .append, args := #[s, x], argTypes := #[t, t] })
    {i : TypeInfo} (ht : P.underlying t = some (.slice e)) (hi : P.info? e = some i) (hz : i.zero = some (.int .i64 0)) (hs : i.size = 1) (hby : i.bytes = 8)
    (hv : a.eval s = v) (h : OwnI e base w v xs) {u : Value} {ys : List Int} (hx : a.eval x = u) (hu : Ints w u ys) (hlen : xs.length + ys.length ≤ 1000000000) (hbase : base ≤ w.heap.size)
    (hK : ∀ v' w', OwnI e base w' v' (xs ++ ys) → Below base w w' → (∀ k, k < w.heap.size → v.ownBlock ≠ some k → w'.heap[k]? = w.heap[k]?) → K (a.put o.dst v') w') : o.wp P a w K Q := by
  obtain ⟨v', w', hrun, h1, h2, h3⟩ := run_appI (P := P) (ty := o.type) ht hi hz hs hby h hu hlen hbase
  unfold Oper.wp execOp
  simp only [ho, resolve, invoke, builtin, Sem.run_bind, Sem.run_pure, Result.andThen_ok, List.map_toArray, List.map_cons, List.map_nil, hv, hx, hrun]
  exact hK v' w' h1 h2 h3
/-- in a plain region, behind 'at_builtin' -/
theorem wpList_appI {ops : Array Oper} {rest : List Oper} {o : Oper} {a : Act} {Q : Exit → Act → World → Prop} (hgd : o.guard = none) (s x : Operand) (t : TypeId) (ho : o.op = .call { callee := .builtin .append, args := #[s, x], argTypes := #[t, t] })
    {i : TypeInfo} (ht : P.underlying t = some (.slice e)) (hi : P.info? e = some i) (hz : i.zero = some (.int .i64 0)) (hs : i.size = 1) (hby : i.bytes = 8)
    (hv : a.eval s = v) (h : OwnI e base w v xs) {u : Value} {ys : List Int} (hx : a.eval x = u) (hu : Ints w u ys) (hlen : xs.length + ys.length ≤ 1000000000) (hbase : base ≤ w.heap.size)
    (hK : ∀ v' w', OwnI e base w' v' (xs ++ ys) → Below base w w' → (∀ k, k < w.heap.size → v.ownBlock ≠ some k → w'.heap[k]? = w.heap[k]?) → wpList P ops Q rest (a.put o.dst v') w') : wpList P ops Q (o :: rest) a w :=
  wpList_plain hgd fun _ hk => wp_appI s x t ho ht hi hz hs hby hv h hx hu hlen hbase fun v' w' h1 h2 h3 => hk _ _ (hK v' w' h1 h2 h3)
/-- in a region that draws its order -/
theorem step_appI {ops : Array Oper} {o : Oper} {a : Act} {K : Act → World → Prop} {Q : Exit → Act → World → Prop} {E : Prop} (hgd : o.guard = none) (s x : Operand) (t : TypeId) (ho : o.op = .call { callee := .builtin .append, args := #[s, x], argTypes := #[t, t] })
    {i : TypeInfo} (ht : P.underlying t = some (.slice e)) (hi : P.info? e = some i) (hz : i.zero = some (.int .i64 0)) (hs : i.size = 1) (hby : i.bytes = 8)
    (hv : a.eval s = v) (h : OwnI e base w v xs) {u : Value} {ys : List Int} (hx : a.eval x = u) (hu : Ints w u ys) (hlen : xs.length + ys.length ≤ 1000000000) (hbase : base ≤ w.heap.size)
    (hK : ∀ v' w', OwnI e base w' v' (xs ++ ys) → Below base w w' → (∀ k, k < w.heap.size → v.ownBlock ≠ some k → w'.heap[k]? = w.heap[k]?) → K (a.put o.dst v') w') : if Region.wanted o (yielded ops a.tmps) = true then Oper.wp P o a w K Q else E := by
  have hw : Region.wanted o (yielded ops a.tmps) = true := by simp [Region.wanted, hgd]
  rw [if_pos hw]
  exact wp_appI s x t ho ht hi hz hs hby hv h hx hu hlen hbase hK
end

theorem OwnI.emptyAt {w : World} {e : TypeId} {base g : Nat} (hb : base ≤ g) (hg : w.heap[g]? = some (.cells #[] e (0, 0))) : OwnI e base w (.slice (some ⟨g, 0, none⟩) 0 0) [] :=
  ⟨rfl, .inr ⟨g, 0, #[], rfl, hb, hg, Nat.le_refl _, by unfold maxLen; omega, rfl, rfl⟩⟩

/-- a part of a slice reads as the part of the list -/
theorem Ints.sub {w : World} {A : Option Addr} {n c lo hi : Nat} {xs : List Int} (h : Ints w (.slice A n c) xs) (h1 : lo ≤ hi) (h2 : hi ≤ xs.length) (c' : Nat) (hc : hi - lo ≤ c') (A' : Option Addr) (hA : lo < hi → A' = A.map (·.add lo)) :
    Ints w (.slice A' (hi - lo) c') ((xs.take hi).drop lo) := by
  obtain ⟨A0, c0, hv, hcap, hx⟩ := h
  injection hv with e1 e2 e3
  subst e1
  have hlen : ((xs.take hi).drop lo).length = hi - lo := by simp; omega
  refine ⟨A', c', by rw [hlen], by omega, fun k x hk => ?_⟩
  have hk' : k < hi - lo := by have := (List.getElem?_eq_some_iff.1 hk).1; omega
  rw [List.getElem?_drop, List.getElem?_take, if_pos (by omega)] at hk
  obtain ⟨b, o, hA0, hcell⟩ := hx (lo + k) x hk
  subst hA0
  refine ⟨b, o + lo, ?_, by rw [Nat.add_assoc]; exact hcell⟩
  rw [hA (by omega)]
  simp only [Option.map_some, Addr.add]
  split <;> simp_all
end Go.Proofs.YteigjfdgijaifaaDoor
