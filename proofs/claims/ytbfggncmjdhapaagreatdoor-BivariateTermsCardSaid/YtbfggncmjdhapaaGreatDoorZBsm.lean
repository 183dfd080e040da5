/- Slices of elements of some cells that the call owns, and a region that draws its order and builds one by appends, a literal beside them. -/
/- Polynomials in two variables in memory. -/
/- bivariate: within, sum.plus, sum.small. -/
import Derived.Test.YtbfggncmjdhapaaGreatDoorZFacts
import Derived.Test.YtbfggncmjdhapaaGreatDoorZBld
import Derived.Maps.AppendAt
import Derived.Deep.AppendLies
import Derived.OwnWalk
import Derived.Test.YtbfggncmjdhapaaGreatDoorChecked
import Derived.Test.YtbfggncmjdhapaaGreatDoorZPad
import Derived.BigQuiet
import Derived.Deep.CutBlock
import Derived.Outline
import Derived.Deep.QuietTactic
namespace Go.Proofs.YtbfggncmjdhapaaGreatDoor
open Go.RowKit
set_option linter.unusedVariables false

section
variable {α : Type}
/-- v is a slice of the call's own, from block base on, that holds xs -/
def OwnA (e : TypeId) (sz : Nat) (enc : α → List Value) (base : Nat) (w : World) (v : Value) (xs : List α) : Prop := w.ownsRow base e sz v xs.length (xs.flatMap enc)
/-- u is a slice that reads as ys -/
def SlA (enc : α → List Value) (w : World) (u : Value) (ys : List α) : Prop :=
  ∃ A c, u = .slice A ys.length c ∧ ys.length ≤ c ∧ ∀ j q, (ys.flatMap enc)[j]? = some q → ∃ b o, A = some ⟨b, o, none⟩ ∧ w.cell? ⟨b, o + j, none⟩ = some q
variable {e : TypeId} {sz : Nat} {enc : α → List Value} {base : Nat} {w w' : World} {v u : Value} {xs ys : List α}
theorem OwnA.form (h : OwnA e sz enc base w v xs) : ∃ A c, v = .slice A xs.length c := by
  rcases h.2 with ⟨rfl, h0⟩ | ⟨g, cap, cur, rfl, _⟩
  · exact ⟨none, 0, by rw [h0]⟩
  · exact ⟨_, _, rfl⟩
theorem OwnA.lt (h : OwnA e sz enc base w v xs) : ∀ k, v.ownBlock = some k → k < w.heap.size := by
  intro k hk
  rcases h.2 with ⟨rfl, h0⟩ | ⟨b, cap, cur, rfl, hg, hh, r⟩
  · simp [Value.ownBlock] at hk
  · simp [Value.ownBlock] at hk
    subst hk
    exact (Array.getElem?_eq_some_iff.1 hh).1
theorem OwnA.block (h : OwnA e sz enc base w v xs) : ∀ k, v.ownBlock = some k → base ≤ k := by
  intro k hk
  rcases h.2 with ⟨rfl, h0⟩ | ⟨g, cap, cur, rfl, hg, _⟩
  · simp [Value.ownBlock] at hk
  · simp [Value.ownBlock] at hk; omega
theorem OwnA.keepK (h : OwnA e sz enc base w v xs) (hk : ∀ k, v.ownBlock = some k → w'.heap[k]? = w.heap[k]?) : OwnA e sz enc base w' v xs := by
  refine ⟨h.1, ?_⟩
  rcases h.2 with h0 | ⟨b, cap, cur, rfl, hg, hh, r⟩
  · exact .inl h0
  · exact .inr ⟨b, cap, cur, rfl, hg, (hk b rfl).trans hh, r⟩
theorem OwnA.below (h : OwnA e sz enc base w v xs) (hb : Below w.heap.size w w') : OwnA e sz enc base w' v xs := h.keepK fun k hk => hb.block k (h.lt k hk)
theorem OwnA.alloc (h : OwnA e sz enc base w v xs) (o : Obj) : OwnA e sz enc base (w.alloc o) v xs := h.below ((Below.refl _ _).alloc (Nat.le_refl _) o)
theorem OwnA.low {b2 : Nat} (h : OwnA e sz enc base w v xs) (hb : b2 ≤ base) : OwnA e sz enc b2 w v xs := by
  refine ⟨h.1, ?_⟩
  rcases h.2 with h0 | ⟨g, cap, cur, rfl, hg, r⟩
  · exact .inl h0
  · exact .inr ⟨g, cap, cur, rfl, Nat.le_trans hb hg, r⟩
theorem OwnA.nil (e : TypeId) (sz : Nat) (enc : α → List Value) (base : Nat) (w : World) : OwnA e sz enc base w (.slice none 0 0) [] := ⟨by simp, .inl ⟨rfl, rfl⟩⟩
theorem SlA.below (h : SlA enc w u ys) (hb : Below w.heap.size w w') : SlA enc w' u ys := by
  obtain ⟨A, c, hu, hc, hx⟩ := h
  refine ⟨A, c, hu, hc, fun j q hq => ?_⟩
  obtain ⟨b, o, hA, hcell⟩ := hx j q hq
  exact ⟨b, o, hA, (hb.cell (block_lt_of_cell hcell)).trans hcell⟩
theorem SlA.nil (enc : α → List Value) (w : World) : SlA enc w (.slice none 0 0) ([] : List α) := ⟨none, 0, rfl, Nat.le_refl _, fun j q h => by simp at h⟩
theorem OwnA.sl (h : OwnA e sz enc base w v xs) : SlA enc w v xs := by
  rcases h.2 with ⟨rfl, h0⟩ | ⟨g, cap, cur, rfl, hg, hh, hn, _, hc, ht⟩
  · have : xs = [] := List.eq_nil_of_length_eq_zero h0
    subst this
    exact SlA.nil enc w
  · refine ⟨_, _, rfl, hn, fun j q hq => ⟨g, 0, rfl, ?_⟩⟩
    rw [cell_of_row w g _ cur e (0, 0) hh, Nat.zero_add]
    have h1 : (cur.toList.take (xs.length * sz))[j]? = some q := by rw [ht]; exact hq
    rw [List.getElem?_take] at h1
    split at h1
    · simpa using h1
    · cases h1
/-- a literal in a block of its own -/
theorem OwnA.lit (hsz : ∀ x ∈ xs, (enc x).length = sz) (hb : base ≤ w.heap.size) (hl : xs.length ≤ 1000000) (hn : xs ≠ []) : OwnA e sz enc base (w.alloc (.cells (rowOf (xs.flatMap enc)) e)) (.slice (some ⟨w.heap.size, 0, none⟩) xs.length xs.length) xs := by
  have hlen : (xs.flatMap enc).length = xs.length * sz := by
    clear hl hn
    induction xs with
    | nil => simp
    | cons x xs ih => rw [List.flatMap_cons, List.length_append, ih (fun y hy => hsz y (List.mem_cons_of_mem _ hy)), hsz x (List.mem_cons_self ..), List.length_cons, Nat.succ_mul]; omega
  refine ⟨hlen, .inr ⟨w.heap.size, xs.length, rowOf (xs.flatMap enc), rfl, hb, heap_alloc_new w _, Nat.le_refl _, by unfold maxLen; omega, by unfold rowOf; simp [hlen], ?_⟩⟩
  show List.take (xs.length * sz) (xs.flatMap enc) = _
  exact List.take_of_length_le (by omega)
theorem OwnA.emptyAt {g : Nat} (hb : base ≤ g) (hh : w.heap[g]? = some (.cells #[] e (0, 0))) : OwnA e sz enc base w (.slice (some ⟨g, 0, none⟩) 0 0) ([] : List α) :=
  ⟨by simp, .inr ⟨g, 0, #[], rfl, hb, hh, Nat.le_refl _, by unfold maxLen; omega, by simp, by simp⟩⟩
/-- the run of append(v, u...), with where the result lies -/
theorem run_appA {P : Program} {t ty : TypeId} {i : TypeInfo} {z : Value} {bytes : Nat} (ht : P.underlying t = some (.slice e)) (hi : P.info? e = some i) (hz : i.zero = some z) (hs : i.size = sz) (hby : i.bytes = bytes) (hzs : z.cells.size = sz) (hsz0 : 0 < sz) (hb16 : bytes ≤ 64)
    (hsz : ∀ x ∈ ys, (enc x).length = sz) (hone : ∀ x ∈ ys, ∀ q ∈ enc x, q.oneCell' = true)
    (h : OwnA e sz enc base w v xs) (hu : SlA enc w u ys) (hlen : xs.length + ys.length ≤ 1000000000) (hbase : base ≤ w.heap.size) :
    ∃ v' w', (Builtin.append_ #[t, t] ty #[v, u]).run P w = .ok v' w' ∧ OwnA e sz enc base w' v' (xs ++ ys) ∧ Below base w w' ∧ (∀ k, k < w.heap.size → v.ownBlock ≠ some k → w'.heap[k]? = w.heap[k]?) ∧ (v'.ownBlock = v.ownBlock ∨ v'.ownBlock = some w.heap.size) := by
  obtain ⟨A, c, rfl, hc, hx⟩ := hu
  have hylen : (ys.flatMap enc).length = ys.length * sz := by
    clear hx hc hlen hone
    induction ys with
    | nil => simp
    | cons x xs ih => rw [List.flatMap_cons, List.length_append, ih (fun y hy => hsz y (List.mem_cons_of_mem _ hy)), hsz x (List.mem_cons_self ..), List.length_cons, Nat.succ_mul]; omega
  cases A with
  | none =>
    have hy : ys = [] := by
      cases ys with
      | nil => rfl
      | cons y ys =>
        exfalso
        have h0 : 0 < ((y :: ys).flatMap enc).length := by rw [hylen, List.length_cons]; exact Nat.mul_pos (by omega) hsz0
        obtain ⟨b, o, hA, _⟩ := hx 0 _ (List.getElem?_eq_getElem h0)
        cases hA
    subst hy
    refine ⟨v, w, ?_, by simpa using h, Below.refl _ _, fun _ _ _ => rfl, .inl rfl⟩
    rcases h.2 with ⟨rfl, h0⟩ | ⟨g, cap, cur, rfl, _, _, hnc, _⟩
    · simp [Builtin.append_, run_underlying ht, sizeOf, typeInfo, hi, Builtin.lenOf, Builtin.firstCells]
    · simp [Builtin.append_, run_underlying ht, sizeOf, typeInfo, hi, Builtin.lenOf, Builtin.firstCells, hnc, storeCells]
  | some ad =>
    have hcells : ∀ j q, (ys.flatMap enc)[j]? = some q → w.cell? (ad.add j) = some q := by
      intro j q hq
      obtain ⟨b, o, hA, hcell⟩ := hx j q hq
      injection hA with hA
      subst hA
      have : (⟨b, o, none⟩ : Addr).add j = ⟨b, o + j, none⟩ := by unfold Addr.add; split <;> simp_all
      rw [this]; exact hcell
    obtain ⟨v', w', hrun, h2, h3, _, h5⟩ := run_append_own_at (P := P) w base t ty e i z sz bytes ht hi hz hs hby hzs hsz0 v xs.length (xs.flatMap enc) h ad ys.length c (ys.flatMap enc) hylen hcells
      (by intro q hq; obtain ⟨y, hy, hq2⟩ := List.mem_flatMap.1 hq; exact hone y hy q hq2) (by unfold maxLen; omega) (Nat.le_trans (Nat.mul_le_mul hlen hb16) (by omega)) hbase
    refine ⟨v', w', hrun, ?_, (Below.refl _ _).grown h3 hbase h.block, fun k hk hne => h3.block k hk (fun e => hne e.symm), h5⟩
    unfold OwnA
    rw [List.length_append, List.flatMap_append]
    exact h2
theorem append_typesA {P : Program} {t t2 ty : TypeId} (ht : P.underlying t = some (.slice e)) (ht2 : P.underlying t2 = some (.slice e)) : (Builtin.append_ #[t, t2] ty #[v, u]).run P w = (Builtin.append_ #[t, t] ty #[v, u]).run P w := by
  unfold Builtin.append_
  cases v <;> simp [run_underlying ht, run_underlying ht2, Sem.run_bind]
/-- what a kind of element owes -/
structure ElA (P : Program) (e : TypeId) (sz : Nat) (enc : α → List Value) : Prop where
  ex : ∃ i z bytes, P.info? e = some i ∧ i.zero = some z ∧ i.size = sz ∧ i.bytes = bytes ∧ z.cells.size = sz ∧ bytes ≤ 64
  pos : 0 < sz
  len : ∀ x, (enc x).length = sz
  one : ∀ x, ∀ q ∈ enc x, q.oneCell' = true
theorem wp_appA {P : Program} {o : Oper} {a : Act} {K : Act → World → Prop} {Q : Exit → Act → World → Prop} (E : ElA P e sz enc) (s x : Operand) (t t2 : TypeId) (ho : o.op = .call { callee := .builtin .append, args := #[s, x], argTypes := #[t, t2] })
    (ht : P.underlying t = some (.slice e)) (ht2 : P.underlying t2 = some (.slice e))
    (hv : a.eval s = v) (h : OwnA e sz enc base w v xs) (hx : a.eval x = u) (hu : SlA enc w u ys) (hlen : xs.length + ys.length ≤ 1000000000) (hbase : base ≤ w.heap.size)
    (hK : ∀ v' w', OwnA e sz enc base w' v' (xs ++ ys) → Below base w w' → (∀ k, k < w.heap.size → v.ownBlock ≠ some k → w'.heap[k]? = w.heap[k]?) → (v'.ownBlock = v.ownBlock ∨ v'.ownBlock = some w.heap.size) → K (a.put o.dst v') w') : o.wp P a w K Q := by
  obtain ⟨i, z, bytes, hi, hz, hs, hby, hzs, hb⟩ := E.ex
  obtain ⟨v', w', hrun, h1, h2, h3, h4⟩ := run_appA (P := P) (ty := o.type) ht hi hz hs hby hzs E.pos hb (fun x _ => E.len x) (fun x _ => E.one x) h hu hlen hbase
  unfold Oper.wp execOp
  simp only [ho, resolve, invoke, builtin, Sem.run_bind, Sem.run_pure, Result.andThen_ok, List.map_toArray, List.map_cons, List.map_nil, hv, hx, (append_typesA ht ht2).trans hrun]
  exact hK v' w' h1 h2 h3 h4
theorem wpList_appA {P : Program} {ops : Array Oper} {rest : List Oper} {o : Oper} {a : Act} {Q : Exit → Act → World → Prop} (hgd : o.guard = none) (E : ElA P e sz enc) (s x : Operand) (t t2 : TypeId) (ho : o.op = .call { callee := .builtin .append, args := #[s, x], argTypes := #[t, t2] })
    (ht : P.underlying t = some (.slice e)) (ht2 : P.underlying t2 = some (.slice e))
    (hv : a.eval s = v) (h : OwnA e sz enc base w v xs) (hx : a.eval x = u) (hu : SlA enc w u ys) (hlen : xs.length + ys.length ≤ 1000000000) (hbase : base ≤ w.heap.size)
    (hK : ∀ v' w', OwnA e sz enc base w' v' (xs ++ ys) → Below base w w' → (∀ k, k < w.heap.size → v.ownBlock ≠ some k → w'.heap[k]? = w.heap[k]?) → (v'.ownBlock = v.ownBlock ∨ v'.ownBlock = some w.heap.size) → wpList P ops Q rest (a.put o.dst v') w') : wpList P ops Q (o :: rest) a w :=
  wpList_plain hgd fun _ hk => wp_appA E s x t t2 ho ht ht2 hv h hx hu hlen hbase fun v' w' h1 h2 h3 h4 => hk _ _ (hK v' w' h1 h2 h3 h4)
/-- S: the stages (operation, the operation that takes it up, the list); c: the literal, taken up by cu; f: the last operation, which hands the slice on -/
structure ChA (e : TypeId) (sz : Nat) (enc : α → List Value) (B : Nat) (w0 : World) (ev : Nat → Option Value) (S : List (Nat × Nat × List α)) (c cu f : Nat) (LF LIT : List α) (D : Nat → Bool) (x : Nat → Value) (w : World) : Prop where
  bel : Below B w0 w
  siz : B ≤ w.heap.size
  kn : ∀ i v, ev i = some v → D i = true → x i = v
  stg : ∀ s ∈ S, D s.1 = true → D s.2.1 = false → OwnA e sz enc B w (x s.1) s.2.2
  lit : D c = true → D cu = false → OwnA e sz enc B w (x c) LIT ∧ ∀ s ∈ S, D s.1 = true → D s.2.1 = false → ∀ k, (x c).ownBlock = some k → (x s.1).ownBlock ≠ some k
  fin : D f = true → OwnA e sz enc B w (x f) LF
end
section
variable {α : Type} {e : TypeId} {sz : Nat} {enc : α → List Value} {B : Nat} {w0 w w' : World} {ev : Nat → Option Value} {S : List (Nat × Nat × List α)} {c cu f : Nat} {LF LIT : List α} {D : Nat → Bool} {x : Nat → Value}
theorem ChA.grow (h : ChA e sz enc B w0 ev S c cu f LF LIT D x w) (hb : Below w.heap.size w w') : ChA e sz enc B w0 ev S c cu f LF LIT D x w' :=
  ⟨h.bel.trans (hb.mono h.siz), Nat.le_trans h.siz hb.size, h.kn, fun s hs h1 h2 => (h.stg s hs h1 h2).below hb, fun h1 h2 => ⟨(h.lit h1 h2).1.below hb, (h.lit h1 h2).2⟩, fun d => (h.fin d).below hb⟩
theorem upd_tA {D : Nat → Bool} {i j : Nat} : upd D i true j = true ↔ j = i ∨ D j = true := by
  by_cases e : j = i
  · subst e; simp
  · rw [upd_ne _ _ e]; simp [e]
theorem upd_fA {D : Nat → Bool} {i j : Nat} : upd D i true j = false ↔ j ≠ i ∧ D j = false := by
  by_cases e : j = i
  · subst e; simp
  · rw [upd_ne _ _ e]; simp [e]
theorem ChA.val (h : ChA e sz enc B w0 ev S c cu f LF LIT D x w) {i : Nat} {v : Value} (hv : ev i = some v) (h1 : S.all (fun s => s.1 != i && s.2.1 != i) = true) (h2 : i ≠ c) (h3 : i ≠ cu) (h4 : i ≠ f) : ChA e sz enc B w0 ev S c cu f LF LIT (upd D i true) (upd x i v) w := by
  have hS : ∀ s ∈ S, s.1 ≠ i ∧ s.2.1 ≠ i := fun s hs => by have := List.all_eq_true.1 h1 s hs; simpa using this
  refine ⟨h.bel, h.siz, fun j u hu hd => ?_, fun s hs d1 d2 => ?_, fun d1 d2 => ?_, fun d => ?_⟩
  · by_cases e : j = i
    · subst e; rw [upd_same]; rw [hv] at hu; injection hu
    · rw [upd_ne _ _ e] at hd ⊢; exact h.kn j u hu hd
  · rw [upd_ne _ _ (hS s hs).1] at d1 ⊢; rw [upd_ne _ _ (hS s hs).2] at d2; exact h.stg s hs d1 d2
  · rw [upd_ne _ _ (Ne.symm h2)] at d1 ⊢; rw [upd_ne _ _ (Ne.symm h3)] at d2
    refine ⟨(h.lit d1 d2).1, fun s hs e1 e2 => ?_⟩
    rw [upd_ne _ _ (hS s hs).1] at e1 ⊢; rw [upd_ne _ _ (hS s hs).2] at e2
    exact (h.lit d1 d2).2 s hs e1 e2
  · rw [upd_ne _ _ (Ne.symm h4)] at d ⊢; exact h.fin d
theorem ChA.stage (h : ChA e sz enc B w0 ev S c cu f LF LIT D x w) {i n : Nat} {L : List α} {v : Value} (hi : (i, n, L) ∈ S) (hun : ∀ s ∈ S, s.1 = i → s = (i, n, L)) (hoth : ∀ s ∈ S, s.1 ≠ i → D s.1 = true → s.2.1 = i ∨ D s.2.1 = true) (hev : ev i = none) (hc : i ≠ c) (hf : i ≠ f) (hfd : D f = false)
    (hbel : Below B w w') (ho : OwnA e sz enc B w' v L) (hiv : D c = true → i ≠ cu → D cu = false → OwnA e sz enc B w' (x c) LIT ∧ ∀ k, (x c).ownBlock = some k → v.ownBlock ≠ some k) : ChA e sz enc B w0 ev S c cu f LF LIT (upd D i true) (upd x i v) w' := by
  refine ⟨h.bel.trans hbel, Nat.le_trans h.siz hbel.size, fun j u hu hd => ?_, fun s hs d1 d2 => ?_, fun d1 d2 => ?_, fun d => ?_⟩
  · have e : j ≠ i := fun e => (by rw [e, hev] at hu; cases hu)
    rw [upd_ne _ _ e] at hd ⊢; exact h.kn j u hu hd
  · by_cases e : s.1 = i
    · have := hun s hs e
      subst this
      rw [upd_same]; exact ho
    · rw [upd_ne _ _ e] at d1
      rcases hoth s hs e d1 with q | q
      · rw [q, upd_same] at d2; cases d2
      · have := (upd_fA.1 d2).2
        rw [q] at this; cases this
  · rw [upd_ne _ _ (Ne.symm hc)] at d1 ⊢
    have d3 := upd_fA.1 d2
    obtain ⟨a1, a2⟩ := hiv d1 (Ne.symm d3.1) d3.2
    refine ⟨a1, fun s hs e1 e2 k hk => ?_⟩
    by_cases e : s.1 = i
    · rw [e, upd_same]; exact a2 k hk
    · rw [upd_ne _ _ e] at e1
      rcases hoth s hs e e1 with q | q
      · rw [q, upd_same] at e2; cases e2
      · have := (upd_fA.1 e2).2
        rw [q] at this; cases this
  · rw [upd_ne _ _ (Ne.symm hf)] at d
    rw [hfd] at d; cases d
theorem ChA.call (h : ChA e sz enc B w0 ev S c cu f LF LIT D x w) {v : Value} (h1 : S.all (fun s => s.1 != c && s.2.1 != c) = true) (hev : ev c = none) (h2 : c ≠ f) (hb : Below w.heap.size w w') (ho : OwnA e sz enc w.heap.size w' v LIT) : ChA e sz enc B w0 ev S c cu f LF LIT (upd D c true) (upd x c v) w' := by
  have hS : ∀ s ∈ S, s.1 ≠ c ∧ s.2.1 ≠ c := fun s hs => by have := List.all_eq_true.1 h1 s hs; simpa using this
  have hg := h.grow hb
  refine ⟨hg.bel, hg.siz, fun j u hu hd => ?_, fun s hs d1 d2 => ?_, fun d1 d2 => ?_, fun d => ?_⟩
  · have e : j ≠ c := fun e => (by rw [e, hev] at hu; cases hu)
    rw [upd_ne _ _ e] at hd ⊢; exact h.kn j u hu hd
  · rw [upd_ne _ _ (hS s hs).1] at d1 ⊢; rw [upd_ne _ _ (hS s hs).2] at d2; exact hg.stg s hs d1 d2
  · rw [upd_same]
    refine ⟨ho.low h.siz, fun s hs e1 e2 k hk => ?_⟩
    rw [upd_ne _ _ (hS s hs).1] at e1 ⊢; rw [upd_ne _ _ (hS s hs).2] at e2
    intro hk2
    have q1 := (h.stg s hs e1 e2).lt k hk2
    have q2 := ho.block k hk
    omega
  · rw [upd_ne _ _ (Ne.symm h2)] at d ⊢; exact hg.fin d
theorem ChA.last (h : ChA e sz enc B w0 ev S c cu f LF LIT D x w) {v : Value} {g : Nat} (hv : v = x g) (hg : (g, f, LF) ∈ S) (hDg : D g = true) (hDf : D f = false) (h0 : S.all (fun s => s.1 != f) = true) (hev : ev f = none) (h2 : f ≠ c) (h3 : f ≠ cu) : ChA e sz enc B w0 ev S c cu f LF LIT (upd D f true) (upd x f v) w := by
  have hS : ∀ s ∈ S, s.1 ≠ f := fun s hs => by have := List.all_eq_true.1 h0 s hs; simpa using this
  refine ⟨h.bel, h.siz, fun j u hu hd => ?_, fun s hs d1 d2 => ?_, fun d1 d2 => ?_, fun d => ?_⟩
  · have e : j ≠ f := fun e => (by rw [e, hev] at hu; cases hu)
    rw [upd_ne _ _ e] at hd ⊢; exact h.kn j u hu hd
  · rw [upd_ne _ _ (hS s hs)] at d1 ⊢; exact h.stg s hs d1 (upd_fA.1 d2).2
  · rw [upd_ne _ _ (Ne.symm h2)] at d1 ⊢; rw [upd_ne _ _ (Ne.symm h3)] at d2
    refine ⟨(h.lit d1 d2).1, fun s hs e1 e2 => ?_⟩
    rw [upd_ne _ _ (hS s hs)] at e1 ⊢
    exact (h.lit d1 d2).2 s hs e1 (upd_fA.1 e2).2
  · rw [upd_same, hv]
    exact h.stg _ hg hDg hDf
theorem ChA.app {P : Program} (E : ElA P e sz enc) (h : ChA e sz enc B w0 ev S c cu f LF LIT D x w) {r i n : Nat} {L ys : List α} {u : Value} {o : Oper} {b : Act} (sx ux : Operand) (t t2 : TypeId) (ho : o.op = .call { callee := .builtin .append, args := #[sx, ux], argTypes := #[t, t2] })
    (ht : P.underlying t = some (.slice e)) (ht2 : P.underlying t2 = some (.slice e))
    (hr : (r, i, L) ∈ S) (hi : (i, n, L ++ ys) ∈ S) (hun : ∀ s ∈ S, s.1 = i → s = (i, n, L ++ ys)) (hoth : ∀ s ∈ S, s.1 ≠ i → D s.1 = true → s.2.1 = i ∨ D s.2.1 = true) (hev : ev i = none) (hc : i ≠ c) (hf : i ≠ f) (hfd : D f = false) (hDr : D r = true) (hDi : D i = false)
    (he1 : b.eval sx = x r) (he2 : b.eval ux = u) (hu : SlA enc w u ys) (hlen : L.length + ys.length ≤ 100000000) : o.wp P b w (StepPost (ChA e sz enc B w0 ev S c cu f LF LIT) D x i b o.dst) NoQ := by
  refine wp_appA (P := P) (base := B) E sx ux t t2 ho ht ht2 he1 (h.stg _ hr hDr hDi) he2 hu (by show L.length + ys.length ≤ _; omega) h.siz ?_
  intro v' w' h1 h2 h3 h4
  refine ⟨v', rfl, h.stage hi hun hoth hev hc hf hfd h2 h1 (fun d1 _ d3 => ?_)⟩
  obtain ⟨a1, a2⟩ := h.lit d1 d3
  have a3 := a2 _ hr hDr hDi
  refine ⟨a1.keepK fun k hk => h3 k (a1.lt k hk) (a3 k hk), fun k hk => ?_⟩
  rcases h4 with q | q
  · rw [q]; exact a3 k hk
  · rw [q]
    have := a1.lt k hk
    intro e
    injection e with e
    omega
end
end Go.Proofs.YtbfggncmjdhapaaGreatDoor

namespace Go.Proofs.YtbfggncmjdhapaaGreatDoor
open Go.RowKit
set_option linter.unusedVariables false

/-- a term as cells -/
def tB (t : T2) : List Value := [.int .i64 t.1.1, .int .i64 t.1.2, .int .i64 t.2]
/-- a block of terms -/
def TBb (w : World) (b : Nat) : Prop := ∃ cs fr, w.heap[b]? = some (.cells cs 65 fr)
/-- a slice that reads as terms, in a block of terms -/
def TmB (w : World) (v : Value) (l : List T2) : Prop :=
  ∃ A c, v = .slice A l.length c ∧ ∀ k (h : k < l.length), ∃ b o, A = some ⟨b, o, none⟩ ∧ w.cell? ⟨b, o + k * 3, none⟩ = some (.int .i64 l[k].1.1) ∧ w.cell? ⟨b, o + k * 3 + 1, none⟩ = some (.int .i64 l[k].1.2) ∧ w.cell? ⟨b, o + k * 3 + 2, none⟩ = some (.int .i64 l[k].2) ∧ TBb w b
/-- all blocks but those of the type T are kept -/
def Kp (T : TypeId) (w w' : World) : Prop := ∀ (k : Nat) (cs : Array Value) (t : TypeId) (fr : Nat × Nat), w.heap[k]? = some (Obj.cells cs t fr) → t ≠ T → w'.heap[k]? = w.heap[k]?
theorem heap_ltB {w : World} {k : Nat} {o : Obj} (h : w.heap[k]? = some o) : k < w.heap.size := (Array.getElem?_eq_some_iff.1 h).1
theorem Kp.trans {T : TypeId} {w w1 w2 : World} (h : Kp T w w1) (h2 : Kp T w1 w2) : Kp T w w2 := fun k cs t fr hh hne => by
  have e1 := h k cs t fr hh hne
  exact (h2 k cs t fr (e1.trans hh) hne).trans e1
theorem Kp.below {T : TypeId} {w w' : World} (hb : Below w.heap.size w w') : Kp T w w' := fun k cs t fr h _ => hb.block k (heap_ltB h)
theorem Kp.refl (T : TypeId) (w : World) : Kp T w w := fun _ _ _ _ _ _ => rfl
theorem Kp.set {W : World} {g i : Nat} {T : TypeId} {cs : List Value} (h : Arr W g T cs) (u : Value) : Kp T W (W.setCell ⟨g, i, none⟩ u) := fun k cs' t fr hh hne => Below.heap_setCell W ⟨g, i, none⟩ u k (fun e => by
  subst e
  unfold Arr at h
  rw [h] at hh
  injection hh with hh
  injection hh with _ h2 _
  exact hne h2.symm)
theorem Arr.kp {T : TypeId} {w w' : World} {g : Nat} {t : TypeId} {cs : List Value} (h : Arr w g t cs) (hk : Kp T w w') (hne : t ≠ T) : Arr w' g t cs := (hk g _ t _ h hne).trans h
theorem TmB.keepT {w w' : World} {v : Value} {l : List T2} (h : TmB w v l) (hk : ∀ b, TBb w b → w'.heap[b]? = w.heap[b]?) : TmB w' v l := by
  obtain ⟨A, c, hv, hx⟩ := h
  refine ⟨A, c, hv, fun k hk2 => ?_⟩
  obtain ⟨b, o, hA, h1, h2, h3, h4⟩ := hx k hk2
  have hb := hk b h4
  refine ⟨b, o, hA, ?_, ?_, ?_, ?_⟩
  · rw [World.cell?_of_block (a := ⟨b, o + k * 3, none⟩) hb]; exact h1
  · rw [World.cell?_of_block (a := ⟨b, o + k * 3 + 1, none⟩) hb]; exact h2
  · rw [World.cell?_of_block (a := ⟨b, o + k * 3 + 2, none⟩) hb]; exact h3
  · obtain ⟨cs, fr, h5⟩ := h4
    exact ⟨cs, fr, hb.trans h5⟩
theorem TmB.kp {T : TypeId} {w w' : World} {v : Value} {l : List T2} (h : TmB w v l) (hk : Kp T w w') (hne : 65 ≠ T) : TmB w' v l := h.keepT fun b ⟨cs, fr, hh⟩ => hk b cs _ fr hh hne
theorem TmB.below {w w' : World} {v : Value} {l : List T2} (h : TmB w v l) (hb : Below w.heap.size w w') : TmB w' v l := h.keepT fun b ⟨cs, fr, hh⟩ => hb.block b (heap_ltB hh)
theorem TmB.nil (w : World) : TmB w (.slice none 0 0) [] := ⟨none, 0, rfl, fun k h => (by simp at h)⟩
theorem TmB.at_ {w : World} {A : Option Addr} {n c k : Nat} {l : List T2} (h : TmB w (.slice A n c) l) (hk : k < l.length) :
    ∃ b o, A = some ⟨b, o, none⟩ ∧ n = l.length ∧ w.cell? ⟨b, o + k * 3, none⟩ = some (.int .i64 l[k].1.1) ∧ w.cell? ⟨b, o + k * 3 + 1, none⟩ = some (.int .i64 l[k].1.2) ∧ w.cell? ⟨b, o + k * 3 + 2, none⟩ = some (.int .i64 l[k].2) := by
  obtain ⟨A', c', hv, hx⟩ := h
  injection hv with e1 e2 e3
  subst e1
  obtain ⟨b, o, hA, h1, h2, h3, _⟩ := hx k hk
  exact ⟨b, o, hA, e2, h1, h2, h3⟩
theorem TmB.cells {w : World} {b o n c k : Nat} {l : List T2} (h : TmB w (.slice (some ⟨b, o, none⟩) n c) l) (hk : k < l.length) : w.cell? ⟨b, o + k * 3, none⟩ = some (.int .i64 l[k].1.1) ∧ w.cell? ⟨b, o + k * 3 + 1, none⟩ = some (.int .i64 l[k].1.2) ∧ w.cell? ⟨b, o + k * 3 + 2, none⟩ = some (.int .i64 l[k].2) := by
  obtain ⟨b', o', hA, _, h1, h2, h3⟩ := h.at_ hk
  injection hA with hA
  injection hA with h4 h5
  subst h4 h5
  exact ⟨h1, h2, h3⟩
/-- a slice of the call's own that holds terms -/
abbrev OwnB (base : Nat) (w : World) (v : Value) (l : List T2) : Prop := OwnA 65 3 tB base w v l
theorem tBflat_get : ∀ (l : List T2) (k j : Nat) (h : k < l.length), j < 3 → (l.flatMap tB)[k * 3 + j]? = (tB l[k])[j]? := by
  intro l
  induction l with
  | nil => intro k j h; simp at h
  | cons m l ih =>
    intro k j h hj
    rw [List.flatMap_cons]
    cases k with
    | zero => rw [List.getElem?_append_left (by simp [tB]; omega)]; simp
    | succ k =>
      rw [List.getElem?_append_right (by simp [tB]; omega)]
      have := ih k j (by simpa using h) hj
      rw [show (k + 1) * 3 + j - (tB m).length = k * 3 + j from by simp [tB]; omega, this]
      simp
theorem OwnB.tmB {base : Nat} {w : World} {v : Value} {l : List T2} (h : OwnB base w v l) : TmB w v l := by
  rcases h.2 with ⟨rfl, h0⟩ | ⟨g, cap, cur, rfl, hg, hh, hn, _, hc, ht⟩
  · have : l = [] := List.eq_nil_of_length_eq_zero h0
    subst this
    exact TmB.nil w
  · have key : ∀ k (hk : k < l.length) j u, (tB l[k])[j]? = some u → w.cell? ⟨g, 0 + k * 3 + j, none⟩ = some u := by
      intro k hk j u hu
      have hj : j < 3 := (List.getElem?_eq_some_iff.1 hu).1
      rw [cell_of_row w g _ cur 65 (0, 0) hh, Nat.zero_add]
      have h1 : (cur.toList.take (l.length * 3))[k * 3 + j]? = some u := by rw [ht, tBflat_get l k j hk hj, hu]
      rw [List.getElem?_take, if_pos (by omega)] at h1
      simpa using h1
    exact ⟨_, _, rfl, fun k hk => ⟨g, 0, rfl, key k hk 0 _ rfl, key k hk 1 _ rfl, key k hk 2 _ rfl, _, _, hh⟩⟩
theorem OwnA.typB {α : Type} {e : TypeId} {sz : Nat} {enc : α → List Value} {base : Nat} {w : World} {v : Value} {xs : List α} (h : OwnA e sz enc base w v xs) : ∀ k, v.ownBlock = some k → ∃ cs fr, w.heap[k]? = some (.cells cs e fr) := by
  intro k hk
  rcases h.2 with ⟨rfl, h0⟩ | ⟨g, cap, cur, rfl, _, hh, _⟩
  · cases hk
  · have : g = k := Option.some.inj hk
    subst this
    exact ⟨_, _, hh⟩
theorem OwnA.kp {α : Type} {e : TypeId} {sz : Nat} {enc : α → List Value} {base : Nat} {w w' : World} {v : Value} {xs : List α} {T : TypeId} (h : OwnA e sz enc base w v xs) (hk : Kp T w w') (hne : e ≠ T) : OwnA e sz enc base w' v xs := h.keepK fun k hk2 => by
  obtain ⟨cs, fr, hh⟩ := h.typB k hk2
  exact hk k cs e fr hh hne
theorem OwnA.apartB {α : Type} {e : TypeId} {sz : Nat} {enc : α → List Value} {base : Nat} {w : World} {v : Value} {xs : List α} (h : OwnA e sz enc base w v xs) {g : Nat} {t : TypeId} {cs : List Value} (hg : Arr w g t cs) (hne : e ≠ t) : v.ownBlock ≠ some g := by
  intro hk
  obtain ⟨cs', fr', hh⟩ := h.typB g hk
  unfold Arr at hg
  rw [hg] at hh
  injection hh with hh
  injection hh with _ h2 _
  exact hne h2.symm
abbrev PolB := Option (List T2)
/-- a polynomial as a value -/
def PolyB (w : World) (v : Value) (p : PolB) : Prop := ∃ A c, v = .agg #[.bool p.isNone, .slice A (p.getD []).length c] ∧ TmB w (.slice A (p.getD []).length c) (p.getD [])
theorem PolyB.below {w w' : World} {v : Value} {p : PolB} (h : PolyB w v p) (hb : Below w.heap.size w w') : PolyB w' v p := by
  obtain ⟨A, c, hv, hx⟩ := h
  exact ⟨A, c, hv, hx.below hb⟩
theorem PolyB.kp {T : TypeId} {w w' : World} {v : Value} {p : PolB} (h : PolyB w v p) (hk : Kp T w w') (hne : 65 ≠ T) : PolyB w' v p := by
  obtain ⟨A, c, hv, hx⟩ := h
  exact ⟨A, c, hv, hx.kp hk hne⟩
theorem PolyB.big (w : World) : PolyB w (.agg #[.bool true, .slice none 0 0]) none := ⟨none, 0, rfl, TmB.nil w⟩
theorem PolyB.zero (w : World) : PolyB w (.agg #[.bool false, .slice none 0 0]) (some []) := ⟨none, 0, rfl, TmB.nil w⟩
theorem PolyB.of_tm {w : World} {A : Option Addr} {n c : Nat} {l : List T2} (h : TmB w (.slice A n c) l) : PolyB w (.agg #[.bool false, .slice A n c]) (some l) := by
  obtain ⟨A', c', hv, hx⟩ := id h
  injection hv with e1 e2 e3
  subst e1 e2 e3
  exact ⟨A, c, rfl, h⟩
theorem PolyB.parts {w : World} {v : Value} {p : PolB} (h : PolyB w v p) : ∃ (b : Bool) (A : Option Addr) (n c : Nat), v = .agg #[.bool b, .slice A n c] ∧ b = p.isNone ∧ n = (p.getD []).length := by
  obtain ⟨A, c, hv, _⟩ := h
  exact ⟨_, A, _, c, hv, rfl, rfl⟩
theorem PolyB.tm {w : World} {b : Bool} {A : Option Addr} {n c : Nat} {p : PolB} (h : PolyB w (.agg #[.bool b, .slice A n c]) p) : TmB w (.slice A n c) (p.getD []) := by
  obtain ⟨A', c', hv, hx⟩ := h
  simp only [Value.agg.injEq, Array.mk.injEq, List.cons.injEq, Value.bool.injEq, Value.slice.injEq, and_true] at hv
  obtain ⟨h1, h2, h3, h4⟩ := hv
  subst h2 h3 h4
  exact hx
def okB2 : PolB → Prop
  | none => True
  | some l => Can2 l ∧ Lim2 l
/-- the limits -/
def inB (e : K2) (c : Int) : Prop := (-1125899906842624 ≤ c ∧ c ≤ 1125899906842624) ∧ (-1048576 ≤ e.1 ∧ e.1 ≤ 1048576) ∧ (-1048576 ≤ e.2 ∧ e.2 ≤ 1048576)
/-- the polynomial with the coefficients F, if they are within the limits -/
def GthP (F : K2 → Int) (r : PolB) : Prop := (∃ l, r = some l ∧ Can2 l ∧ Lim2 l ∧ ∀ e, cg2 l e = F e) ∨ (r = none ∧ ∃ e, F e ≠ 0 ∧ ¬ inB e (F e))
def CombB (f : Int → Int → Int) : PolB → PolB → PolB → Prop
  | some p, some q, r => GthP (fun e => f (cg2 p e) (cg2 q e)) r
  | _, _, r => r = none
theorem info_polyB : (Tryz.prog.info? 27).map (·.size) = some 2 := by kernel_rfl
theorem info_termB : (Tryz.prog.info? 65).map (fun i => (i.zero, i.size, i.bytes)) = some (some (.agg #[.int .i64 0, .int .i64 0, .int .i64 0]), 3, 24) := by kernel_rfl
theorem elB : ElA Tryz.prog 65 3 tB where
  ex := by
    obtain ⟨i, hi, hz, hs, hb⟩ := info_parts info_termB
    exact ⟨i, _, 24, hi, hz, hs, hb, rfl, by omega⟩
  pos := by omega
  len := fun x => rfl
  one := fun x q h => by unfold tB at h; simp at h; rcases h with rfl | rfl | rfl <;> rfl
end Go.Proofs.YtbfggncmjdhapaaGreatDoor

namespace Go.Proofs.YtbfggncmjdhapaaGreatDoor
open Go.RowKit
set_option linter.unusedVariables false

theorem bwithin_any (v l : Int) (w : World) (h0 : 0 ≤ l) (h1 : l ≤ 1125899906842624) : Calls Tryz.prog 32 #[.int .i64 v, .int .i64 l] w fun e w' => e = .returned (.bool (wiB v l)) ∧ w = w' := by
  by_cases a : -l ≤ v
  · by_cases b : v ≤ l
    · have hf := Lib.hid (show wiB v l = true from decide_eq_true ⟨a, b⟩)
      go_enter Tryz.func32, Tryz.ntmps32
      go_wp2_with fail
      go_ret
      exact ⟨by rw [hf.out]; rfl, rfl⟩
    · have hf := Lib.hid (show wiB v l = false from decide_eq_false fun h => b h.2)
      go_enter Tryz.func32, Tryz.ntmps32
      go_wp2_with fail
      go_ret
      exact ⟨by rw [hf.out]; rfl, rfl⟩
  · have hf := Lib.hid (show wiB v l = false from decide_eq_false fun h => a h.1)
    go_enter Tryz.func32, Tryz.ntmps32
    go_wp2_with fail
    go_ret
    exact ⟨by rw [hf.out]; rfl, rfl⟩
theorem and25 (n : Int) : bits .and .i64 n 33554431 = n % 33554432 := by
  have h127 : (BitVec.ofInt 64 33554431).toNat = 2 ^ 25 - 1 := by decide
  have key : (BitVec.ofInt 64 n &&& BitVec.ofInt 64 33554431).toNat = (n % ((2 ^ 64 : Nat) : Int)).toNat % 2 ^ 25 := by
    rw [BitVec.toNat_and, BitVec.toNat_ofInt, h127, Nat.and_two_pow_sub_one_eq_mod]
  show IntKind.i64.wrap ((BitVec.ofInt 64 n &&& BitVec.ofInt 64 33554431).toNat : Nat) = n % 33554432
  rw [key, IntKind.wrap_i64]
  omega
theorem info_sumB : (Tryz.prog.info? 72).map (·.size) = some 2 := by kernel_rfl
set_option maxHeartbeats 1000000 in
theorem splus_any (h l v : Int) (w : World) (hh : -1000000000000000000 ≤ h ∧ h ≤ 1000000000000000000) (hl : -1000000000000000000 ≤ l ∧ l ≤ 1000000000000000000) (hv : -9223372036854775808 ≤ v ∧ v ≤ 9223372036854775807) :
    Calls Tryz.prog 36 #[.agg #[.int .i64 h, .int .i64 l], .int .i64 v] w fun e w' => e = .returned (.agg #[.int .i64 (h + v / 33554432), .int .i64 (l + v % 33554432)]) ∧ Below w.heap.size w w' := by
  have hm : 0 ≤ v % 33554432 ∧ v % 33554432 < 33554432 := by omega
  have hb : wrap64 (l + bits .and .i64 v 33554431) = l + v % 33554432 := by rw [and25]; exact IntWalk.wrap64_in _ (by omega)
  have hW : ∀ W, W = (w.alloc (.cells #[.int .i64 h, .int .i64 l] 72)).alloc (.cells #[.int .i64 0, .int .i64 0] 72) → Arr W w.heap.size 72 [.int .i64 h, .int .i64 l] ∧ Arr W (w.heap.size + 1) 72 [.int .i64 0, .int .i64 0] ∧ Below w.heap.size w W := by
    intro W hW
    subst hW
    exact ⟨(Arr.new _ _ [_, _]).alloc _, Arr.newAt (w.alloc _) _ [_, _] _ (by simp), ((Below.refl _ _).alloc (Nat.le_refl _) _).alloc (by simp) _⟩
  go_enter Tryz.func36, Tryz.ntmps36
  go_upto_region 1 with fail
  generalize (w.alloc (.cells #[.int .i64 h, .int .i64 l] 72)).alloc (.cells #[.int .i64 0, .int .i64 0] 72) = w3 at hW ⊢
  obtain ⟨q1, qr, hb3⟩ := hW w3 rfl
  clear hW
  have y0 := q1.cell 0
  have y1 := q1.cell 1
  have f0 := qr.frozen 0
  have f1 := qr.frozen 1
  have r0 := qr.cell 0
  have r1 := qr.cell 1
  have hres := Lib.hid ((qr.set 0 (.int .i64 (h + v / 33554432))).set 1 (.int .i64 (l + v % 33554432)))
  have HB := Lib.hid ((hb3.setCell (p := ⟨w.heap.size + 1, 0, none⟩) (by show w.heap.size ≤ w.heap.size + 1; omega) (.int .i64 (h + v / 33554432))).setCell (p := ⟨w.heap.size + 1, 1, none⟩) (by show w.heap.size ≤ w.heap.size + 1; omega) (.int .i64 (l + v % 33554432)))
  have HQ := Lib.hid hb
  clear q1 qr hb3 hb
  go_wp2_with fail
  rw [HQ.out]
  refine bodyPost_ret (v := .agg #[.int .i64 (h + v / 33554432), .int .i64 (l + v % 33554432)]) (results_c Tryz.results36 _ _ (w.heap.size + 1) 72 _ _ rfl hres.out Tryz.underlying72 rfl info_sumB) rfl ?_
  exact ⟨rfl, HB.out⟩
set_option maxHeartbeats 1000000 in
theorem ssmall_any (h l : Int) (w : World) (hh : -1000000000000000000 ≤ h ∧ h ≤ 1000000000000000000) (hl : 0 ≤ l ∧ l ≤ 1000000000000000000) :
    Calls Tryz.prog 70 #[.agg #[.int .i64 h, .int .i64 l]] w fun e w' => ∃ c, e = .returned (.tuple #[.int .i64 c, .bool (wiB (h * 33554432 + l) 1125899906842624)]) ∧ (wiB (h * 33554432 + l) 1125899906842624 = true → c = h * 33554432 + l) ∧ Below w.heap.size w w' := by
  have hb0 := and25 l
  obtain ⟨u, hu⟩ : ∃ u, u = l / 33554432 := ⟨_, rfl⟩
  obtain ⟨m, hm⟩ : ∃ m, m = l % 33554432 := ⟨_, rfl⟩
  have h1 : 0 ≤ u ∧ u ≤ 1000000000000000000 := by omega
  have h2 : 0 ≤ m ∧ m < 33554432 := by omega
  have h3 : h * 33554432 + l = (h + u) * 33554432 + m := by omega
  have hs : l / 33554432 = u := hu.symm
  rw [← hm] at hb0
  rw [h3]
  have hW : ∀ W, W = w.alloc (.cells #[.int .i64 h, .int .i64 l] 72) → Arr W w.heap.size 72 [.int .i64 h, .int .i64 l] ∧ Below w.heap.size w W := by
    intro W hW
    subst hW
    exact ⟨Arr.new _ _ [_, _], (Below.refl _ _).alloc (Nat.le_refl _) _⟩
  clear h3 hu hm
  obtain ⟨x, hx⟩ : ∃ x, x = h + u := ⟨_, rfl⟩
  rw [← hx]
  have hx2 : IntKind.i64.wrap (h + l / 33554432) = x := by rw [hs, ← hx]; exact IntWalk.i64_in _ (by omega)
  have hx3 : -3000000000000000000 ≤ x ∧ x ≤ 3000000000000000000 := by omega
  have HX := Lib.hid hx
  clear hs hx
  by_cases a : wiB x 67108864 = true
  · have b1 : -67108864 ≤ x ∧ x ≤ 67108864 := of_decide_eq_true a
    go_enter Tryz.func70, Tryz.ntmps70
    go_upto_region 1 with fail
    generalize w.alloc (.cells #[.int .i64 h, .int .i64 l] 72) = w1 at hW ⊢
    obtain ⟨q1, hb1⟩ := hW w1 rfl
    have y0 := q1.cell 0
    have y1 := q1.cell 1
    clear hW
    go_wp2_with fail
    go_quiet (fail)
    have hbd : Below w.heap.size w (w1.drewN nq) := bdrewN hb1 _
    generalize w1.drewN nq = w2 at hbd ⊢
    clear hb1 q1 y0 y1
    go_wp2_with ((with_reducible refine (bwithin_any _ _ _ (by decide) (by decide)).mono ?_); rintro e w' ⟨rfl, rfl⟩)
    go_ret2
    exact ⟨_, rfl, fun _ => rfl, hbd⟩
  · have b1 : ¬ (-67108864 ≤ x ∧ x ≤ 67108864) := fun h => a (decide_eq_true h)
    have a2 : wiB x 67108864 = false := decide_eq_false b1
    have a3 : wiB (x * 33554432 + m) 1125899906842624 = false := decide_eq_false (by omega)
    rw [a3]
    have B1 := Lib.hid b1
    clear a b1 a3
    go_enter Tryz.func70, Tryz.ntmps70
    go_upto_region 1 with fail
    generalize w.alloc (.cells #[.int .i64 h, .int .i64 l] 72) = w1 at hW ⊢
    obtain ⟨q1, hb1⟩ := hW w1 rfl
    have y0 := q1.cell 0
    have y1 := q1.cell 1
    clear hW
    go_wp2_with fail
    go_quiet (fail)
    have hbd : Below w.heap.size w (w1.drewN nq) := bdrewN hb1 _
    generalize w1.drewN nq = w2 at hbd ⊢
    clear hb1 q1 y0 y1
    go_wp2_with ((with_reducible refine (bwithin_any _ _ _ (by decide) (by decide)).mono ?_); rintro e w' ⟨rfl, rfl⟩)
    go_ret2
    exact ⟨_, rfl, fun h => Bool.noConfusion h, hbd⟩
end Go.Proofs.YtbfggncmjdhapaaGreatDoor
