/- A region that draws its order and builds a slice by appends, one behind the other, with a call that makes another slice beside them: what holds whatever has come up. -/
import Derived.Test.YtlbihllmpbhhcaaDoorFacts
import Derived.Test.YtlbihllmpbhhcaaDoorInw
namespace Go.Proofs.YtlbihllmpbhhcaaDoor
open Go.RowKit
set_option linter.unusedVariables false

/-- S: the stages (operation, the operation that takes it up, the list); c: the call, taken up by cu; f: the last operation, which hands g on -/
structure ChI (B : Nat) (w0 : World) (ev : Nat → Option Value) (S : List (Nat × Nat × List Int)) (c cu f : Nat) (LF INV : List Int) (D : Nat → Bool) (x : Nat → Value) (w : World) : Prop where
  bel : Below B w0 w
  siz : B ≤ w.heap.size
  kn : ∀ i v, ev i = some v → D i = true → x i = v
  stg : ∀ s ∈ S, D s.1 = true → D s.2.1 = false → OwnI 3 B w (x s.1) s.2.2
  inv : D c = true → D cu = false → OwnI 3 B w (x c) INV ∧ ∀ s ∈ S, D s.1 = true → D s.2.1 = false → ∀ k, (x c).ownBlock = some k → (x s.1).ownBlock ≠ some k
  fin : D f = true → OwnI 3 B w (x f) LF
section
variable {B : Nat} {w0 w w' : World} {ev : Nat → Option Value} {S : List (Nat × Nat × List Int)} {c cu f : Nat} {LF INV : List Int} {D : Nat → Bool} {x : Nat → Value}
theorem OwnI.lt {e : TypeId} {base : Nat} {v : Value} {xs : List Int} (h : OwnI e base w v xs) : ∀ k, v.ownBlock = some k → k < w.heap.size := by
  intro k hk
  rcases h.2 with ⟨rfl, h0⟩ | ⟨b, cap, cur, rfl, hg, hh, r⟩
  · simp [Value.ownBlock] at hk
  · simp [Value.ownBlock] at hk
    subst hk
    exact (Array.getElem?_eq_some_iff.1 hh).1
theorem OwnI.keepK {e : TypeId} {base : Nat} {v : Value} {xs : List Int} (h : OwnI e base w v xs) (hk : ∀ k, v.ownBlock = some k → w'.heap[k]? = w.heap[k]?) : OwnI e base w' v xs := by
  refine ⟨h.1, ?_⟩
  rcases h.2 with h0 | ⟨b, cap, cur, rfl, hg, hh, r⟩
  · exact .inl h0
  · exact .inr ⟨b, cap, cur, rfl, hg, (hk b rfl).trans hh, r⟩
theorem ChI.grow (h : ChI B w0 ev S c cu f LF INV D x w) (hb : Below w.heap.size w w') : ChI B w0 ev S c cu f LF INV D x w' :=
  ⟨h.bel.trans (hb.mono h.siz), Nat.le_trans h.siz hb.size, h.kn, fun s hs h1 h2 => (h.stg s hs h1 h2).below hb (Nat.le_refl _), fun h1 h2 => ⟨(h.inv h1 h2).1.below hb (Nat.le_refl _), (h.inv h1 h2).2⟩, fun d => (h.fin d).below hb (Nat.le_refl _)⟩
theorem upd_t {D : Nat → Bool} {i j : Nat} : upd D i true j = true ↔ j = i ∨ D j = true := by
  by_cases e : j = i
  · subst e; simp
  · rw [upd_ne _ _ e]; simp [e]
theorem upd_f {D : Nat → Bool} {i j : Nat} : upd D i true j = false ↔ j ≠ i ∧ D j = false := by
  by_cases e : j = i
  · subst e; simp
  · rw [upd_ne _ _ e]; simp [e]
/-- a value -/
theorem ChI.val (h : ChI B w0 ev S c cu f LF INV D x w) {i : Nat} {v : Value} (hv : ev i = some v) (h1 : S.all (fun s => s.1 != i && s.2.1 != i) = true) (h2 : i ≠ c) (h3 : i ≠ cu) (h4 : i ≠ f) : ChI B w0 ev S c cu f LF INV (upd D i true) (upd x i v) w := by
  have hS : ∀ s ∈ S, s.1 ≠ i ∧ s.2.1 ≠ i := fun s hs => by have := List.all_eq_true.1 h1 s hs; simpa using this
  refine ⟨h.bel, h.siz, fun j u hu hd => ?_, fun s hs d1 d2 => ?_, fun d1 d2 => ?_, fun d => ?_⟩
  · by_cases e : j = i
    · subst e; rw [upd_same]; rw [hv] at hu; injection hu
    · rw [upd_ne _ _ e] at hd ⊢; exact h.kn j u hu hd
  · rw [upd_ne _ _ (hS s hs).1] at d1 ⊢; rw [upd_ne _ _ (hS s hs).2] at d2; exact h.stg s hs d1 d2
  · rw [upd_ne _ _ (Ne.symm h2)] at d1 ⊢; rw [upd_ne _ _ (Ne.symm h3)] at d2
    refine ⟨(h.inv d1 d2).1, fun s hs e1 e2 => ?_⟩
    rw [upd_ne _ _ (hS s hs).1] at e1 ⊢; rw [upd_ne _ _ (hS s hs).2] at e2
    exact (h.inv d1 d2).2 s hs e1 e2
  · rw [upd_ne _ _ (Ne.symm h4)] at d ⊢; exact h.fin d
/-- a stage: none is open now -/
theorem ChI.stage (h : ChI B w0 ev S c cu f LF INV D x w) {i n : Nat} {L : List Int} {v : Value} (hi : (i, n, L) ∈ S) (hun : ∀ s ∈ S, s.1 = i → s = (i, n, L)) (hoth : ∀ s ∈ S, s.1 ≠ i → D s.1 = true → s.2.1 = i ∨ D s.2.1 = true) (hev : ev i = none) (hc : i ≠ c) (hf : i ≠ f) (hfd : D f = false)
    (hbel : Below B w w') (ho : OwnI 3 B w' v L) (hiv : D c = true → i ≠ cu → D cu = false → OwnI 3 B w' (x c) INV ∧ ∀ k, (x c).ownBlock = some k → v.ownBlock ≠ some k) : ChI B w0 ev S c cu f LF INV (upd D i true) (upd x i v) w' := by
  refine ⟨h.bel.trans hbel, Nat.le_trans h.siz hbel.size, fun j u hu hd => ?_, fun s hs d1 d2 => ?_, fun d1 d2 => ?_, fun d => ?_⟩
  · have e : j ≠ i := fun e => (by rw [e, hev] at hu; cases hu)
    rw [upd_ne _ _ e] at hd ⊢; exact h.kn j u hu hd
  · by_cases e : s.1 = i
    · have := hun s hs e
      subst this
      rw [upd_same]; exact ho
    · rw [upd_ne _ _ e] at d1
      rcases hoth s hs e d1 with q | q
      · rw [q, upd_same] at d2; cases d2
      · have := (upd_f.1 d2).2
        rw [q] at this; cases this
  · rw [upd_ne _ _ (Ne.symm hc)] at d1 ⊢
    have d3 := upd_f.1 d2
    obtain ⟨a1, a2⟩ := hiv d1 (Ne.symm d3.1) d3.2
    refine ⟨a1, fun s hs e1 e2 k hk => ?_⟩
    by_cases e : s.1 = i
    · rw [e, upd_same]; exact a2 k hk
    · rw [upd_ne _ _ e] at e1
      rcases hoth s hs e e1 with q | q
      · rw [q, upd_same] at e2; cases e2
      · have := (upd_f.1 e2).2
        rw [q] at this; cases this
  · rw [upd_ne _ _ (Ne.symm hf)] at d
    rw [hfd] at d; cases d
/-- the call -/
theorem ChI.call (h : ChI B w0 ev S c cu f LF INV D x w) {v : Value} (h1 : S.all (fun s => s.1 != c && s.2.1 != c) = true) (hev : ev c = none) (h2 : c ≠ f) (hb : Below w.heap.size w w') (ho : OwnI 3 w.heap.size w' v INV) : ChI B w0 ev S c cu f LF INV (upd D c true) (upd x c v) w' := by
  have hS : ∀ s ∈ S, s.1 ≠ c ∧ s.2.1 ≠ c := fun s hs => by have := List.all_eq_true.1 h1 s hs; simpa using this
  have hg := h.grow hb
  refine ⟨hg.bel, hg.siz, fun j u hu hd => ?_, fun s hs d1 d2 => ?_, fun d1 d2 => ?_, fun d => ?_⟩
  · have e : j ≠ c := fun e => (by rw [e, hev] at hu; cases hu)
    rw [upd_ne _ _ e] at hd ⊢; exact h.kn j u hu hd
  · rw [upd_ne _ _ (hS s hs).1] at d1 ⊢; rw [upd_ne _ _ (hS s hs).2] at d2; exact hg.stg s hs d1 d2
  · rw [upd_same]
    refine ⟨⟨ho.1, ?_⟩, fun s hs e1 e2 k hk => ?_⟩
    · rcases ho.2 with q | ⟨b, cap, cur, e, hb, r⟩
      · exact .inl q
      · exact .inr ⟨b, cap, cur, e, Nat.le_trans h.siz hb, r⟩
    · rw [upd_ne _ _ (hS s hs).1] at e1 ⊢; rw [upd_ne _ _ (hS s hs).2] at e2
      intro hk2
      have q1 := (h.stg s hs e1 e2).lt k hk2
      have q2 := ho.block k hk
      omega
  · rw [upd_ne _ _ (Ne.symm h2)] at d ⊢; exact hg.fin d
/-- the last operation -/
theorem ChI.last (h : ChI B w0 ev S c cu f LF INV D x w) {v : Value} {g : Nat} (hv : v = x g) (hg : (g, f, LF) ∈ S) (hDg : D g = true) (hDf : D f = false) (h0 : S.all (fun s => s.1 != f) = true) (hev : ev f = none) (h2 : f ≠ c) (h3 : f ≠ cu) : ChI B w0 ev S c cu f LF INV (upd D f true) (upd x f v) w := by
  have hS : ∀ s ∈ S, s.1 ≠ f := fun s hs => by have := List.all_eq_true.1 h0 s hs; simpa using this
  refine ⟨h.bel, h.siz, fun j u hu hd => ?_, fun s hs d1 d2 => ?_, fun d1 d2 => ?_, fun d => ?_⟩
  · have e : j ≠ f := fun e => (by rw [e, hev] at hu; cases hu)
    rw [upd_ne _ _ e] at hd ⊢; exact h.kn j u hu hd
  · rw [upd_ne _ _ (hS s hs)] at d1 ⊢; exact h.stg s hs d1 (upd_f.1 d2).2
  · rw [upd_ne _ _ (Ne.symm h2)] at d1 ⊢; rw [upd_ne _ _ (Ne.symm h3)] at d2
    refine ⟨(h.inv d1 d2).1, fun s hs e1 e2 => ?_⟩
    rw [upd_ne _ _ (hS s hs)] at e1 ⊢
    exact (h.inv d1 d2).2 s hs e1 (upd_f.1 e2).2
  · rw [upd_same, hv]
    exact h.stg _ hg hDg hDf
end
theorem append_types {P : Program} {t t2 e ty : TypeId} {v u : Value} {w : World} (ht : P.underlying t = some (.slice e)) (ht2 : P.underlying t2 = some (.slice e)) : (Builtin.append_ #[t, t2] ty #[v, u]).run P w = (Builtin.append_ #[t, t] ty #[v, u]).run P w := by
  unfold Builtin.append_
  cases v <;> simp [run_underlying ht, run_underlying ht2, Sem.run_bind]
/-- the run of append(v, u...), with where the result lies -/
theorem run_appI2 {P : Program} {w : World} {e : TypeId} {base : Nat} {v : Value} {xs : List Int} {t ty : TypeId} {i : TypeInfo} (ht : P.underlying t = some (.slice e)) (hi : P.info? e = some i) (hz : i.zero = some (.int .i64 0)) (hs : i.size = 1) (hby : i.bytes = 8)
    (h : OwnI e base w v xs) {u : Value} {ys : List Int} (hu : Ints w u ys) (hlen : xs.length + ys.length ≤ 1000000000) (hbase : base ≤ w.heap.size) :
    ∃ v' w', (Builtin.append_ #[t, t] ty #[v, u]).run P w = .ok v' w' ∧ OwnI e base w' v' (xs ++ ys) ∧ Below base w w' ∧ (∀ k, k < w.heap.size → v.ownBlock ≠ some k → w'.heap[k]? = w.heap[k]?) ∧ (v'.ownBlock = v.ownBlock ∨ v'.ownBlock = some w.heap.size) := by
  obtain ⟨A, c, rfl, hc, hx⟩ := hu
  cases A with
  | none =>
    have hy : ys = [] := by
      cases ys with
      | nil => rfl
      | cons y ys => obtain ⟨b, o, hA, _⟩ := hx 0 y rfl; cases hA
    subst hy
    refine ⟨v, w, ?_, by simpa using h, Below.refl _ _, fun _ _ _ => rfl, .inl rfl⟩
    rcases h.2 with ⟨rfl, h0⟩ | ⟨g, cap, cur, rfl, _, _, hnc, _⟩
    · simp [Builtin.append_, run_underlying ht, sizeOf, typeInfo, hi, Builtin.lenOf, Builtin.firstCells]
    · simp [Builtin.append_, run_underlying ht, sizeOf, typeInfo, hi, Builtin.lenOf, Builtin.firstCells, hnc, storeCells]
  | some ad =>
    have hcells : ∀ j q, (ys.map (Value.int .i64))[j]? = some q → w.cell? (ad.add j) = some q := by
      intro j q hq
      rw [List.getElem?_map] at hq
      cases hy : ys[j]? with
      | none => rw [hy] at hq; cases hq
      | some y =>
        rw [hy] at hq
        injection hq with hq
        obtain ⟨b, o, hA, hcell⟩ := hx j y hy
        injection hA with hA
        subst hA
        rw [← hq]
        have : (⟨b, o, none⟩ : Addr).add j = ⟨b, o + j, none⟩ := by unfold Addr.add; split <;> simp_all
        rw [this]; exact hcell
    obtain ⟨v', w', hrun, h2, h3, _, h5⟩ := run_append_own_at (P := P) w base t ty e i (.int .i64 0) 1 8 ht hi hz hs hby rfl (by decide) v xs.length (xs.map (Value.int .i64)) h ad ys.length c (ys.map (Value.int .i64)) (by simp) hcells
      (by intro q hq; obtain ⟨y, _, rfl⟩ := List.mem_map.1 hq; rfl) (by unfold maxLen; omega) (by omega) hbase
    refine ⟨v', w', hrun, ?_, (Below.refl _ _).grown h3 hbase h.block, fun k hk hne => h3.block k hk (fun e => hne e.symm), h5⟩
    unfold OwnI
    rw [List.length_append, List.map_append]
    exact h2
/-- append, with where the result lies -/
theorem wp_appI2 {P : Program} {w : World} {e : TypeId} {base : Nat} {v : Value} {xs : List Int} {o : Oper} {a : Act} {K : Act → World → Prop} {Q : Exit → Act → World → Prop} (s x : Operand) (t t2 : TypeId) (ho : o.op = .call { callee := .builtin .append, args := #[s, x], argTypes := #[t, t2] })
    {i : TypeInfo} (ht : P.underlying t = some (.slice e)) (ht2 : P.underlying t2 = some (.slice e)) (hi : P.info? e = some i) (hz : i.zero = some (.int .i64 0)) (hs : i.size = 1) (hby : i.bytes = 8)
    (hv : a.eval s = v) (h : OwnI e base w v xs) {u : Value} {ys : List Int} (hx : a.eval x = u) (hu : Ints w u ys) (hlen : xs.length + ys.length ≤ 1000000000) (hbase : base ≤ w.heap.size)
    (hK : ∀ v' w', OwnI e base w' v' (xs ++ ys) → Below base w w' → (∀ k, k < w.heap.size → v.ownBlock ≠ some k → w'.heap[k]? = w.heap[k]?) → (v'.ownBlock = v.ownBlock ∨ v'.ownBlock = some w.heap.size) → K (a.put o.dst v') w') : o.wp P a w K Q := by
  obtain ⟨v', w', hrun, h1, h2, h3, h4⟩ := run_appI2 (P := P) (ty := o.type) ht hi hz hs hby h hu hlen hbase
  unfold Oper.wp execOp
  simp only [ho, resolve, invoke, builtin, Sem.run_bind, Sem.run_pure, Result.andThen_ok, List.map_toArray, List.map_cons, List.map_nil, hv, hx, (append_types ht ht2).trans hrun]
  exact hK v' w' h1 h2 h3 h4
/-- in a plain region, behind 'at_builtin' -/
theorem wpList_appI2 {P : Program} {w : World} {e : TypeId} {base : Nat} {v : Value} {xs : List Int} {ops : Array Oper} {rest : List Oper} {o : Oper} {a : Act} {Q : Exit → Act → World → Prop} (hgd : o.guard = none) (s x : Operand) (t t2 : TypeId) (ho : o.op = .call { callee := .builtin .append, args := #[s, x], argTypes := #[t, t2] })
    {i : TypeInfo} (ht : P.underlying t = some (.slice e)) (ht2 : P.underlying t2 = some (.slice e)) (hi : P.info? e = some i) (hz : i.zero = some (.int .i64 0)) (hs : i.size = 1) (hby : i.bytes = 8)
    (hv : a.eval s = v) (h : OwnI e base w v xs) {u : Value} {ys : List Int} (hx : a.eval x = u) (hu : Ints w u ys) (hlen : xs.length + ys.length ≤ 1000000000) (hbase : base ≤ w.heap.size)
    (hK : ∀ v' w', OwnI e base w' v' (xs ++ ys) → Below base w w' → (∀ k, k < w.heap.size → v.ownBlock ≠ some k → w'.heap[k]? = w.heap[k]?) → (v'.ownBlock = v.ownBlock ∨ v'.ownBlock = some w.heap.size) → wpList P ops Q rest (a.put o.dst v') w') : wpList P ops Q (o :: rest) a w :=
  wpList_plain hgd fun _ hk => wp_appI2 s x t t2 ho ht ht2 hi hz hs hby hv h hx hu hlen hbase fun v' w' h1 h2 h3 h4 => hk _ _ (hK v' w' h1 h2 h3 h4)
/-- an append in the chain -/
theorem ChI.app {P : Program} {B : Nat} {w0 w : World} {ev : Nat → Option Value} {S : List (Nat × Nat × List Int)} {c cu f : Nat} {LF INV : List Int} {D : Nat → Bool} {x : Nat → Value} (h : ChI B w0 ev S c cu f LF INV D x w) {r i n : Nat} {L ys : List Int} {u : Value} {o : Oper} {b : Act} (sx ux : Operand) (t t2 : TypeId) (ho : o.op = .call { callee := .builtin .append, args := #[sx, ux], argTypes := #[t, t2] })
    {ti : TypeInfo} (ht : P.underlying t = some (.slice 3)) (ht2 : P.underlying t2 = some (.slice 3)) (hti : P.info? 3 = some ti) (hz : ti.zero = some (.int .i64 0)) (hs : ti.size = 1) (hby : ti.bytes = 8)
    (hr : (r, i, L) ∈ S) (hi : (i, n, L ++ ys) ∈ S) (hun : ∀ s ∈ S, s.1 = i → s = (i, n, L ++ ys)) (hoth : ∀ s ∈ S, s.1 ≠ i → D s.1 = true → s.2.1 = i ∨ D s.2.1 = true) (hev : ev i = none) (hc : i ≠ c) (hf : i ≠ f) (hfd : D f = false) (hDr : D r = true) (hDi : D i = false)
    (he1 : b.eval sx = x r) (he2 : b.eval ux = u) (hu : Ints w u ys) (hlen : L.length + ys.length ≤ 1000000) : o.wp P b w (StepPost (ChI B w0 ev S c cu f LF INV) D x i b o.dst) NoQ := by
  refine wp_appI2 (P := P) (e := 3) (base := B) sx ux t t2 ho ht ht2 hti hz hs hby he1 (h.stg _ hr hDr hDi) he2 hu (by show L.length + ys.length ≤ _; omega) h.siz ?_
  intro v' w' h1 h2 h3 h4
  refine ⟨v', rfl, h.stage hi hun hoth hev hc hf hfd h2 h1 (fun d1 _ d3 => ?_)⟩
  obtain ⟨a1, a2⟩ := h.inv d1 d3
  have a3 := a2 _ hr hDr hDi
  refine ⟨a1.keepK fun k hk => h3 k (a1.lt k hk) (a3 k hk), fun k hk => ?_⟩
  rcases h4 with q | q
  · rw [q]; exact a3 k hk
  · rw [q]
    have := a1.lt k hk
    intro e
    injection e with e
    omega
theorem wp_of_call {P : Program} {I : (Nat → Bool) → (Nat → Value) → World → Prop} {D : Nat → Bool} {x : Nat → Value} {i : Nat} {o : Oper} {b : Act} {w : World} {f : FuncId} {args : Array Value} (h : (execOp b.eval o).run P w = .ok (.enter f args) w) (hc : Calls P f args w fun e w' => ∃ v, e = .returned v ∧ I (upd D i true) (upd x i v) w') : o.wp P b w (StepPost I D x i b o.dst) NoQ := by
  unfold Oper.wp; rw [h]
  simp only [Oper.upon]
  refine hc.mono ?_
  rintro e w' ⟨v, rfl, hI⟩
  exact StepPost.mk' hI
end Go.Proofs.YtlbihllmpbhhcaaDoor
