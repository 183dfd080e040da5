/- append onto a slice of one-cell values that the call itself owns. -/
import Derived.Test.YtcjaloddgilnpaaZOwn
namespace Go.Proofs.Ytcjaloddgilnpaa
set_option linter.unusedVariables false
open Go.RowKit

/-- The value v is a slice that reads as the values vs in the world w. -/
def Vals (w : World) (v : Value) (vs : List Value) : Prop :=
  ∃ A c, v = .slice A vs.length c ∧ vs.length ≤ c ∧ ∀ k x, vs[k]? = some x → ∃ b o, A = some ⟨b, o, none⟩ ∧ w.cell? ⟨b, o + k, none⟩ = some x

section
variable {w w' : World} {v : Value} {vs : List Value}
theorem Vals.keep (h : Vals w v vs) (hk : ∀ b o, b < w.heap.size → w'.cell? ⟨b, o, none⟩ = w.cell? ⟨b, o, none⟩) : Vals w' v vs := by
  obtain ⟨A, c, hv, hc, hx⟩ := h
  refine ⟨A, c, hv, hc, fun k x hkx => ?_⟩
  obtain ⟨b, o, hA, hcell⟩ := hx k x hkx
  exact ⟨b, o, hA, (hk b (o + k) (block_lt_of_cell hcell)).trans hcell⟩
theorem Vals.below (h : Vals w v vs) (hb : Below w.heap.size w w') : Vals w' v vs := h.keep fun _ _ hlt => hb.cell hlt
theorem Vals.alloc (h : Vals w v vs) (o : Obj) : Vals (w.alloc o) v vs := h.below ((Below.refl _ _).alloc (Nat.le_refl _) o)
theorem Vals.at_ {A : Option Addr} {n c k : Nat} (h : Vals w (.slice A n c) vs) (hk : k < vs.length) :
    ∃ b o, A = some ⟨b, o, none⟩ ∧ b < w.heap.size ∧ w.cell? ⟨b, o + k, none⟩ = some vs[k] := by
  obtain ⟨A', c', hv, hc, hx⟩ := h
  injection hv with h1 h2 h3
  subst h1
  obtain ⟨b, o, hA, hcell⟩ := hx k vs[k] (List.getElem?_eq_getElem hk)
  exact ⟨b, o, hA, block_lt_of_cell hcell, hcell⟩
theorem Vals.of_arr {b : Nat} {t : TypeId} (h : Arr w b t vs) : Vals w (.slice (some ⟨b, 0, none⟩) vs.length vs.length) vs := by
  refine ⟨_, _, rfl, Nat.le_refl _, fun k x hk => ⟨b, 0, rfl, ?_⟩⟩
  rw [Nat.zero_add, h.cell]; exact hk
theorem Vals.nil (w : World) : Vals w (.slice none 0 0) [] := ⟨none, 0, rfl, Nat.le_refl _, fun k x h => by simp at h⟩
theorem Vals.one (w : World) (t : TypeId) (x : Value) : Vals (w.alloc (.cells #[x] t)) (.slice (some ⟨w.heap.size, 0, none⟩) 1 1) [x] := Vals.of_arr (vs := [x]) (Arr.new w t [x])
end

/-- v is a slice of the call's own, from block base on, that holds the values vs -/
def OwnV (e : TypeId) (base : Nat) (w : World) (v : Value) (vs : List Value) : Prop := w.ownsRow base e 1 v vs.length vs

section
variable {e : TypeId} {base : Nat} {w w' : World} {v : Value} {vs : List Value}
theorem OwnV.nil (e : TypeId) (base : Nat) (w : World) : OwnV e base w (.slice none 0 0) [] := ⟨rfl, .inl ⟨rfl, rfl⟩⟩
theorem OwnV.form (h : OwnV e base w v vs) : ∃ A c, v = .slice A vs.length c := by
  rcases h.2 with ⟨rfl, h0⟩ | ⟨g, cap, cur, rfl, _⟩
  · exact ⟨none, 0, by rw [h0]⟩
  · exact ⟨_, _, rfl⟩
theorem OwnV.block (h : OwnV e base w v vs) : ∀ k, v.ownBlock = some k → base ≤ k := by
  intro k hk
  rcases h.2 with ⟨rfl, h0⟩ | ⟨g, cap, cur, rfl, hg, _⟩
  · simp [Value.ownBlock] at hk
  · simp [Value.ownBlock] at hk; omega
theorem OwnV.vals (h : OwnV e base w v vs) : Vals w v vs := by
  rcases h.2 with ⟨rfl, h0⟩ | ⟨g, cap, cur, rfl, hg, hh, hn, _, hc, ht⟩
  · have : vs = [] := List.eq_nil_of_length_eq_zero h0
    subst this
    exact Vals.nil w
  · refine ⟨_, _, rfl, hn, fun k x hk => ⟨g, 0, rfl, ?_⟩⟩
    rw [cell_of_row w g _ cur e (0, 0) hh, Nat.zero_add]
    have hk' : k < vs.length := (List.getElem?_eq_some_iff.1 hk).1
    have h1 : (cur.toList.take (vs.length * 1))[k]? = some x := by rw [ht, hk]
    rw [List.getElem?_take, if_pos (by omega)] at h1
    simpa using h1
theorem OwnV.lt (h : OwnV e base w v vs) : ∀ k, v.ownBlock = some k → k < w.heap.size := by
  intro k hk
  rcases h.2 with ⟨rfl, h0⟩ | ⟨g, cap, cur, rfl, hg, hh, _⟩
  · simp [Value.ownBlock] at hk
  · simp [Value.ownBlock] at hk
    subst hk
    rcases Nat.lt_or_ge g w.heap.size with hlt | hge
    · exact hlt
    · rw [Array.getElem?_eq_none hge] at hh; cases hh
theorem OwnV.below {B : Nat} (h : OwnV e base w v vs) (hb : Below B w w') (hB : w.heap.size ≤ B) : OwnV e base w' v vs := by
  have hl := h.lt
  refine ⟨h.1, ?_⟩
  rcases h.2 with h0 | ⟨g, cap, cur, e1, hg, hh, r⟩
  · exact .inl h0
  · refine .inr ⟨g, cap, cur, e1, hg, ?_, r⟩
    have hlt : g < w.heap.size := hl g (by rw [e1]; simp [Value.ownBlock])
    rw [hb.block g (by omega)]; exact hh
theorem OwnV.alloc (h : OwnV e base w v vs) (o : Obj) : OwnV e base (w.alloc o) v vs := h.below ((Below.refl _ _).alloc (Nat.le_refl _) o) (Nat.le_refl _)
theorem OwnV.drew (h : OwnV e base w v vs) : OwnV e base w.drew v vs := h
theorem OwnV.drewN (h : OwnV e base w v vs) (n : Nat) : OwnV e base (w.drewN n) v vs := h

/-- the run of append(v, u...) -/
theorem run_appV {P : Program} {t ty : TypeId} {i : TypeInfo} {z : Value} (ht : P.underlying t = some (.slice e)) (hi : P.info? e = some i) (hz : i.zero = some z) (hs : i.size = 1) (hby : i.bytes ≤ 24) (hzc : z.cells.size = 1)
    (h : OwnV e base w v vs) {u : Value} {ys : List Value} (hu : Vals w u ys) (h1 : ∀ q ∈ ys, q.oneCell' = true) (hlen : vs.length + ys.length ≤ 1000000) (hbase : base ≤ w.heap.size) :
    ∃ v' w', (Builtin.append_ #[t, t] ty #[v, u]).run P w = .ok v' w' ∧ OwnV e base w' v' (vs ++ ys) ∧ Below base w w' ∧ (∀ k, k < w.heap.size → v.ownBlock ≠ some k → w'.heap[k]? = w.heap[k]?) ∧
      (v'.ownBlock = v.ownBlock ∨ v'.ownBlock = some w.heap.size) := by
  obtain ⟨A, c, rfl, hc, hx⟩ := hu
  cases A with
  | none =>
    have hy : ys = [] := by
      cases ys with
      | nil => rfl
      | cons y ys => obtain ⟨b, o, hA, _⟩ := hx 0 y rfl; cases hA
    subst hy
    refine ⟨v, w, ?_, by simpa using h, Below.refl _ _, fun _ _ _ => rfl, .inl rfl⟩
    rcases h.2 with ⟨rfl, h0⟩ | ⟨g, cap, cur, rfl, _, _, hnc, _⟩
    · simp [Builtin.append_, run_underlying ht, sizeOf, typeInfo, hi, Builtin.lenOf, Builtin.firstCells]
    · simp [Builtin.append_, run_underlying ht, sizeOf, typeInfo, hi, Builtin.lenOf, Builtin.firstCells, hnc, storeCells]
  | some ad =>
    have hcells : ∀ j q, ys[j]? = some q → w.cell? (ad.add j) = some q := by
      intro j q hq
      obtain ⟨b, o, hA, hcell⟩ := hx j q hq
      injection hA with hA
      subst hA
      have : (⟨b, o, none⟩ : Addr).add j = ⟨b, o + j, none⟩ := by unfold Addr.add; split <;> simp_all
      rw [this]; exact hcell
    have hbb : (vs.length + ys.length) * i.bytes ≤ 140737488355328 := by
      have := Nat.mul_le_mul hlen hby
      omega
    obtain ⟨v', w', hrun, h2, h3, _, h5⟩ := run_append_own_at (P := P) w base t ty e i z 1 i.bytes ht hi hz hs rfl hzc (by decide) v vs.length vs h ad ys.length c ys (by simp) hcells
      h1 (by unfold maxLen; omega) hbb hbase
    refine ⟨v', w', hrun, ?_, (Below.refl _ _).grown h3 hbase h.block, fun k hk hne => h3.block k hk (fun e => hne e.symm), h5⟩
    unfold OwnV
    rw [List.length_append]
    exact h2
end

section
variable {P : Program} {w : World} {e : TypeId} {base : Nat} {v : Value} {vs : List Value}
theorem wp_appV {o : Oper} {a : Act} {K : Act → World → Prop} {Q : Exit → Act → World → Prop} (s x : Operand) (t : TypeId) (ho : o.op = .call { callee := .builtin .append, args := #[s, x], argTypes := #[t, t] })
    {i : TypeInfo} {z : Value} (ht : P.underlying t = some (.slice e)) (hi : P.info? e = some i) (hz : i.zero = some z) (hs : i.size = 1) (hby : i.bytes ≤ 24) (hzc : z.cells.size = 1)
    (hv : a.eval s = v) (h : OwnV e base w v vs) {u : Value} {ys : List Value} (hx : a.eval x = u) (hu : Vals w u ys) (h1 : ∀ q ∈ ys, q.oneCell' = true) (hlen : vs.length + ys.length ≤ 1000000) (hbase : base ≤ w.heap.size)
    (hK : ∀ v' w', OwnV e base w' v' (vs ++ ys) → Below base w w' → (∀ k, k < w.heap.size → v.ownBlock ≠ some k → w'.heap[k]? = w.heap[k]?) → (v'.ownBlock = v.ownBlock ∨ v'.ownBlock = some w.heap.size) → K (a.put o.dst v') w') : o.wp P a w K Q := by
  obtain ⟨v', w', hrun, h1, h2, h3, h4⟩ := run_appV (P := P) (ty := o.type) ht hi hz hs hby hzc h hu h1 hlen hbase
  unfold Oper.wp execOp
  simp only [ho, resolve, invoke, builtin, Sem.run_bind, Sem.run_pure, Result.andThen_ok, List.map_toArray, List.map_cons, List.map_nil, hv, hx, hrun]
  exact hK v' w' h1 h2 h3 h4
/-- in a plain region, behind 'at_builtin' -/
theorem wpList_appV {ops : Array Oper} {rest : List Oper} {o : Oper} {a : Act} {Q : Exit → Act → World → Prop} (hgd : o.guard = none) (s x : Operand) (t : TypeId) (ho : o.op = .call { callee := .builtin .append, args := #[s, x], argTypes := #[t, t] })
    {i : TypeInfo} {z : Value} (ht : P.underlying t = some (.slice e)) (hi : P.info? e = some i) (hz : i.zero = some z) (hs : i.size = 1) (hby : i.bytes ≤ 24) (hzc : z.cells.size = 1)
    (hv : a.eval s = v) (h : OwnV e base w v vs) {u : Value} {ys : List Value} (hx : a.eval x = u) (hu : Vals w u ys) (h1 : ∀ q ∈ ys, q.oneCell' = true) (hlen : vs.length + ys.length ≤ 1000000) (hbase : base ≤ w.heap.size)
    (hK : ∀ v' w', OwnV e base w' v' (vs ++ ys) → Below base w w' → (∀ k, k < w.heap.size → v.ownBlock ≠ some k → w'.heap[k]? = w.heap[k]?) → (v'.ownBlock = v.ownBlock ∨ v'.ownBlock = some w.heap.size) → wpList P ops Q rest (a.put o.dst v') w') : wpList P ops Q (o :: rest) a w :=
  wpList_plain hgd fun _ hk => wp_appV s x t ho ht hi hz hs hby hzc hv h hx hu h1 hlen hbase fun v' w' h1 h2 h3 h4 => hk _ _ (hK v' w' h1 h2 h3 h4)
end
end Go.Proofs.Ytcjaloddgilnpaa
