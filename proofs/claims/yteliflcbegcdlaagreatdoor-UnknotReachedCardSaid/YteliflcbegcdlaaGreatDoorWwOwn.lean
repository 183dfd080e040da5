/- append onto a slice of integers that the call itself owns: laws in the words of this seat. -/
import Derived.Test.YteliflcbegcdlaaGreatDoorWwBase
import Derived.Maps.AppendAt
import Derived.Deep.AppendLies
import Derived.RegionTactic
import Derived.OwnWalk
import Derived.Deep.RegionLaw
namespace Go.Proofs.YteliflcbegcdlaaGreatDoor
set_option linter.unusedVariables false
open Go.RowKit
/-- v is a slice of the call's own, from block base on, that holds the integers xs -/
def OwnI (e : TypeId) (base : Nat) (w : World) (v : Value) (xs : List Int) : Prop := w.ownsRow base e 1 v xs.length (xs.map (Value.int .i64))
section
variable {e : TypeId} {base : Nat} {w w' : World} {v : Value} {xs : List Int}
theorem OwnI.nil (e : TypeId) (base : Nat) (w : World) : OwnI e base w (.slice none 0 0) [] := ⟨rfl, .inl ⟨rfl, rfl⟩⟩
theorem OwnI.form (h : OwnI e base w v xs) : ∃ A c, v = .slice A xs.length c := by
  rcases h.2 with ⟨rfl, h0⟩ | ⟨g, cap, cur, rfl, _⟩
  · exact ⟨none, 0, by rw [h0]⟩
  · exact ⟨_, _, rfl⟩
theorem OwnI.block (h : OwnI e base w v xs) : ∀ k, v.ownBlock = some k → base ≤ k := by
  intro k hk
  rcases h.2 with ⟨rfl, h0⟩ | ⟨g, cap, cur, rfl, hg, _⟩
  · simp [Value.ownBlock] at hk
  · simp [Value.ownBlock] at hk; omega
theorem OwnI.ints (h : OwnI e base w v xs) : Ints w v xs := by
  rcases h.2 with ⟨rfl, h0⟩ | ⟨g, cap, cur, rfl, hg, hh, hn, _, hc, ht⟩
  · have : xs = [] := List.eq_nil_of_length_eq_zero h0
    subst this
    exact Ints.nil w
  · refine ⟨_, _, rfl, hn, fun k x hk => ⟨g, 0, rfl, ?_⟩⟩
    rw [cell_of_row w g _ cur e (0, 0) hh, Nat.zero_add]
    have hk' : k < xs.length := (List.getElem?_eq_some_iff.1 hk).1
    have h1 : (cur.toList.take (xs.length * 1))[k]? = some (.int .i64 x) := by rw [ht, List.getElem?_map, hk]; rfl
    rw [List.getElem?_take, if_pos (by omega)] at h1
    simpa using h1
theorem OwnI.below {B : Nat} (h : OwnI e base w v xs) (hb : Below B w w') (hB : w.heap.size ≤ B) : OwnI e base w' v xs := by
  refine ⟨h.1, ?_⟩
  rcases h.2 with h0 | ⟨g, cap, cur, e1, hg, hh, r⟩
  · exact .inl h0
  · refine .inr ⟨g, cap, cur, e1, hg, ?_, r⟩
    have hlt : g < w.heap.size := by
      rcases Nat.lt_or_ge g w.heap.size with hlt | hge
      · exact hlt
      · rw [Array.getElem?_eq_none hge] at hh; cases hh
    rw [hb.block g (by omega)]; exact hh
theorem OwnI.alloc (h : OwnI e base w v xs) (o : Obj) : OwnI e base (w.alloc o) v xs := h.below ((Below.refl _ _).alloc (Nat.le_refl _) o) (Nat.le_refl _)
theorem OwnI.drew (h : OwnI e base w v xs) : OwnI e base w.drew v xs := h
theorem OwnI.drewN (h : OwnI e base w v xs) (n : Nat) : OwnI e base (w.drewN n) v xs := h
/-- the run of append(v, u...) -/
theorem run_appI {P : Program} {t ty : TypeId} {i : TypeInfo} (ht : P.underlying t = some (.slice e)) (hi : P.info? e = some i) (hz : i.zero = some (.int .i64 0)) (hs : i.size = 1) (hby : i.bytes = 8)
    (h : OwnI e base w v xs) {u : Value} {ys : List Int} (hu : Ints w u ys) (hlen : xs.length + ys.length ≤ 1000000000) (hbase : base ≤ w.heap.size) :
    ∃ v' w', (Builtin.append_ #[t, t] ty #[v, u]).run P w = .ok v' w' ∧ OwnI e base w' v' (xs ++ ys) ∧ Below base w w' ∧ (∀ k, k < w.heap.size → v.ownBlock ≠ some k → w'.heap[k]? = w.heap[k]?) := by
  obtain ⟨A, c, rfl, hc, hx⟩ := hu
  cases A with
  | none =>
    have hy : ys = [] := by
      cases ys with
      | nil => rfl
      | cons y ys => obtain ⟨b, o, hA, _⟩ := hx 0 y rfl; cases hA
    subst hy
    refine ⟨v, w, ?_, by simpa using h, Below.refl _ _, fun _ _ _ => rfl⟩
    rcases h.2 with ⟨rfl, h0⟩ | ⟨g, cap, cur, rfl, _, _, hnc, _⟩
    · simp [Builtin.append_, run_underlying ht, sizeOf, typeInfo, hi, Builtin.lenOf, Builtin.firstCells]
    · simp [Builtin.append_, run_underlying ht, sizeOf, typeInfo, hi, Builtin.lenOf, Builtin.firstCells, hnc, storeCells]
  | some ad =>
    have hcells : ∀ j q, (ys.map (Value.int .i64))[j]? = some q → w.cell? (ad.add j) = some q := by
      intro j q hq
      rw [List.getElem?_map] at hq
      cases hy : ys[j]? with
      | none => rw [hy] at hq; cases hq
      | some y =>
        rw [hy] at hq
        injection hq with hq
        obtain ⟨b, o, hA, hcell⟩ := hx j y hy
        injection hA with hA
        subst hA
        rw [← hq]
        have : (⟨b, o, none⟩ : Addr).add j = ⟨b, o + j, none⟩ := by unfold Addr.add; split <;> simp_all
        rw [this]; exact hcell
    obtain ⟨v', w', hrun, h2, h3, _, _⟩ := run_append_own_at (P := P) w base t ty e i (.int .i64 0) 1 8 ht hi hz hs hby rfl (by decide) v xs.length (xs.map (Value.int .i64)) h ad ys.length c (ys.map (Value.int .i64)) (by simp) hcells
      (by intro q hq; obtain ⟨y, _, rfl⟩ := List.mem_map.1 hq; rfl) (by unfold maxLen; omega) (by omega) hbase
    refine ⟨v', w', hrun, ?_, (Below.refl _ _).grown h3 hbase h.block, fun k hk hne => h3.block k hk (fun e => hne e.symm)⟩
    unfold OwnI
    rw [List.length_append, List.map_append]
    exact h2
end
section
variable {P : Program} {w : World} {e : TypeId} {base : Nat} {v : Value} {xs : List Int}
theorem wp_appI {o : Oper} {a : Act} {K : Act → World → Prop} {Q : Exit → Act → World → Prop} (s x : Operand) (t : TypeId) (ho : o.op = .call { callee := .builtin .append, args := #[s, x], argTypes := #[t, t] })
    {i : TypeInfo} (ht : P.underlying t = some (.slice e)) (hi : P.info? e = some i) (hz : i.zero = some (.int .i64 0)) (hs : i.size = 1) (hby : i.bytes = 8)
    (hv : a.eval s = v) (h : OwnI e base w v xs) {u : Value} {ys : List Int} (hx : a.eval x = u) (hu : Ints w u ys) (hlen : xs.length + ys.length ≤ 1000000000) (hbase : base ≤ w.heap.size)
    (hK : ∀ v' w', OwnI e base w' v' (xs ++ ys) → Below base w w' → (∀ k, k < w.heap.size → v.ownBlock ≠ some k → w'.heap[k]? = w.heap[k]?) → K (a.put o.dst v') w') : o.wp P a w K Q := by
  obtain ⟨v', w', hrun, h1, h2, h3⟩ := run_appI (P := P) (ty := o.type) ht hi hz hs hby h hu hlen hbase
  unfold Oper.wp execOp
  simp only [ho, resolve, invoke, builtin, Sem.run_bind, Sem.run_pure, Result.andThen_ok, List.map_toArray, List.map_cons, List.map_nil, hv, hx, hrun]
  exact hK v' w' h1 h2 h3
/-- in a plain region, behind 'at_builtin' -/
theorem wpList_appI {ops : Array Oper} {rest : List Oper} {o : Oper} {a : Act} {Q : Exit → Act → World → Prop} (hgd : o.guard = none) (s x : Operand) (t : TypeId) (ho : o.op = .call { callee := .builtin .append, args := #[s, x], argTypes := #[t, t] })
    {i : TypeInfo} (ht : P.underlying t = some (.slice e)) (hi : P.info? e = some i) (hz : i.zero = some (.int .i64 0)) (hs : i.size = 1) (hby : i.bytes = 8)
    (hv : a.eval s = v) (h : OwnI e base w v xs) {u : Value} {ys : List Int} (hx : a.eval x = u) (hu : Ints w u ys) (hlen : xs.length + ys.length ≤ 1000000000) (hbase : base ≤ w.heap.size)
    (hK : ∀ v' w', OwnI e base w' v' (xs ++ ys) → Below base w w' → (∀ k, k < w.heap.size → v.ownBlock ≠ some k → w'.heap[k]? = w.heap[k]?) → wpList P ops Q rest (a.put o.dst v') w') : wpList P ops Q (o :: rest) a w :=
  wpList_plain hgd fun _ hk => wp_appI s x t ho ht hi hz hs hby hv h hx hu hlen hbase fun v' w' h1 h2 h3 => hk _ _ (hK v' w' h1 h2 h3)
/-- in a region that draws its order -/
theorem step_appI {ops : Array Oper} {o : Oper} {a : Act} {K : Act → World → Prop} {Q : Exit → Act → World → Prop} {E : Prop} (hgd : o.guard = none) (s x : Operand) (t : TypeId) (ho : o.op = .call { callee := .builtin .append, args := #[s, x], argTypes := #[t, t] })
    {i : TypeInfo} (ht : P.underlying t = some (.slice e)) (hi : P.info? e = some i) (hz : i.zero = some (.int .i64 0)) (hs : i.size = 1) (hby : i.bytes = 8)
    (hv : a.eval s = v) (h : OwnI e base w v xs) {u : Value} {ys : List Int} (hx : a.eval x = u) (hu : Ints w u ys) (hlen : xs.length + ys.length ≤ 1000000000) (hbase : base ≤ w.heap.size)
    (hK : ∀ v' w', OwnI e base w' v' (xs ++ ys) → Below base w w' → (∀ k, k < w.heap.size → v.ownBlock ≠ some k → w'.heap[k]? = w.heap[k]?) → K (a.put o.dst v') w') : if Region.wanted o (yielded ops a.tmps) = true then Oper.wp P o a w K Q else E := by
  have hw : Region.wanted o (yielded ops a.tmps) = true := by simp [Region.wanted, hgd]
  rw [if_pos hw]
  exact wp_appI s x t ho ht hi hz hs hby hv h hx hu hlen hbase hK
end
theorem OwnI.emptyAt {w : World} {e : TypeId} {base g : Nat} (hb : base ≤ g) (hg : w.heap[g]? = some (.cells #[] e (0, 0))) : OwnI e base w (.slice (some ⟨g, 0, none⟩) 0 0) [] :=
  ⟨rfl, .inr ⟨g, 0, #[], rfl, hb, hg, Nat.le_refl _, by unfold maxLen; omega, rfl, rfl⟩⟩
/-- a part of a slice reads as the part of the list -/
theorem Ints.sub {w : World} {A : Option Addr} {n c lo hi : Nat} {xs : List Int} (h : Ints w (.slice A n c) xs) (h1 : lo ≤ hi) (h2 : hi ≤ xs.length) (c' : Nat) (hc : hi - lo ≤ c') (A' : Option Addr) (hA : lo < hi → A' = A.map (·.add lo)) :
    Ints w (.slice A' (hi - lo) c') ((xs.take hi).drop lo) := by
  obtain ⟨A0, c0, hv, hcap, hx⟩ := h
  injection hv with e1 e2 e3
  subst e1
  have hlen : ((xs.take hi).drop lo).length = hi - lo := by simp; omega
  refine ⟨A', c', by rw [hlen], by omega, fun k x hk => ?_⟩
  have hk' : k < hi - lo := by have := (List.getElem?_eq_some_iff.1 hk).1; omega
  rw [List.getElem?_drop, List.getElem?_take, if_pos (by omega)] at hk
  obtain ⟨b, o, hA0, hcell⟩ := hx (lo + k) x hk
  subst hA0
  refine ⟨b, o + lo, ?_, by rw [Nat.add_assoc]; exact hcell⟩
  rw [hA (by omega)]
  simp only [Option.map_some, Addr.add]
  split <;> simp_all
end Go.Proofs.YteliflcbegcdlaaGreatDoor
