/- Facts on memory for regions that draw their order: growth, and which rows lie apart. -/
import Derived.Test.YtgclngoeglopcaaFacts
import Derived.Test.YtgclngoeglopcaaGrow
import Derived.Test.YtgclngoeglopcaaRef2
import Derived.Test.YtgclngoeglopcaaFresh
namespace Go.Proofs.Ytgclngoeglopcaa
open Go.RowKit
set_option linter.unusedVariables false

/-- new memory, and writes to block z alone -/
structure Gro (B : Nat) (w w' : World) (z : Option Nat) : Prop where
  bel : Below B w w'
  keep : ∀ k, k < w.heap.size → z ≠ some k → w'.heap[k]? = w.heap[k]?
theorem Gro.size {B : Nat} {w w' : World} {z : Option Nat} (g : Gro B w w' z) : w.heap.size ≤ w'.heap.size := g.bel.size
theorem Gro.of_below {w w' : World} (h : Below w.heap.size w w') : Gro w.heap.size w w' none := ⟨h, fun k hk _ => h.block k hk⟩
theorem Gro.alloc (w : World) (o : Obj) : Gro w.heap.size w (w.alloc o) none := Gro.of_below ((Below.refl _ _).alloc (Nat.le_refl _) _)
theorem Gro.mono {B C : Nat} {w w' : World} {z : Option Nat} (g : Gro B w w' z) (h : C ≤ B) : Gro C w w' z := ⟨g.bel.mono h, g.keep⟩
theorem Arr.gro {B b : Nat} {w w' : World} {z : Option Nat} {t : TypeId} {cs : List Value} (h : Arr w b t cs) (g : Gro B w w' z) (hz : z ≠ some b) : Arr w' b t cs := (g.keep b h.lt hz).trans h
theorem OwnI.gro {B base : Nat} {e : TypeId} {w w' : World} {v : Value} {xs : List Int} {z : Option Nat} (h : OwnI e base w v xs) (g : Gro B w w' z) (hz : ∀ k, v.ownBlock = some k → z ≠ some k) : OwnI e base w' v xs := by
  refine ⟨h.1, ?_⟩
  rcases h.2 with h0 | ⟨b, cap, cur, rfl, hg, hh, r⟩
  · exact .inl h0
  · refine .inr ⟨b, cap, cur, rfl, hg, ?_, r⟩
    have hlt : b < w.heap.size := by
      rcases Nat.lt_or_ge b w.heap.size with hlt | hge
      · exact hlt
      · rw [Array.getElem?_eq_none hge] at hh; cases hh
    rw [g.keep b hlt (hz b rfl)]; exact hh
theorem OwnI.lt {base : Nat} {e : TypeId} {w : World} {v : Value} {xs : List Int} (h : OwnI e base w v xs) : ∀ k, v.ownBlock = some k → base ≤ k ∧ k < w.heap.size := by
  intro k hk
  rcases h.2 with ⟨rfl, h0⟩ | ⟨b, cap, cur, rfl, hg, hh, r⟩
  · simp [Value.ownBlock] at hk
  · simp [Value.ownBlock] at hk
    subst hk
    rcases Nat.lt_or_ge b w.heap.size with hlt | hge
    · exact ⟨hg, hlt⟩
    · rw [Array.getElem?_eq_none hge] at hh; cases hh

theorem OwnI.intsF {base : Nat} {e : TypeId} {w : World} {v : Value} {xs : List Int} (h : OwnI e base w v xs) : IntsF base w v xs := by
  intro W hW
  refine OwnI.ints (e := e) (base := base) ⟨h.1, ?_⟩
  rcases h.2 with h0 | ⟨b, cap, cur, rfl, hg, hh, r⟩
  · exact .inl h0
  · refine .inr ⟨b, cap, cur, rfl, hg, ?_, r⟩
    rw [hW b hg (h.lt b rfl).2]; exact hh
section
variable {P : Program} {w : World} {e : TypeId} {base : Nat} {v : Value} {xs : List Int}
theorem wp_appG {o : Oper} {a : Act} {K : Act → World → Prop} {Q : Exit → Act → World → Prop} (s x : Operand) (t : TypeId) (ho : o.op = .call { callee := .builtin .append, args := #[s, x], argTypes := #[t, t] })
    {i : TypeInfo} (ht : P.underlying t = some (.slice e)) (hi : P.info? e = some i) (hz : i.zero = some (.int .i64 0)) (hs : i.size = 1) (hby : i.bytes = 8)
    (hv : a.eval s = v) (h : OwnI e base w v xs) {ad : Addr} {c : Nat} {ys : List Int} (hx : a.eval x = .slice (some ad) ys.length c) (hu : Ints w (.slice (some ad) ys.length c) ys) (hlen : xs.length + ys.length ≤ 1000000000) (hbase : base ≤ w.heap.size)
    (hK : ∀ v' w', OwnI e base w' v' (xs ++ ys) → Gro base w w' v.ownBlock → (v'.ownBlock = v.ownBlock ∨ v'.ownBlock = some w.heap.size) → K (a.put o.dst v') w') : o.wp P a w K Q := by
  obtain ⟨A, c', he, hc, hx'⟩ := hu
  injection he with e1 e2 e3
  subst e1
  have hcells : ∀ j q, (ys.map (Value.int .i64))[j]? = some q → w.cell? (ad.add j) = some q := by
    intro j q hq
    rw [List.getElem?_map] at hq
    cases hy : ys[j]? with
    | none => rw [hy] at hq; cases hq
    | some y =>
      rw [hy] at hq
      injection hq with hq
      obtain ⟨b, o, hA, hcell⟩ := hx' j y hy
      injection hA with hA
      subst hA
      rw [← hq]
      have : (⟨b, o, none⟩ : Addr).add j = ⟨b, o + j, none⟩ := by unfold Addr.add; split <;> simp_all
      rw [this]; exact hcell
  obtain ⟨v', w', hrun, h2, h3, _, h5⟩ := run_append_own_at (P := P) w base t o.type e i (.int .i64 0) 1 8 ht hi hz hs hby rfl (by decide) v xs.length (xs.map (Value.int .i64)) h ad ys.length c (ys.map (Value.int .i64)) (by simp) hcells
    (by intro q hq; obtain ⟨y, _, rfl⟩ := List.mem_map.1 hq; rfl) (by unfold maxLen; omega) (by omega) hbase
  unfold Oper.wp execOp
  simp only [ho, resolve, invoke, builtin, Sem.run_bind, Sem.run_pure, Result.andThen_ok, List.map_toArray, List.map_cons, List.map_nil, hv, hx, hrun]
  refine hK v' w' ?_ ⟨(Below.refl _ _).grown h3 hbase h.block, fun k hk hne => h3.block k hk (fun e => hne e.symm)⟩ h5
  unfold OwnI
  rw [List.length_append, List.map_append]
  exact h2
end

/-- the rows of these operations are there -/
def ltF (L : List Nat) (D : Nat → Bool) (x : Nat → Value) (w : World) : Prop := ∀ p ∈ L, D p = true → ∀ k, (x p).ownBlock = some k → k < w.heap.size
/-- the rows of the first operations lie apart from those of the second ones -/
def crF (L M : List Nat) (D : Nat → Bool) (x : Nat → Value) : Prop := ∀ p ∈ L, ∀ q ∈ M, D p = true → D q = true → ∀ k, (x p).ownBlock = some k → (x q).ownBlock ≠ some k
section
variable {L M : List Nat} {D : Nat → Bool} {x : Nat → Value} {w w' : World} {i : Nat} {v : Value}
theorem ltF.upd (h : ltF L D x w) (hs : w.heap.size ≤ w'.heap.size) (hv : ∀ k, v.ownBlock = some k → k < w'.heap.size) : ltF L (upd D i true) (upd x i v) w' := by
  intro p hp hd k hk
  by_cases e : p = i
  · subst e; rw [upd_same] at hk; exact hv k hk
  · rw [upd_ne _ _ e] at hk hd
    exact Nat.lt_of_lt_of_le (h p hp hd k hk) hs
theorem ltF.skip (h : ltF L D x w) (hs : w.heap.size ≤ w'.heap.size) (hi : i ∉ L) : ltF L (Go.Proofs.Ytgclngoeglopcaa.upd D i true) (Go.Proofs.Ytgclngoeglopcaa.upd x i v) w' := by
  intro p hp hd k hk
  have e : p ≠ i := fun e => hi (e ▸ hp)
  rw [upd_ne _ _ e] at hk hd
  exact Nat.lt_of_lt_of_le (h p hp hd k hk) hs
theorem crF.skip (h : crF L M D x) (hi : i ∉ L) (hj : i ∉ M) : crF L M (upd D i true) (upd x i v) := by
  intro p hp q hq hd hd' k hk
  have e : p ≠ i := fun e => hi (e ▸ hp)
  have e' : q ≠ i := fun e => hj (e ▸ hq)
  rw [upd_ne _ _ e] at hk hd
  rw [upd_ne _ _ e'] at hd' ⊢
  exact h p hp q hq hd hd' k hk
theorem crF.left (h : crF L M D x) (hl : ltF M D x w) (hi : i ∉ M) (hv : ∀ k, v.ownBlock = some k → w.heap.size ≤ k ∨ ∃ p ∈ L, D p = true ∧ (x p).ownBlock = some k) : crF L M (upd D i true) (upd x i v) := by
  intro p hp q hq hd hd' k hk
  have e' : q ≠ i := fun e => hi (e ▸ hq)
  rw [upd_ne _ _ e'] at hd' ⊢
  by_cases e : p = i
  · subst e
    rw [upd_same] at hk
    rcases hv k hk with hv | ⟨p', hp', hd2, hk2⟩
    · intro hq2
      have := hl q hq hd' k hq2
      omega
    · exact h p' hp' q hq hd2 hd' k hk2
  · rw [upd_ne _ _ e] at hk hd
    exact h p hp q hq hd hd' k hk
theorem crF.right (h : crF L M D x) (hl : ltF L D x w) (hi : i ∉ L) (hv : ∀ k, v.ownBlock = some k → w.heap.size ≤ k ∨ ∃ p ∈ M, D p = true ∧ (x p).ownBlock = some k) : crF L M (upd D i true) (upd x i v) := by
  intro p hp q hq hd hd' k hk
  have e : p ≠ i := fun e => hi (e ▸ hp)
  rw [upd_ne _ _ e] at hd hk
  by_cases e' : q = i
  · subst e'
    rw [upd_same]
    intro hk'
    rcases hv k hk' with hv | ⟨q', hq', hd2, hk2⟩
    · have := hl p hp hd k hk
      omega
    · exact h p hp q' hq' hd hd2 k hk hk2
  · rw [upd_ne _ _ e'] at hd' ⊢
    exact h p hp q hq hd hd' k hk
end
end Go.Proofs.Ytgclngoeglopcaa
