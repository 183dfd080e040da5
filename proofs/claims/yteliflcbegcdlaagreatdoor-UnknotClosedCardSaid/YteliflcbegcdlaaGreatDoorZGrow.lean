/- append onto an empty slice without room: the result is a new row. -/
import Derived.Test.YteliflcbegcdlaaGreatDoorZDsm
import Derived.Deep.RegionLawGrows
import Derived.OneCell
namespace Go.Proofs.YteliflcbegcdlaaGreatDoor
set_option linter.unusedVariables false
open Go.RowKit
theorem step_growI {P : Program} {ops : Array Oper} {o : Oper} {a : Act} {w : World} {K : Act → World → Prop} {Q : Exit → Act → World → Prop} {E : Prop} (hgd : o.guard = none) (s x : Operand) (t : TypeId) (ho : o.op = .call { callee := .builtin .append, args := #[s, x], argTypes := #[t, t] })
    {e : TypeId} {i : TypeInfo} (ht : P.underlying t = some (.slice e)) (hi : P.info? e = some i) (hz : i.zero = some (.int .i64 0)) (hs : i.size = 1) (hby : i.bytes = 8)
    (g : Nat) (hv : a.eval s = .slice (some ⟨g, 0, none⟩) 0 0) {u : Value} {ys : List Int} (hx : a.eval x = u) (hu : Ints w u ys) (hne : 0 < ys.length) (hlen : ys.length ≤ 1000000000)
    (hK : ∀ v' w', OwnI e w.heap.size w' v' ys → Below w.heap.size w w' → K (a.put o.dst v') w') : if Region.wanted o (yielded ops a.tmps) = true then Oper.wp P o a w K Q else E := by
  obtain ⟨A, c, rfl, hc, hcell⟩ := hu
  cases A with
  | none =>
    obtain ⟨b, o, hA, _⟩ := hcell 0 _ (List.getElem?_eq_getElem hne)
    cases hA
  | some ad =>
    have hcells : ∀ j q, (ys.map (Value.int .i64))[j]? = some q → w.cell? (ad.add j) = some q := by
      intro j q hq
      rw [List.getElem?_map] at hq
      cases hy : ys[j]? with
      | none => rw [hy] at hq; cases hq
      | some y =>
        rw [hy] at hq
        injection hq with hq
        obtain ⟨b, o, hA, hc1⟩ := hcell j y hy
        injection hA with hA
        subst hA
        rw [← hq]
        have : (⟨b, o, none⟩ : Addr).add j = ⟨b, o + j, none⟩ := by unfold Addr.add; split <;> simp_all
        rw [this]; exact hc1
    refine step_append_grows hgd s x t ho e i (.int .i64 0) 1 8 ht hi hz hs hby rfl (by decide) (some ⟨g, 0, none⟩) 0 0 [] hv (fun h => by cases h) rfl (fun b _ j u hj => by simp at hj) ad ys.length c (ys.map (Value.int .i64)) hx (by simp) hcells
      (by intro q hq; obtain ⟨y, _, rfl⟩ := List.mem_map.1 hq; rfl) (by omega) (by unfold maxLen; omega) (by omega) ?_
    intro v' w' h1 h2
    refine hK v' w' ?_ ⟨h2.os, h2.tape, h2.output, h2.size, fun k hk => h2.block k hk (by simp)⟩
    unfold OwnI
    simpa using h1
theorem wp_growI {P : Program} {o : Oper} {a : Act} {w : World} {K : Act → World → Prop} {Q : Exit → Act → World → Prop} (hgd : o.guard = none) (s x : Operand) (t : TypeId) (ho : o.op = .call { callee := .builtin .append, args := #[s, x], argTypes := #[t, t] })
    {e : TypeId} {i : TypeInfo} (ht : P.underlying t = some (.slice e)) (hi : P.info? e = some i) (hz : i.zero = some (.int .i64 0)) (hs : i.size = 1) (hby : i.bytes = 8)
    (g : Nat) (hv : a.eval s = .slice (some ⟨g, 0, none⟩) 0 0) {u : Value} {ys : List Int} (hx : a.eval x = u) (hu : Ints w u ys) (hne : 0 < ys.length) (hlen : ys.length ≤ 1000000000)
    (hK : ∀ v' w', OwnI e w.heap.size w' v' ys → Below w.heap.size w w' → K (a.put o.dst v') w') : Oper.wp P o a w K Q := by
  have h := step_growI (ops := #[]) (E := True) (Q := Q) hgd s x t ho ht hi hz hs hby g hv hx hu hne hlen hK
  rwa [if_pos (by simp [Region.wanted, hgd])] at h
theorem ownI_ne {e e' : TypeId} {base : Nat} {w w' : World} {v v' : Value} {xs ys : List Int} (h : OwnI e base w v xs) (h' : OwnI e' w.heap.size w' v' ys) (hne : 0 < ys.length) : v'.ownBlock ≠ v.ownBlock := by
  intro he
  rcases h'.2 with ⟨rfl, h0⟩ | ⟨g, cap, cur, rfl, hg, _⟩
  · omega
  · rcases h.2 with ⟨rfl, h0⟩ | ⟨g', cap', cur', rfl, _, hh, _⟩
    · simp [Value.ownBlock] at he
    · simp [Value.ownBlock] at he
      subst he
      rw [Array.getElem?_eq_none hg] at hh
      cases hh
theorem ownI_arr_ne {e t : TypeId} {base g : Nat} {w : World} {v : Value} {xs : List Int} {cs : List Value} (h : OwnI e base w v xs) (ha : Arr w g t cs) (ht : e ≠ t) : v.ownBlock ≠ some g := by
  intro he
  rcases h.2 with ⟨rfl, h0⟩ | ⟨g', cap', cur', rfl, _, hh, _⟩
  · simp [Value.ownBlock] at he
  · simp [Value.ownBlock] at he
    subst he
    unfold Arr at ha
    rw [ha] at hh
    simp only [Option.some.injEq, Obj.cells.injEq] at hh
    exact ht hh.2.1.symm
theorem OwnI.far {e : TypeId} {base : Nat} {w : World} {v : Value} {xs : List Int} (h : OwnI e base w v xs) {p : Addr} (hp : v.ownBlock ≠ some p.block) (u : Value) : OwnI e base (w.setCell p u) v xs := ownsRow_setCell_other h hp u
theorem OwnI.set {e : TypeId} {base g n c : Nat} {w : World} {xs : List Int} (h : OwnI e base w (.slice (some ⟨g, 0, none⟩) n c) xs) (j : Nat) (y : Int) : OwnI e base (w.setCell ⟨g, j, none⟩ (.int .i64 y)) (.slice (some ⟨g, 0, none⟩) n c) (xs.set j y) := by
  obtain ⟨A, c', hv⟩ := h.form
  injection hv with _ hn _
  subst hn
  have := (World.ownsRow.stored h j (.int .i64 y)).1
  unfold OwnI
  rw [List.length_set, List.map_set]
  exact this
theorem OwnI.form1 {e : TypeId} {base : Nat} {w : World} {v : Value} {xs : List Int} (h : OwnI e base w v xs) (hx : 0 < xs.length) : ∃ g c, v = .slice (some ⟨g, 0, none⟩) xs.length c ∧ base ≤ g ∧ g < w.heap.size := by
  rcases h.2 with ⟨rfl, h0⟩ | ⟨g, cap, cur, rfl, hg, hh, _⟩
  · omega
  · refine ⟨g, cap, rfl, hg, ?_⟩
    rcases Nat.lt_or_ge g w.heap.size with hlt | hge
    · exact hlt
    · rw [Array.getElem?_eq_none hge] at hh; cases hh
theorem OwnI.at_ {e : TypeId} {base g n c : Nat} {w : World} {xs : List Int} (h : OwnI e base w (.slice (some ⟨g, 0, none⟩) n c) xs) {j : Nat} (hj : j < xs.length) : w.cell? ⟨g, j, none⟩ = some (.int .i64 xs[j]) ∧ w.frozen? ⟨g, j, none⟩ = false := by
  constructor
  · obtain ⟨b, o, e1, _, hc⟩ := h.ints.at_ hj
    obtain ⟨rfl, rfl⟩ : g = b ∧ 0 = o := by simpa using e1
    rwa [Nat.zero_add] at hc
  · rcases h.2 with ⟨h0, _⟩ | ⟨g', cap, cur, h0, hg, hh, _⟩
    · cases h0
    · injection h0 with h1 _ _
      injection h1 with h1
      injection h1 with h1 _ _
      subst h1
      exact frozen_of_row w g j _ e hh
theorem cell_far {w : World} {p q : Addr} (h : q.block ≠ p.block) (u : Value) : (w.setCell p u).cell? q = w.cell? q := World.cell?_of_block (Below.heap_setCell w p u q.block h)
end Go.Proofs.YteliflcbegcdlaaGreatDoor
