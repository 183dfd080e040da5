/- Lists of grids that came in. -/
import Derived.Test.YteliflcbegcdlaaGreatDoorZRowU
import Derived.Test.YteliflcbegcdlaaGreatDoorZTwo
namespace Go.Proofs.YteliflcbegcdlaaGreatDoor
open Go.ChangeShapes Go.WideShapes Go.ChangeAt Go.RowKit Go.Joins
set_option linter.unusedVariables false
section
variable {H : Type} {enc : TypeId × Value → H} {P : Program} {w : World} {base : Nat} {held : Bool}
theorem addr_none2 (b o j : Nat) : (⟨b, o, none⟩ : Addr).add j = ⟨b, o + j, none⟩ := by
  unfold Addr.add
  by_cases hj : j = 0 <;> simp [hj]
/-- a slice of grids that came in reads as a list -/
theorem gds_of_trod {t e s i : TypeId} {f0 f1 : Field} {fuel : Nat} {v : Value} {x : DataW H × List MemPlace} (ht : P.underlying t = some (.slice e)) (he : P.underlying e = some (.struct #[f0, f1])) (hs : P.underlying s = some (.slice i)) (hi : P.underlying i = some (.int .i64))
    (g0 : f0.type = s ∧ f0.offset = 0) (g1 : f1.type = s ∧ f1.offset = 1) (ce : P.cellsOf e = 2) (cs : P.cellsOf s = 1) (ci : P.cellsOf i = 1)
    (h : DataW.trod enc P w base (fun _ => true) held fuel t [v] = some x) : ∃ gs, Gds w v gs ∧ gs.length ≤ 9223372036854775807 := by
  rcases DataW.trod_slice ht h with ⟨hcs, _⟩ | ⟨a, len, cap, elems, rest, n, _, hcs, _, _, hl, hm, hlen, hel, _, _⟩
  · injection hcs with e1 _
    subst e1
    exact ⟨[], ⟨none, 0, rfl, Nat.le_refl _, fun j q hj => by simp at hj⟩, by simp⟩
  · injection hcs with e1 _
    subst e1
    have hml : (maxLen : Nat) = 9223372036854775807 := by unfold maxLen; rfl
    have each : ∀ k, k < len → ∃ (q : GV) (g : Gd), w.cell? (a.add (k * 2)) = some (sv q.1) ∧ w.cell? ((a.add (k * 2)).add 1) = some (sv q.2) ∧ GvI w q g := by
      intro k hk
      have h1 := hel k hk
      rw [List.getElem?_eq_getElem (by omega), ce, Option.bind_eq_some_iff] at h1
      obtain ⟨cs', hcs, hy⟩ := h1
      obtain ⟨_, hcl, hcc⟩ := World.cells?_some hcs
      obtain ⟨y0, y1, m, _, _, h0, h1⟩ := trod_struct2 he hy
      rw [g0.1, g0.2, cs] at h0
      rw [g1.1, g1.2, cs] at h1
      match cs', hcl with
      | [c0, c1], _ =>
        obtain ⟨X, hX, _⟩ := ints_of_trod hs hi ci h0
        obtain ⟨O, hO, _⟩ := ints_of_trod hs hi ci h1
        obtain ⟨A0, d0, e0, k0, k1⟩ := hX
        obtain ⟨A1, d1, e1, l0, l1⟩ := hO
        have a0 := hcc 0 (by omega)
        have a1 := hcc 1 (by omega)
        simp only [List.getElem?_cons_zero, List.getElem?_cons_succ] at a0 a1
        have z0 : (a.add (k * 2)).add 0 = a.add (k * 2) := by simp [Addr.add]
        rw [z0, e0] at a0
        rw [e1] at a1
        exact ⟨((A0, X.length, d0), (A1, O.length, d1)), (X, O), a0, a1, ⟨A0, d0, rfl, k0, k1⟩, ⟨A1, d1, rfl, l0, l1⟩⟩
    have hex : ∃ f : Nat → GV × Gd, ∀ k, k < len → w.cell? (a.add (k * 2)) = some (sv (f k).1.1) ∧ w.cell? ((a.add (k * 2)).add 1) = some (sv (f k).1.2) ∧ GvI w (f k).1 (f k).2 := by
      have each' : ∀ k, k < len → ∃ p : GV × Gd, w.cell? (a.add (k * 2)) = some (sv p.1.1) ∧ w.cell? ((a.add (k * 2)).add 1) = some (sv p.1.2) ∧ GvI w p.1 p.2 := fun k hk => by
        obtain ⟨q, g, h⟩ := each k hk
        exact ⟨(q, g), h⟩
      refine ⟨fun k => if h : k < len then (each' k h).choose else (((none, 0, 0), (none, 0, 0)), ([], [])), fun k hk => ?_⟩
      simp only [dif_pos hk]
      exact (each' k hk).choose_spec
    obtain ⟨f, hf⟩ := hex
    have hfl : ((List.range len).map fun k => (f k).2).length = len := by simp
    refine ⟨(List.range len).map fun k => (f k).2, ⟨some a, cap, by rw [hfl], by rw [hfl]; exact hl, fun k g hk => ?_⟩, by rw [hfl]; omega⟩
    have hk2 : k < len := by have := (List.getElem?_eq_some_iff.1 hk).1; simpa using this
    obtain ⟨c0, c1, hg⟩ := hf k hk2
    rw [List.getElem?_map, List.getElem?_range hk2] at hk
    injection hk with hk
    subst hk
    obtain ⟨b, o, sp⟩ := a
    have hsp : sp = none := by
      have h0 := (hf 0 (by omega)).1
      rw [Nat.zero_mul] at h0
      simpa [Addr.add] using World.cell?_spot h0
    subst hsp
    rw [addr_none2] at c0 c1
    rw [addr_none2] at c1
    exact ⟨b, o, (f k).1, rfl, c0, c1, hg⟩
end
end Go.Proofs.YteliflcbegcdlaaGreatDoor
