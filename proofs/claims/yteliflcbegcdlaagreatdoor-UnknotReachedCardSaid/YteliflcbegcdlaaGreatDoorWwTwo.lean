/- The law's function two: does a list of grids hold one of size 2? -/
import Derived.Test.YteliflcbegcdlaaGreatDoorWwGso
namespace Go.Proofs.YteliflcbegcdlaaGreatDoor
open Go.RowKit
set_option linter.unusedVariables false
theorem Gds.at_ {w : World} {A : Option Addr} {n c : Nat} {gs : List Gd} (h : Gds w (.slice A n c) gs) {k : Nat} (hk : k < gs.length) :
    ∃ (b o : Nat) (A0 : Option Addr) (n0 c0 : Nat) (A1 : Option Addr) (n1 c1 : Nat), A = some ⟨b, o, none⟩ ∧ b < w.heap.size ∧ w.cell? ⟨b, o + k * 2, none⟩ = some (.slice A0 n0 c0) ∧ w.cell? ⟨b, o + k * 2 + 1, none⟩ = some (.slice A1 n1 c1) ∧ GvI w ((A0, n0, c0), (A1, n1, c1)) gs[k] := by
  obtain ⟨A', c', e, _, hx⟩ := h
  injection e with e1 _ _
  subst e1
  obtain ⟨b, o, ⟨⟨A0, n0, c0⟩, A1, n1, c1⟩, e1, h1, h2, h3⟩ := hx k _ (List.getElem?_eq_getElem hk)
  exact ⟨b, o, A0, n0, c0, A1, n1, c1, e1, block_lt_of_cell h1, h1, h2, h3⟩
theorem Gds.len {w : World} {A : Option Addr} {n c : Nat} {gs : List Gd} (h : Gds w (.slice A n c) gs) : n = gs.length := by
  obtain ⟨A', c', e, _⟩ := h
  injection e
end Go.Proofs.YteliflcbegcdlaaGreatDoor
