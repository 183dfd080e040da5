/- word.push, Reduce. -/
import Derived.Test.YtnmidhlghhephaaGreatDoorWwPsu
import Derived.Test.YtnmidhlghhephaaGreatDoorWwOwn
import Derived.Test.YtnmidhlghhephaaGreatDoorChecked
import Derived.Deep.LoopGhost
import Derived.Deep.DeepCutAuto
import Derived.Deep.Cut
namespace Go.Proofs.YtnmidhlghhephaaGreatDoor
open Go.RowKit
set_option linter.unusedVariables false
theorem ints_atZ {w : World} {v : Value} {xs : List Int} {k : Nat} (h : Ints w v xs) (hk : k < xs.length) : ∃ b o, (∃ c, v = .slice (some ⟨b, o, none⟩) xs.length c) ∧ b < w.heap.size ∧ w.cell? ⟨b, o + k, none⟩ = some (.int .i64 xs[k]) := by
  obtain ⟨A, c, rfl, _, hx⟩ := h
  obtain ⟨b, o, rfl, hc⟩ := hx k xs[k] (List.getElem?_eq_getElem hk)
  exact ⟨b, o, ⟨c, rfl⟩, block_lt_of_cell hc, hc⟩
theorem take_snocZ {l : List Int} {i : Nat} (h : i < l.length) : l.take (i + 1) = l.take i ++ [l[i]] := by
  rw [List.take_add_one, List.getElem?_eq_getElem h]; rfl
end Go.Proofs.YtnmidhlghhephaaGreatDoor
