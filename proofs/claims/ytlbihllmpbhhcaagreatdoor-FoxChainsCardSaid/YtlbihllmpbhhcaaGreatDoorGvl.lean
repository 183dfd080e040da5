/- wirtinger.Valid. -/
import Derived.Test.YtlbihllmpbhhcaaGreatDoorWvl
namespace Go.Proofs.YtlbihllmpbhhcaaGreatDoor
open Go.RowKit
set_option linter.unusedVariables false

/-- words in memory -/
def Wds (w : World) (v : Value) (wss : List (List Int)) : Prop :=
  ∃ A c, v = .slice A wss.length c ∧ ∀ k (h : k < wss.length), ∃ b o vk, A = some ⟨b, o, none⟩ ∧ w.cell? ⟨b, o + k, none⟩ = some vk ∧ Ints w vk wss[k]
theorem Wds.below {w w' : World} {v : Value} {wss : List (List Int)} (h : Wds w v wss) (hb : Below w.heap.size w w') : Wds w' v wss := by
  obtain ⟨A, c, hv, hx⟩ := h
  refine ⟨A, c, hv, fun k hk => ?_⟩
  obtain ⟨b, o, vk, h1, h2, h3⟩ := hx k hk
  exact ⟨b, o, vk, h1, (hb.cell (block_lt_of_cell h2)).trans h2, h3.below hb⟩
theorem Wds.at_ {w : World} {A : Option Addr} {n c k : Nat} {wss : List (List Int)} (h : Wds w (.slice A n c) wss) (hk : k < wss.length) : ∃ b o vk, A = some ⟨b, o, none⟩ ∧ w.cell? ⟨b, o + k, none⟩ = some vk ∧ Ints w vk wss[k] := by
  obtain ⟨A', c', hv, hx⟩ := h
  injection hv with e1 e2 e3
  subst e1
  exact hx k hk
def vldC (gens : Int) (comp : List Int) : Bool := comp.all fun k => decide (0 ≤ k ∧ k < gens)
def vldS (gens : Int) (wss : List (List Int)) : Bool := wss.all fun ws => vldW ws gens
def vldG (gens : Int) (comp : List Int) (wss : List (List Int)) : Bool := decide (0 ≤ gens ∧ gens ≤ 1000 ∧ (comp.length : Int) = gens) && (vldC gens comp && vldS gens wss)
theorem all_snoc {α : Type} {f : α → Bool} {l : List α} {k : Nat} (hk : k < l.length) : (l.take (k + 1)).all f = ((l.take k).all f && f l[k]) := by
  rw [← List.take_append_getElem hk, List.all_append]
  simp
theorem all_bad {α : Type} {f : α → Bool} {l : List α} {k : Nat} (hk : k < l.length) (h : f l[k] = false) : l.all f = false := by
  rw [List.all_eq_false]
  exact ⟨l[k], List.getElem_mem hk, by rw [h]; simp⟩
end Go.Proofs.YtlbihllmpbhhcaaGreatDoor
