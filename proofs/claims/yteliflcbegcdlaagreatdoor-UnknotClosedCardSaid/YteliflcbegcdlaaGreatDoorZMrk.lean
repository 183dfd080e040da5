/- The marks that ranges over functions leave among the deferred calls. -/
import Derived.Test.YteliflcbegcdlaaGreatDoorZTel
namespace Go.Proofs.YteliflcbegcdlaaGreatDoor
open Go.RowKit
set_option linter.unusedVariables false
attribute [local go_sem] Oper.semAt_some
/-- the mrkD that a range over a function leaves among the deferred calls -/
def mrkD (D : Nat) : Deferred := { target := .collected D, args := #[] }
/-- the blocks of the marks -/
def MkD (N : Nat) (Ds : List Nat) (W : World) : Prop := Ds.Nodup ∧ ∀ D ∈ Ds, N ≤ D ∧ W.heap[D]? = some (.deferred (some []))
theorem MkD.lt {N : Nat} {Ds : List Nat} {W : World} (h : MkD N Ds W) : ∀ D ∈ Ds, D < W.heap.size := fun D hD => (Array.getElem?_eq_some_iff.1 (h.2 D hD).2).1
theorem MkD.keep {N : Nat} {Ds : List Nat} {W W' : World} (h : MkD N Ds W) (k : ∀ D ∈ Ds, W'.heap[D]? = W.heap[D]?) : MkD N Ds W' := ⟨h.1, fun D hD => ⟨(h.2 D hD).1, (k D hD).trans (h.2 D hD).2⟩⟩
theorem leaves_mrkD {F : Fence} {n : Nat} {P : Program} {fn : Func} {tmps : Array Value} {R : Ending → World → Prop} {N : Nat} (J : World → Prop)
    (hJ : ∀ W D, N ≤ D → J W → W.heap[D]? = some (.deferred (some [])) → J (W.putObj D (.deferred none)))
    (hR : ∀ W, J W → LeavesInM F n P fn tmps R [] .returning W) : ∀ (Ds : List Nat) (W : World), MkD N Ds W → J W → LeavesInM F n P fn tmps R (Ds.map mrkD) .returning W
  | [], W, _, h => hR W h
  | D :: Ds, W, hm, h => by
    have hD := hm.2 D (List.mem_cons_self ..)
    have hn := List.nodup_cons.1 hm.1
    refine ⟨by simp, .inl ⟨D, _, rfl, run_takeDeferred hD.2, leaves_mrkD J hJ hR Ds _ ⟨hn.2, fun E hE => ?_⟩ (hJ W D hD.1 h hD.2)⟩⟩
    have hE2 := hm.2 E (List.mem_cons_of_mem _ hE)
    exact ⟨hE2.1, (World.putObj_heap_other (fun e => hn.1 (by first | exact e ▸ hE | exact e.symm ▸ hE))).trans hE2.2⟩
end Go.Proofs.YteliflcbegcdlaaGreatDoor
