/- Small functions of the diagrams: Turn. -/
import Derived.Test.YtcjaloddgilnpaaZBase
import Derived.Test.YtcjaloddgilnpaaChecked
import Derived.IntWalk
import Derived.Deep.LoopGhost
import Derived.Deep.RegionHeld3
import Derived.Deep.DeepCutAuto
namespace Go.Proofs.Ytcjaloddgilnpaa
open Go.RowKit
set_option linter.unusedVariables false

/-- the half-edge k slots further -/
def turnN (h k : Nat) : Nat := h / 4 * 4 + (h % 4 + k) % 4

set_option maxHeartbeats 400000 in
theorem turn_code (h : Nat) (w : World) (hh : h < 1000) :
    Calls Try.prog 74 #[.int .i64 h, .int .i64 (-1)] w fun e w' => e = .returned (.int .i64 (turnN h 3)) ∧ w = w' := by
  have u0 : ¬ ((h : Int) < 0) := by omega
  rcases (by omega : h % 4 = 0 ∨ h % 4 = 1 ∨ h % 4 = 2 ∨ h % 4 = 3) with q | q | q | q
  · have q1 : (h : Int) % 4 = 0 := by omega
    go_enter Try.func74, Try.ntmps74
    go_wp2_with fail
    go_ret
    exact ⟨congrArg (fun z => Ending.returned (Value.int .i64 z)) (by unfold turnN; go_num), rfl⟩
  · have q1 : (h : Int) % 4 = 1 := by omega
    go_enter Try.func74, Try.ntmps74
    go_wp2_with fail
    go_ret
    exact ⟨congrArg (fun z => Ending.returned (Value.int .i64 z)) (by unfold turnN; go_num), rfl⟩
  · have q1 : (h : Int) % 4 = 2 := by omega
    go_enter Try.func74, Try.ntmps74
    go_wp2_with fail
    go_ret
    exact ⟨congrArg (fun z => Ending.returned (Value.int .i64 z)) (by unfold turnN; go_num), rfl⟩
  · have q1 : (h : Int) % 4 = 3 := by omega
    go_enter Try.func74, Try.ntmps74
    go_wp2_with fail
    go_ret
    exact ⟨congrArg (fun z => Ending.returned (Value.int .i64 z)) (by unfold turnN; go_num), rfl⟩
set_option maxHeartbeats 400000 in
theorem turn_ref (h : Nat) (w : World) (hh : h < 1000) :
    Calls Try.prog 64 #[.int .i64 h, .int .i64 (-1)] w fun e w' => e = .returned (.int .i64 (turnN h 3)) ∧ w = w' := by
  have u0 : ¬ ((h : Int) < 0) := by omega
  rcases (by omega : h % 4 = 0 ∨ h % 4 = 1 ∨ h % 4 = 2 ∨ h % 4 = 3) with q | q | q | q
  · have q1 : (h : Int) % 4 = 0 := by omega
    go_enter Try.func64, Try.ntmps64
    go_wp2_with fail
    go_ret
    exact ⟨congrArg (fun z => Ending.returned (Value.int .i64 z)) (by unfold turnN; go_num), rfl⟩
  · have q1 : (h : Int) % 4 = 1 := by omega
    go_enter Try.func64, Try.ntmps64
    go_wp2_with fail
    go_ret
    exact ⟨congrArg (fun z => Ending.returned (Value.int .i64 z)) (by unfold turnN; go_num), rfl⟩
  · have q1 : (h : Int) % 4 = 2 := by omega
    go_enter Try.func64, Try.ntmps64
    go_wp2_with fail
    go_ret
    exact ⟨congrArg (fun z => Ending.returned (Value.int .i64 z)) (by unfold turnN; go_num), rfl⟩
  · have q1 : (h : Int) % 4 = 3 := by omega
    go_enter Try.func64, Try.ntmps64
    go_wp2_with fail
    go_ret
    exact ⟨congrArg (fun z => Ending.returned (Value.int .i64 z)) (by unfold turnN; go_num), rfl⟩
set_option maxHeartbeats 400000 in
theorem turn2_ref (h : Nat) (w : World) (hh : h < 1000) :
    Calls Try.prog 64 #[.int .i64 h, .int .i64 2] w fun e w' => e = .returned (.int .i64 (turnN h 2)) ∧ w = w' := by
  have u0 : ¬ ((h : Int) < 0) := by omega
  rcases (by omega : h % 4 = 0 ∨ h % 4 = 1 ∨ h % 4 = 2 ∨ h % 4 = 3) with q | q | q | q
  · have q1 : (h : Int) % 4 = 0 := by omega
    go_enter Try.func64, Try.ntmps64
    go_wp2_with fail
    go_ret
    exact ⟨congrArg (fun z => Ending.returned (Value.int .i64 z)) (by unfold turnN; go_num), rfl⟩
  · have q1 : (h : Int) % 4 = 1 := by omega
    go_enter Try.func64, Try.ntmps64
    go_wp2_with fail
    go_ret
    exact ⟨congrArg (fun z => Ending.returned (Value.int .i64 z)) (by unfold turnN; go_num), rfl⟩
  · have q1 : (h : Int) % 4 = 2 := by omega
    go_enter Try.func64, Try.ntmps64
    go_wp2_with fail
    go_ret
    exact ⟨congrArg (fun z => Ending.returned (Value.int .i64 z)) (by unfold turnN; go_num), rfl⟩
  · have q1 : (h : Int) % 4 = 3 := by omega
    go_enter Try.func64, Try.ntmps64
    go_wp2_with fail
    go_ret
    exact ⟨congrArg (fun z => Ending.returned (Value.int .i64 z)) (by unfold turnN; go_num), rfl⟩

/-- is a half-edge outgoing? -/
def outB (S : List Int) (h : Nat) : Bool := if h % 4 = 1 then S[h / 4]?.getD 0 == 1 else if h % 4 = 2 then true else if h % 4 = 3 then S[h / 4]?.getD 0 == -1 else false
set_option maxHeartbeats 400000 in
theorem out_ref (vs : Value) (S : List Int) (h : Nat) (w : World) (hS : Ints w vs S) (hh : h / 4 < S.length) (hl : S.length ≤ 250) :
    Calls Try.prog 34 #[vs, .int .i64 h] w fun e w' => e = .returned (.bool (outB S h)) ∧ w = w' := by
  have hS0 := hS
  obtain ⟨A, c, rfl, hc, hx⟩ := hS
  clear hx
  obtain ⟨b, o, rfl, hbl, hcell⟩ := hS0.at_ hh
  have hg : S[h / 4]?.getD 0 = S[h / 4] := by rw [List.getElem?_eq_getElem hh]; rfl
  have hfin := show outB S h = if h % 4 = 1 then S[h / 4] == 1 else if h % 4 = 2 then true else if h % 4 = 3 then S[h / 4] == -1 else false by unfold outB; rw [hg]
  clear hg
  generalize S[h / 4] = x at *
  have u4 : h < 1000 := by omega
  have u1 : ((h : Int) / 4) = ((h / 4 : Nat) : Int) := by omega
  have q1 : (h : Int) % 4 = ((h % 4 : Nat) : Int) := by omega
  generalize h / 4 = k at *
  generalize outB S h = B at *
  have q5 : h % 4 < 4 := Nat.mod_lt _ (by omega)
  generalize h % 4 = j at *
  have u2 : (k : Int) < (S.length : Int) := by omega
  rcases (by omega : j = 0 ∨ j = 1 ∨ j = 2 ∨ j = 3) with q | q | q | q
  all_goals
    subst j
    simp at hfin q1
    subst hfin
    clear q5
    go_enter Try.func34, Try.ntmps34
    go_wp2_with fail
    go_ret
    exact ⟨rfl, rfl⟩

set_option maxHeartbeats 400000 in
theorem out_code (vs vm : Value) (L : Int) (S : List Int) (h : Nat) (w : World) (hS : Ints w vs S) (hh : h / 4 < S.length) (hl : S.length ≤ 250) :
    Calls Try.prog 62 #[.agg #[vs, vm, .int .i64 L], .int .i64 h] w fun e w' => e = .returned (.bool (outB S h)) ∧ Below w.heap.size w w' := by
  have hS0 := hS
  obtain ⟨A, c, rfl, hc, hx⟩ := hS
  clear hx
  obtain ⟨b, o, rfl, hbl, hcell⟩ := hS0.at_ hh
  have hg : S[h / 4]?.getD 0 = S[h / 4] := by rw [List.getElem?_eq_getElem hh]; rfl
  have hfin := show outB S h = if h % 4 = 1 then S[h / 4] == 1 else if h % 4 = 2 then true else if h % 4 = 3 then S[h / 4] == -1 else false by unfold outB; rw [hg]
  clear hg
  generalize S[h / 4] = x at *
  have u4 : h < 1000 := by omega
  have u1 : ((h : Int) / 4) = ((h / 4 : Nat) : Int) := by omega
  have q1 : (h : Int) % 4 = ((h % 4 : Nat) : Int) := by omega
  generalize h / 4 = k at *
  generalize outB S h = B at *
  have q5 : h % 4 < 4 := Nat.mod_lt _ (by omega)
  generalize h % 4 = j at *
  have u2 : (k : Int) < (S.length : Int) := by omega
  have hW : Arr (w.alloc (.cells #[.slice (some ⟨b, o, none⟩) S.length c, vm, .int .i64 L] 24)) w.heap.size 24 [.slice (some ⟨b, o, none⟩) S.length c, vm, .int .i64 L] ∧ Below w.heap.size w (w.alloc (.cells #[.slice (some ⟨b, o, none⟩) S.length c, vm, .int .i64 L] 24)) := ⟨Arr.new w _ _, (Below.refl _ _).alloc (Nat.le_refl _) _⟩
  rcases (by omega : j = 0 ∨ j = 1 ∨ j = 2 ∨ j = 3) with q | q | q | q
  all_goals
    subst j
    simp at hfin q1
    subst hfin
    clear q5
    go_enter Try.func62, Try.ntmps62
    go_upto_region 1 with fail
    generalize (w.alloc (.cells #[.slice (some ⟨b, o, none⟩) S.length c, vm, .int .i64 L] 24)) = w4 at hW ⊢
    obtain ⟨q0, hb4⟩ := hW
    have y0 := q0.cell 0
    have hcell4 := (hb4.cell hbl).trans hcell
    clear q0 hcell
    go_wp2_with fail
    go_ret
    exact ⟨rfl, hb4⟩
end Go.Proofs.Ytcjaloddgilnpaa
