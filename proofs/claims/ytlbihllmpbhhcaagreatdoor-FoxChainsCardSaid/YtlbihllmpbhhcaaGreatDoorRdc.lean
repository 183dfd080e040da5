/- word.Reduce. -/
import Derived.Test.YtlbihllmpbhhcaaGreatDoorPsh
namespace Go.Proofs.YtlbihllmpbhhcaaGreatDoor
open Go.RowKit
set_option linter.unusedVariables false

theorem run_make_word (n : Nat) (hn : n ≤ 10000000) (W : World) : ∃ cs, (Instr.makeSlice 38 (.int .i64 0) (.int .i64 (n : Int))).run Tryz.prog W = .ok (.slice (some ⟨W.heap.size, 0, none⟩) 0 n) (W.alloc (.cells cs 3)) ∧ cs.size = n := by
  obtain ⟨i, hi, hz, hs, hby⟩ := info_parts info_int
  have h := run_make (P := Tryz.prog) W 38 3 i _ Tryz.underlying38 hi hz .i64 .i64 0 (n : Int) (Int.le_refl _) (by omega) (by rw [hby]; omega) (by omega)
  refine ⟨_, h, ?_⟩
  rw [size_madeCells, hs]; omega
theorem OwnI.made {w : World} {e : TypeId} {base n : Nat} {cs : Array Value} (hb : base ≤ w.heap.size) (hn : n ≤ 10000000) (hc : cs.size = n) : OwnI e base (w.alloc (.cells cs e)) (.slice (some ⟨w.heap.size, 0, none⟩) 0 n) [] :=
  ⟨rfl, .inr ⟨w.heap.size, n, cs, rfl, hb, heap_alloc_new w _, Nat.zero_le _, by unfold maxLen; omega, by omega, by simp⟩⟩
end Go.Proofs.YtlbihllmpbhhcaaGreatDoor
