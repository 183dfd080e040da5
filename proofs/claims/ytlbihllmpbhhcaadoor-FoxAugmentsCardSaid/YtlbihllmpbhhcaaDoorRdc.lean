/- word.Reduce. -/
import Derived.Test.YtlbihllmpbhhcaaDoorPsh
namespace Go.Proofs.YtlbihllmpbhhcaaDoor
open Go.RowKit
set_option linter.unusedVariables false

theorem run_make_word (n : Nat) (hn : n ≤ 10000000) (W : World) : ∃ cs, (Instr.makeSlice 42 (.int .i64 0) (.int .i64 (n : Int))).run Tryd.prog W = .ok (.slice (some ⟨W.heap.size, 0, none⟩) 0 n) (W.alloc (.cells cs 3)) ∧ cs.size = n := by
  obtain ⟨i, hi, hz, hs, hby⟩ := info_parts info_int
  have h := run_make (P := Tryd.prog) W 42 3 i _ Tryd.underlying42 hi hz .i64 .i64 0 (n : Int) (Int.le_refl _) (by omega) (by rw [hby]; omega) (by omega)
  refine ⟨_, h, ?_⟩
  rw [size_madeCells, hs]; omega
theorem OwnI.made {w : World} {e : TypeId} {base n : Nat} {cs : Array Value} (hb : base ≤ w.heap.size) (hn : n ≤ 10000000) (hc : cs.size = n) : OwnI e base (w.alloc (.cells cs e)) (.slice (some ⟨w.heap.size, 0, none⟩) 0 n) [] :=
  ⟨rfl, .inr ⟨w.heap.size, n, cs, rfl, hb, heap_alloc_new w _, Nat.zero_le _, by unfold maxLen; omega, by omega, by simp⟩⟩
set_option maxHeartbeats 1000000 in
theorem Reduce_any (vw : Value) (ws : List Int) (w : World) (hw : Ints w vw ws) (hl : ws.length ≤ 100000) (hx : ∀ x ∈ ws, -1000000000 ≤ x ∧ x ≤ 1000000000) :
    Calls Tryd.prog 20 #[vw] w fun e w' => ∃ v', e = .returned v' ∧ Ints w' v' (pshL [] ws) ∧ Below w.heap.size w w' := by
  have HW := Lib.hid hw
  obtain ⟨A, c, rfl, _, _⟩ := hw
  obtain ⟨cs, hmk, hcs⟩ := run_make_word ws.length (by omega) w
  have HX := Lib.hid hx
  have hB : Below w.heap.size w (w.alloc (.cells cs 3)) := (Below.refl _ _).alloc (Nat.le_refl _) _
  have HP := Lib.hid (push_any w.heap.size (.slice (some ⟨w.heap.size, 0, none⟩) 0 ws.length) (.slice A ws.length c) [] ws (w.alloc (.cells cs 3)) (OwnI.made (Nat.le_refl _) (by omega) hcs)
    (fun W hk => HW.out.keepW fun b hb => (hk b (by simp; omega) (fun e => by injection e with e; simp at e; omega)).trans (hB.block b hb)) (by simp) (by simp; omega) hx)
  clear hx
  go_enter Tryd.func20, Tryd.ntmps20
  go_wp2_with fail
  refine HP.out.mono ?_
  rintro e w4 ⟨v', rfl, hst⟩
  have HS := Lib.hid hst
  obtain ⟨A4, c4, rfl⟩ := hst.own.form
  clear hst
  go_wp2_with fail
  go_ret
  exact ⟨_, rfl, HS.out.own.ints, hB.trans (HS.out.bel.mono (by simp))⟩
end Go.Proofs.YtlbihllmpbhhcaaDoor
