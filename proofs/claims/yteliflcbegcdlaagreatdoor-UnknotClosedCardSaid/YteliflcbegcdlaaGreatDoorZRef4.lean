/- The reference's removable. -/
import Derived.Test.YteliflcbegcdlaaGreatDoorZRef1
import Derived.Deep.DeepCutAuto
import Derived.BigGuardPart
import Derived.Deep.RegionWith
namespace Go.Proofs.YteliflcbegcdlaaGreatDoor
open Go.RowKit
set_option linter.unusedVariables false
def colIx (l : List Int) (y : Int) : Int := if y ∈ l then (l.idxOf y : Int) else -1
theorem column_ix (vx : Value) (X : List Int) (y : Int) (w : World) (hX : Ints w vx X) (hl : X.length ≤ 1000) :
    Calls Tryz.prog 22 #[vx, .int .i64 y] w fun e w' => e = .returned (.int .i64 (colIx X y)) ∧ w' = w := (column_any vx X y w hX hl).mono fun _ _ ⟨h1, h2⟩ => ⟨h1, h2.symm⟩
def remB (X O : List Int) (x o : Int) : Bool := if X.length < 3 ∨ (x - o ≠ 1 ∧ o - x ≠ 1) then false else (colIx O x != colIx X o)
set_option maxHeartbeats 1000000 in
theorem removable_any (vx vo : Value) (X O : List Int) (a : Nat) (w : World) (hX : Ints w vx X) (hO : Ints w vo O) (hl : X.length ≤ 1000) (hl' : O.length ≤ 1000) (ha : a < X.length) (hb : a < O.length) (hx : -1000 ≤ X[a] ∧ X[a] ≤ 1000) (ho : -1000 ≤ O[a] ∧ O[a] ≤ 1000) :
    Calls Tryz.prog 85 #[.agg #[vx, vo], .int .i64 a] w fun e w' => e = .returned (.bool (remB X O X[a] O[a])) ∧ Below w.heap.size w w' := by
  have hX0 := hX
  have hO0 := hO
  obtain ⟨A, c, rfl, hc, hh⟩ := hX
  obtain ⟨A', c', rfl, hc', hh'⟩ := hO
  clear hh hh'
  obtain ⟨b1, o1, rfl, hlt, c1⟩ := hX0.at_ ha
  obtain ⟨b2, o2, rfl, hlt', c2⟩ := hO0.at_ hb
  generalize X[a] = x at *
  generalize O[a] = o at *
  go_enter Tryz.func85, Tryz.ntmps85
  go_upto_region 1 with fail
  go_cut [5, 6] (fun s5 s6 wx => s5 = .int .i64 x ∧ s6 = .int .i64 o ∧ Arr wx w.heap.size 24 [.slice (some ⟨b1, o1, none⟩) X.length c, .slice (some ⟨b2, o2, none⟩) O.length c'] ∧ Below w.heap.size w wx)
  case first =>
    go_quiet (fail)
    go_wp2_with fail
    go_meet
    exact ⟨rfl, rfl, (Arr.new w _ [_, _]).drewN _, bdrewN ((Below.refl _ _).alloc (Nat.le_refl _) _) _⟩
  case rest =>
    clear c1 c2
    obtain ⟨rfl, rfl, harr, hbx⟩ := hcut
    have y0 := harr.cell 0
    have y1 := harr.cell 1
    by_cases t1 : X.length < 3
    · have hfin := Lib.hid (show remB X O x o = false by unfold remB; rw [if_pos (.inl t1)])
      go_wp2_with fail
      go_ret
      exact ⟨by rw [hfin.out]; rfl, hbx⟩
    have u1 : decide ((X.length : Int) < 3) = false := by simp; omega
    by_cases t2 : x - o = 1
    · have d2 : (x - o != 1) = false := by simp [t2]
      have hfin := Lib.hid (show remB X O x o = (colIx O x != colIx X o) by unfold remB; rw [if_neg (by omega)])
      clear t2
      go_wp2_with fail
      go_quiet (first | (go_at_call_of 22 (Value.slice (some ⟨b2, o2, none⟩) O.length c'); exact Calls.quiet_of_same (column_ix _ O x _ ((hO0.below hbx).drewN _) hl')) | (go_at_call_of 22 (Value.slice (some ⟨b1, o1, none⟩) X.length c); exact Calls.quiet_of_same (column_ix _ X o _ ((hX0.below hbx).drewN _) hl)))
      go_wp2_with fail
      go_ret
      exact ⟨by rw [hfin.out]; rfl, bdrewN hbx _⟩
    have d2 : (x - o != 1) = true := by simpa using t2
    by_cases t3 : o - x = 1
    · have d3 : (o - x != 1) = false := by simp [t3]
      have hfin := Lib.hid (show remB X O x o = (colIx O x != colIx X o) by unfold remB; rw [if_neg (by omega)])
      clear t2 t3
      go_wp2_with fail
      go_quiet (first | (go_at_call_of 22 (Value.slice (some ⟨b2, o2, none⟩) O.length c'); exact Calls.quiet_of_same (column_ix _ O x _ ((hO0.below hbx).drewN _) hl')) | (go_at_call_of 22 (Value.slice (some ⟨b1, o1, none⟩) X.length c); exact Calls.quiet_of_same (column_ix _ X o _ ((hX0.below hbx).drewN _) hl)))
      go_wp2_with fail
      go_ret
      exact ⟨by rw [hfin.out]; rfl, bdrewN hbx _⟩
    · have d3 : (o - x != 1) = true := by simpa using t3
      have hfin := Lib.hid (show remB X O x o = false by unfold remB; rw [if_pos (.inr ⟨t2, t3⟩)])
      clear t2 t3
      go_wp2_with fail
      go_ret
      exact ⟨by rw [hfin.out]; rfl, hbx⟩
end Go.Proofs.YteliflcbegcdlaaGreatDoor
