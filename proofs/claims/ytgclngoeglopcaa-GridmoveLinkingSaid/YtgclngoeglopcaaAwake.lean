/- awake: the example of the chapter. -/
import Derived.Test.YtgclngoeglopcaaLawC
namespace Go.Proofs.Ytgclngoeglopcaa
open Go.RowKit

theorem Ints.lit (w : World) (t : TypeId) (xs : List Int) (cs : Array Value) (k n : Nat) (hk : k = w.heap.size) (hn : n = xs.length) (hc : cs = rowOf (ints xs)) : Ints (w.alloc (.cells cs t)) (.slice (some ⟨k, 0, none⟩) n n) xs := by
  subst hk hn hc
  exact Ints.of_arr (Arr.new w t (ints xs))
theorem awake1 : applyM [0, 1] [1, 0] 4 false 2 0 = (0, [0, 2, 1], [2, 1, 0]) := by decide +kernel
theorem awake2 : applyM [0, 2, 1] [2, 1, 0] 3 false 2 0 = (0, [0, 1], [1, 0]) := by decide +kernel

set_option maxHeartbeats 1000000 in
theorem awake_any (w : World) : Calls Try.prog 11 #[] w fun e w' => e = .returned (.bool true) ∧ Below w.heap.size w w' := by
  go_enter Try.func11, Try.ntmps11
  go_wp2_with fail
  refine (apply_rd _ _ [0, 1] [1, 0] 4 false 2 0 _ ((Ints.lit w 3 [0, 1] _ _ _ rfl rfl rfl).alloc _) (Ints.lit (w.alloc _) 3 [1, 0] _ _ _ (by simp) rfl rfl) (by decide) (by decide)).mono ?_
  rintro e w1 ⟨hb1, A0, n0, c0, A1, n1, c1, rfl, i1, i2⟩
  rw [awake1] at i1 i2 ⊢
  simp only at i1 i2
  have hbw1 : Below w.heap.size w w1 := (((Below.refl _ _).alloc (Nat.le_refl _) _).alloc (by simp) _).trans (hb1.mono (by simp <;> omega))
  clear hb1
  go_wp2_with fail
  refine (apply_rd _ _ [0, 2, 1] [2, 1, 0] 3 false 2 0 _ (i1.alloc _) (i2.alloc _) (by decide) (by decide)).mono ?_
  rintro e w2 ⟨hb2, A2, n2, c2, A3, n3, c3, rfl, i3, i4⟩
  rw [awake2] at i3 i4 ⊢
  simp only at i3 i4
  have h1 := allocked hb2
  have hbw2 := (hbw1.alloc hbw1.size _).trans (hb2.mono (Nat.le_trans hbw1.size (by simp)))
  have i1' := (i1.alloc _).below hb2
  have i2' := (i2.alloc _).below hb2
  clear hb2 i1 i2
  have x0 := h1.cell 0
  have x1 := h1.cell 1
  have l1 := h1.lt
  go_wp2_with fail
  refine (equal_any _ _ [0, 2, 1] [0, 2, 1] _ ((i1'.alloc _).alloc _) (Ints.lit _ 3 [0, 2, 1] _ _ _ (by simp) rfl rfl) (by decide)).mono ?_
  rintro e w3 ⟨rfl, n, rfl⟩
  go_wp2_with fail
  refine (equal_any _ _ [2, 1, 0] [2, 1, 0] _ ((((i2'.alloc _).alloc _).drewN _).alloc _) (Ints.lit _ 3 [2, 1, 0] _ _ _ (by simp) rfl rfl) (by decide)).mono ?_
  rintro e w3 ⟨rfl, n', rfl⟩
  go_wp2_with fail
  refine (equal_any _ _ [0, 1] [0, 1] _ (((((((i3.alloc _).alloc _).drewN _).alloc _).drewN _).alloc _)) (Ints.lit _ 3 [0, 1] _ _ _ (by simp) rfl rfl) (by decide)).mono ?_
  rintro e w3 ⟨rfl, n'', rfl⟩
  go_wp2_with fail
  go_ret
  refine ⟨rfl, ?_⟩
  refine hbw2.trans (Below.mono (B := w2.heap.size) ?_ hbw2.size)
  repeat (first | exact Below.refl _ _ | refine bdrewN ?_ _ | refine Below.alloc ?_ (by simp <;> omega) _)
end Go.Proofs.Ytgclngoeglopcaa
