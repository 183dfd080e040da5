/- grid.columns and the function that it returns. -/
import Derived.Test.YtgclngoeglopcaaTurn
import Derived.Test.YtgclngoeglopcaaOwn
import Derived.Test.YtgclngoeglopcaaCyi
namespace Go.Proofs.Ytgclngoeglopcaa
open Go.RowKit
set_option linter.unusedVariables false

/-- the function value leads from a row to the column of its mark -/
def ColF (w : World) (v : Value) (X : List Int) : Prop :=
  ∃ g h, v = .func (.func 54) #[] #[.pointer (some ⟨g, 0, none⟩)] ∧ Arr w g 22 [.slice (some ⟨h, 0, none⟩) X.length X.length] ∧ Arr w h 3 (ints (tr X))
theorem ColF.below {w w' : World} {v : Value} {X : List Int} (h : ColF w v X) (hb : Below w.heap.size w w') : ColF w' v X := by
  obtain ⟨g, i, e, h1, h2⟩ := h
  exact ⟨g, i, e, h1.below hb h1.lt, h2.below hb h2.lt⟩

set_option maxHeartbeats 1000000 in
theorem gcolumns_any (vx : Value) (X : List Int) (w : World) (hX : Ints w vx X) (hp : Pm X) (hn : X.length ≤ 1000) :
    Calls Try.prog 34 #[vx] w fun e w' => ∃ v, e = .returned v ∧ ColF w' v X ∧ Below w.heap.size w w' := by
  obtain ⟨i0, hi0, hz0, hz1, hz2⟩ := info_parts info_int
  have hmk := fun W => run_make_one (P := Try.prog) 22 3 i0 (.int .i64 0) Try.underlying22 hi0 hz0 hz1 rfl (by rw [hz2]; decide) X.length (by omega) W
  clear hi0 hz0 hz1 hz2
  have hX0 := hX
  obtain ⟨A, c, rfl, hc, hh⟩ := hX
  clear hh
  go_enter Try.func34, Try.ntmps34
  go_wp2_with fail
  have hW : Arr ((w.alloc (.cells (rowOf (List.replicate X.length (Value.int .i64 0))) 3)).alloc (.cells #[.slice (some ⟨w.heap.size, 0, none⟩) X.length X.length] 22)) w.heap.size 3 (List.replicate X.length (Value.int .i64 0)) ∧
      Arr ((w.alloc (.cells (rowOf (List.replicate X.length (Value.int .i64 0))) 3)).alloc (.cells #[.slice (some ⟨w.heap.size, 0, none⟩) X.length X.length] 22)) (w.heap.size + 1) 22 [.slice (some ⟨w.heap.size, 0, none⟩) X.length X.length] ∧
      Below w.heap.size w ((w.alloc (.cells (rowOf (List.replicate X.length (Value.int .i64 0))) 3)).alloc (.cells #[.slice (some ⟨w.heap.size, 0, none⟩) X.length X.length] 22)) :=
    ⟨(Arr.new w _ _).alloc _, Arr.newAt (w.alloc _) _ [_] _ (by simp), ((Below.refl _ _).alloc (Nat.le_refl _) _).alloc (by simp) _⟩
  generalize ((w.alloc (.cells (rowOf (List.replicate X.length (Value.int .i64 0))) 3)).alloc (.cells #[.slice (some ⟨w.heap.size, 0, none⟩) X.length X.length] 22)) = w4 at hW ⊢
  obtain ⟨p0, p1, hbw⟩ := hW
  clear hmk
  go_loopw [11] (fun i wr => ∃ (k : Nat) (aX : List Int), k ≤ X.length ∧ i = .int .i64 k ∧ Arr wr w.heap.size 3 (ints aX) ∧ Arr wr (w.heap.size + 1) 22 [.slice (some ⟨w.heap.size, 0, none⟩) X.length X.length] ∧ Below w.heap.size w wr ∧ Hid (aX.length = X.length ∧ relTo mvT true k (X.drop k) aX = tr X)) (fun i _ => X.length - (intOf i).toNat)
  case atStart =>
    exact ⟨0, List.replicate X.length 0, Nat.zero_le _, rfl, by rw [ints_zero]; exact p0, p1, hbw, by simp, rfl⟩
  case round =>
    clear p0 p1 hbw
    obtain ⟨k, aX, hk, rfl, p0, p1, hbr, H⟩ := hrel
    by_cases hlt : k < X.length
    · obtain ⟨b, o, rfl, hbl, hcell⟩ := hX0.at_ hlt
      have hc' := (hbr.cell (p := ⟨b, o + k, none⟩) hbl).trans hcell
      have hg := hp.get hlt
      have H' := Lib.hid (show relTo mvT true (k + 1) (X.drop (k + 1)) (aX.set X[k].toNat k) = tr X by
        have := H.out.2
        rw [relTo_drop mvT true X aX hlt, relStep_mvT _ _ _ hg.1] at this
        exact this)
      have hle := Lib.hid H.out.1
      generalize X[k] = x at *
      obtain ⟨x, rfl⟩ := Int.eq_ofNat_of_zero_le hg.1
      rw [Int.toNat_natCast] at H'
      have hx1 : x < X.length := by omega
      have hx2 : x < aX.length := by have := hle.out; omega
      clear hcell
      have z1 := p1.cell 0
      have z2 := (p0.cell x).trans (ints_get _ hx2)
      have z3 := p0.frozen x
      go_wp2_with fail
      go_roundw
      case rel => exact ⟨k + 1, aX.set x k, by omega, by go_num, by rw [← ints_set]; exact p0.set _ _, p1.far (p := ⟨w.heap.size, x, none⟩) (by show w.heap.size + 1 ≠ w.heap.size; omega) _, hbr.setCell (Nat.le_refl _) _, by rw [List.length_set]; exact hle.out, H'.out⟩
      case measure => simp [intOf]; omega
    · obtain rfl : k = X.length := by omega
      have e1 := Lib.hid (show aX = tr X by have := H.out.2; rw [List.drop_length] at this; exact this)
      go_wp2_with fail
      go_ret
      exact ⟨_, rfl, ⟨_, _, rfl, p1, by rw [← e1.out]; exact p0⟩, hbr⟩

theorem gcolumns1_any (g h : Nat) (X : List Int) (r : Nat) (w : World) (hp : Pm X) (hr : r < X.length) (h1 : Arr w g 22 [.slice (some ⟨h, 0, none⟩) X.length X.length]) (h2 : Arr w h 3 (ints (tr X))) :
    Calls Try.prog 54 #[.int .i64 r, .pointer (some ⟨g, 0, none⟩)] w fun e w' => e = .returned (.int .i64 (gt (tr X) r)) ∧ w = w' := by
  have hr' : r < (tr X).length := by rw [tr_length]; exact hr
  have z1 := h1.cell 0
  have z2 := (h2.cell r).trans (ints_get _ hr')
  rw [← gt_get hr'] at z2
  have z3 : (r : Int) < (X.length : Int) := by omega
  generalize gt (tr X) r = y at *
  go_enter Try.func54, Try.ntmps54
  go_wp2_with fail
  go_ret
  exact ⟨rfl, rfl⟩
end Go.Proofs.Ytgclngoeglopcaa
