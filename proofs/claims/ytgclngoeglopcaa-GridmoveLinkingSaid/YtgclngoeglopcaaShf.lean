/- grid.Shift. -/
import Derived.Test.YtgclngoeglopcaaTrl
namespace Go.Proofs.Ytgclngoeglopcaa
open Go.RowKit
set_option linter.unusedVariables false

/-- Shift as a function: an error, or the translated grid -/
def shiftM (X O : List Int) (cols rows : Int) : Int × List Int × List Int :=
  if validB X O = false then (1, [], []) else (0, trl (cols % X.length).toNat (rows % X.length).toNat X, trl (cols % X.length).toNat (rows % X.length).toNat O)
theorem tmod_shift (c : Int) (n : Nat) (h : 0 < n) : (c.tmod n + n).tmod n = ((c % n).toNat : Int) ∧ -(n : Int) < c.tmod n ∧ c.tmod n < n ∧ (c % n).toNat < n := by
  have h1 := Int.emod_nonneg c (show (n : Int) ≠ 0 by omega)
  have h2 := Int.emod_lt_of_pos c (show (0 : Int) < n by omega)
  have h3 : c.tmod n = c % n ∨ (c.tmod n = c % n - n ∧ c % n ≠ 0) ∨ (c % n = 0 ∧ c.tmod n = 0) := by
    rw [Int.tmod_eq_emod]
    split
    · exact .inl (by omega)
    · rename_i hd
      have : c % n ≠ 0 := fun h => hd (.inr (Int.dvd_of_emod_eq_zero h))
      exact .inr (.inl ⟨by simp, this⟩)
  have h4 : (c.tmod n + n).tmod n = (c.tmod n + n) % n := Int.tmod_eq_emod_of_nonneg (by omega)
  refine ⟨?_, by omega, by omega, by omega⟩
  rw [h4]
  rcases h3 with h3 | ⟨h3, _⟩ | ⟨h3, h5⟩
  · rw [h3, Int.add_emod_right, Int.emod_eq_of_lt h1 h2]; omega
  · rw [h3, show c % n - n + n = c % n from by omega, Int.emod_eq_of_lt h1 h2]; omega
  · rw [h5, h3]; simp

set_option maxHeartbeats 2000000 in
theorem shift_any (vx vo : Value) (X O : List Int) (cols rows : Int) (w : World) (hX : Ints w vx X) (hO : Ints w vo O) (hl : X.length ≤ 1000) (hl' : O.length ≤ 1000) :
    Calls Try.prog 24 #[.agg #[vx, vo], .int .i64 cols, .int .i64 rows] w (GRes w.heap.size w (shiftM X O cols rows)) := by
  have hX0 := hX
  have hO0 := hO
  obtain ⟨A, c, rfl, hc, hh⟩ := hX
  obtain ⟨A', c', rfl, hc', hh'⟩ := hO
  clear hh hh'
  go_enter Try.func24, Try.ntmps24
  go_wp2_with fail
  have hW : Arr ((w.alloc (.cells #[.slice A X.length c, .slice A' O.length c'] 24)).alloc (.cells #[.slice none 0 0, .slice none 0 0] 24)) w.heap.size 24 [.slice A X.length c, .slice A' O.length c'] ∧ Arr ((w.alloc (.cells #[.slice A X.length c, .slice A' O.length c'] 24)).alloc (.cells #[.slice none 0 0, .slice none 0 0] 24)) (w.heap.size + 1) 24 [.slice none 0 0, .slice none 0 0] ∧ Below w.heap.size w ((w.alloc (.cells #[.slice A X.length c, .slice A' O.length c'] 24)).alloc (.cells #[.slice none 0 0, .slice none 0 0] 24)) :=
    ⟨(Arr.new _ _ [_, _]).alloc _, Arr.newAt (w.alloc _) _ [_, _] _ (by simp), ((Below.refl _ _).alloc (Nat.le_refl _) _).alloc (by simp) _⟩
  generalize ((w.alloc (.cells #[.slice A X.length c, .slice A' O.length c'] 24)).alloc (.cells #[.slice none 0 0, .slice none 0 0] 24)) = w4 at hW ⊢
  obtain ⟨q0, q1, hb4⟩ := hW
  refine (valid_any _ _ X O _ (hX0.below hb4) (hO0.below hb4) hl hl').mono ?_
  rintro e w5 ⟨rfl, hb5⟩
  have hbw5 := hb4.trans (hb5.mono hb4.size)
  have p0 := q0.below hb5 q0.lt
  have p1 := q1.below hb5 q1.lt
  clear q0 q1 hb5 hb4
  have y0 := p0.cell 0
  have y1 := p0.cell 1
  have y2 := p1.cell 0
  have y3 := p1.cell 1
  have y4 := p1.frozen 0
  have y5 := p1.frozen 1
  have l1 := p1.lt
  cases hv : validB X O with
  | false =>
    have hfin := Lib.hid (show shiftM X O cols rows = (1, [], []) by unfold shiftM; rw [if_pos hv])
    clear hv
    have hzr := Lib.hid ((p1.set 0 (.slice none 0 0)).set 1 (.slice none 0 0))
    go_wp2_with fail
    refine bodyPost_ret (v := .tuple #[.agg #[.slice none 0 0, .slice none 0 0], .int .i64 1]) (results_ct Try.results24 _ _ (w.heap.size + 1) 24 _ _ rfl hzr.out Try.underlying24 rfl info_grid) rfl ?_
    rw [hfin.out]
    exact GRes.err (by decide) (bset2 (r := w.heap.size + 1) hbw5 (by omega))
  | true =>
    have vf := (validB_iff X O).1 hv
    have hfin := Lib.hid (show shiftM X O cols rows = (0, trl (cols % X.length).toNat (rows % X.length).toNat X, trl (cols % X.length).toNat (rows % X.length).toNat O) by unfold shiftM; rw [if_neg (by simp [hv])])
    clear hv
    have hn2 := vf.two
    obtain ⟨ec, ec1, ec2, ec3⟩ := tmod_shift cols X.length (by omega)
    obtain ⟨er, er1, er2, er3⟩ := tmod_shift rows X.length (by omega)
    generalize (cols % (X.length : Int)).toNat = pc at *
    generalize (rows % (X.length : Int)).toNat = pr at *
    have wc : IntKind.i64.wrap (cols.tmod X.length + X.length) = cols.tmod X.length + X.length := IntWalk.i64_in _ (by omega)
    have wr : IntKind.i64.wrap (rows.tmod X.length + X.length) = rows.tmod X.length + X.length := IntWalk.i64_in _ (by omega)
    have zn : ((X.length : Int) == 0) = false := beq_eq_false_iff_ne.2 (by omega)
    have zn2 : ¬ ((X.length : Int) = 0) := by omega
    have zn3 : ¬ (X = []) := by intro h; rw [h] at hn2; simp at hn2
    have zn4 : ¬ (X.length = 0) := by omega
    have HT := Lib.hid (fun W (hS : W.cell? ⟨w.heap.size, 0, none⟩ = some (.slice A X.length c) ∧ W.cell? ⟨w.heap.size, 1, none⟩ = some (.slice A' O.length c') ∧ Below w.heap.size w W) => translate_any (.slice A X.length c) (.slice A' O.length c') X O pc pr W (hX0.below hS.2.2) (hO0.below hS.2.2) vf.len hl (by omega) (by omega) (by omega) vf.pX.1 (by have := vf.pO.1; rw [← vf.len] at this; exact this))
    have KS0 := Lib.hid (show w5.drew.cell? ⟨w.heap.size, 0, none⟩ = some (.slice A X.length c) ∧ w5.drew.cell? ⟨w.heap.size, 1, none⟩ = some (.slice A' O.length c') ∧ Below w.heap.size w w5.drew from ⟨y0, y1, hbw5.drew⟩)
    have HJ := Lib.hid (fun W W' (hS : W.cell? ⟨w.heap.size, 0, none⟩ = some (.slice A X.length c) ∧ W.cell? ⟨w.heap.size, 1, none⟩ = some (.slice A' O.length c') ∧ Below w.heap.size w W) (hb : Below W.heap.size W W') => (⟨(hb.cell (block_lt_of_cell hS.1)).trans hS.1, (hb.cell (block_lt_of_cell hS.2.1)).trans hS.2.1, hS.2.2.trans (hb.mono hS.2.2.size)⟩ : W'.cell? ⟨w.heap.size, 0, none⟩ = some (.slice A X.length c) ∧ W'.cell? ⟨w.heap.size, 1, none⟩ = some (.slice A' O.length c') ∧ Below w.heap.size w W'))
    have KS2 := Lib.hid (fun W u u' (hS : W.cell? ⟨w.heap.size, 0, none⟩ = some (.slice A X.length c) ∧ W.cell? ⟨w.heap.size, 1, none⟩ = some (.slice A' O.length c') ∧ Below w.heap.size w W) => (⟨(World.cell?_of_block (heap_set2 W (w.heap.size + 1) 0 1 w.heap.size u u' (by omega))).trans hS.1, (World.cell?_of_block (heap_set2 W (w.heap.size + 1) 0 1 w.heap.size u u' (by omega))).trans hS.2.1, bset2 (r := w.heap.size + 1) hS.2.2 (by omega)⟩ : ((W.setCell ⟨w.heap.size + 1, 0, none⟩ u).setCell ⟨w.heap.size + 1, 1, none⟩ u').cell? ⟨w.heap.size, 0, none⟩ = some (.slice A X.length c) ∧ ((W.setCell ⟨w.heap.size + 1, 0, none⟩ u).setCell ⟨w.heap.size + 1, 1, none⟩ u').cell? ⟨w.heap.size, 1, none⟩ = some (.slice A' O.length c') ∧ Below w.heap.size w ((W.setCell ⟨w.heap.size + 1, 0, none⟩ u).setCell ⟨w.heap.size + 1, 1, none⟩ u')))
    go_wp2_with fail
    go_region_held3 (fun w' => w'.cell? ⟨w.heap.size, 0, none⟩ = some (.slice A X.length c) ∧ w'.cell? ⟨w.heap.size, 1, none⟩ = some (.slice A' O.length c') ∧ Below w.heap.size w w') (first | exact KS0.out | exact hS7 | exact KS2.out _ _ _ hS7)
      (first
        | (go_at_call 39; refine (HT.out _ (by assumption)).mono ?_; rintro e w7 ⟨v7, rfl, ⟨gx, go, rfl, q1, q2, q3, a1, a2⟩, hb7⟩; have hS7 := HJ.out _ _ (by assumption) hb7; have hr := (Arr.drew p1).below hb7 (Arr.drew p1).lt; have s0 := hr.cell 0; have s1 := hr.cell 1; have s2 := hr.frozen 0; have s3 := hr.frozen 1; clear hb7))
    have hres := Lib.hid ((hr.set 0 (.slice (some ⟨gx, 0, none⟩) (trl pc pr X).length (trl pc pr X).length)).set 1 (.slice (some ⟨go, 0, none⟩) (trl pc pr O).length (trl pc pr O).length))
    go_wp2_with fail
    refine bodyPost_ret (v := .tuple #[.agg #[.slice (some ⟨gx, 0, none⟩) (trl pc pr X).length (trl pc pr X).length, .slice (some ⟨go, 0, none⟩) (trl pc pr O).length (trl pc pr O).length], .int .i64 0]) (results_ct Try.results24 _ _ (w.heap.size + 1) 24 _ _ rfl hres.out Try.underlying24 rfl info_grid) rfl ?_
    rw [hfin.out]
    have hbs := hbw5.size
    have q2' : w5.heap.size ≤ gx := q2
    have q3' : w5.heap.size ≤ go := q3
    exact GRes.ok (bset2 (r := w.heap.size + 1) hS7.2.2 (by omega)) ⟨gx, go, rfl, q1, by omega, by omega, a1.far2 (r := w.heap.size + 1) (by omega), a2.far2 (r := w.heap.size + 1) (by omega)⟩
end Go.Proofs.Ytgclngoeglopcaa
