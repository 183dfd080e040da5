/- gridmove.transpose and grid.Valid. -/
import Derived.Test.YteliflcbegcdlaaGreatDoorProg
import Derived.Test.YteliflcbegcdlaaGreatDoorWwBase
import Derived.Test.YteliflcbegcdlaaGreatDoorWwPerm
import Derived.Test.YteliflcbegcdlaaGreatDoorWwGrf
import Derived.KernelRfl
import Derived.Outline
namespace Go.Proofs.YteliflcbegcdlaaGreatDoor
set_option linter.unusedVariables false
open Go.RowKit
/-- every element lies from 0 on below n -/
def Rows (n : Nat) (l : List Int) : Prop := ∀ x ∈ l, 0 ≤ x ∧ x < n
theorem Rows.get {n : Nat} {l : List Int} (h : Rows n l) {k : Nat} (hk : k < l.length) : 0 ≤ l[k] ∧ l[k] < n := h _ (List.getElem_mem hk)
theorem NewGrid.mono {B B' : Nat} {w : World} {v : Value} {X O : List Int} (h : NewGrid B w v X O) (hB : B' ≤ B) : NewGrid B' w v X O := by
  obtain ⟨gx, go, e, h1, h2, h3, h4, h5⟩ := h
  exact ⟨gx, go, e, h1, by omega, by omega, h4, h5⟩
set_option maxHeartbeats 400000 in
theorem transpose_any (vx vo : Value) (X O : List Int) (w : World) (hX : Ints w vx X) (hO : Ints w vo O) (hlen : X.length = O.length) (hn : X.length ≤ 1000) (rX : Rows X.length X) (rO : Rows X.length O) :
    Calls Tryz.prog 75 #[.agg #[vx, vo]] w fun e w' => ∃ v, e = .returned v ∧ NewGrid w.heap.size w' v (reloc mvT true X.length X) (reloc mvT false X.length O) ∧ Below w.heap.size w w' := by
  have HL := Lib.hid hlen
  clear hlen
  have hX0 := hX
  have hO0 := hO
  obtain ⟨A, c, rfl, hc, hh⟩ := hX
  obtain ⟨A', c', rfl, hc', hh'⟩ := hO
  clear hh hh'
  go_enter Tryz.func75, Tryz.ntmps75
  go_wp2_with fail
  refine (relocate_any _ _ X O X.length 96 #[] mvT _ Tryz.call96 hn ((hX0.alloc _).alloc _) ((hO0.alloc _).alloc _) HL.out hn
    (fun W _ k h => transpose1_any _ _ _ W) (fun W _ k h => transpose1_any _ _ _ W) (fun k h => (rX.get h).2) (fun k h => (rO.get h).2)).mono ?_
  rintro e w1 ⟨v, rfl, ⟨gx, go, rfl, e1, e2, e3, a1, a2⟩, hb⟩
  have hr : Arr w1 (w.heap.size + 1) 24 [.slice none 0 0, .slice none 0 0] := (Arr.newAt (w.alloc _) _ [_, _] _ (by simp)).below hb (by simp)
  have hbw : Below w.heap.size w w1 := (((Below.refl _ _).alloc (Nat.le_refl _) _).alloc (by simp) _).trans (hb.mono (by simp <;> omega))
  simp only [heap_push, Array.size_push] at e2 e3
  clear hb
  have s0 := hr.cell 0
  have s1 := hr.cell 1
  have s2 := hr.frozen 0
  have s3 := hr.frozen 1
  have hres := Lib.hid ((hr.set 0 (.slice (some ⟨gx, 0, none⟩) (reloc mvT true X.length X).length (reloc mvT true X.length X).length)).set 1 (.slice (some ⟨go, 0, none⟩) (reloc mvT false X.length O).length (reloc mvT false X.length O).length))
  go_wp2_with fail
  refine bodyPost_ret (v := .agg #[.slice (some ⟨gx, 0, none⟩) (reloc mvT true X.length X).length (reloc mvT true X.length X).length, .slice (some ⟨go, 0, none⟩) (reloc mvT false X.length O).length (reloc mvT false X.length O).length]) (results_cell_row Tryz.results75 _ _ (w.heap.size + 1) 24 _ (0, 0) _ rfl hres.out Tryz.underlying24 rfl info_grid) rfl ⟨_, rfl, ?_, ?_⟩
  · exact ⟨gx, go, rfl, e1, by omega, by omega, a1.far2 (r := w.heap.size + 1) (by omega), a2.far2 (r := w.heap.size + 1) (by omega)⟩
  · exact bset2 (r := w.heap.size + 1) hbw (by omega)
/-- grid.Valid as a function of the two lists -/
def neqB (X O : List Int) : Bool := (X.zip O).all fun p => p.1 != p.2
def validB (X O : List Int) : Bool := decide (2 ≤ X.length) && decide (X.length ≤ 40) && decide (O.length = X.length) && neqB X O && permB X && permB O
theorem neqB_drop (X O : List Int) {k : Nat} (h : k < X.length) (h' : k < O.length) : neqB (X.drop k) (O.drop k) = ((X[k] != O[k]) && neqB (X.drop (k + 1)) (O.drop (k + 1))) := by
  rw [List.drop_eq_getElem_cons h, List.drop_eq_getElem_cons h']; simp only [neqB, List.zip_cons_cons, List.all_cons]
set_option maxHeartbeats 1000000 in
theorem valid_any (vx vo : Value) (X O : List Int) (w : World) (hX : Ints w vx X) (hO : Ints w vo O) (hn : X.length ≤ 1000) (hn' : O.length ≤ 1000) :
    Calls Tryz.prog 28 #[.agg #[vx, vo]] w fun e w' => e = .returned (.bool (validB X O)) ∧ Below w.heap.size w w' := by
  have hX0 := hX
  have hO0 := hO
  obtain ⟨A, c, rfl, hc, hh⟩ := hX
  obtain ⟨A', c', rfl, hc', hh'⟩ := hO
  clear hh hh'
  by_cases t1 : X.length < 2
  · have hfin := Lib.hid (show validB X O = false by simp [validB]; omega)
    go_enter Tryz.func28, Tryz.ntmps28
    go_wp2
    go_ret
    exact ⟨by rw [hfin.out]; rfl, (Below.refl _ _).alloc (Nat.le_refl _) _⟩
  by_cases t2 : 40 < X.length
  · have hfin := Lib.hid (show validB X O = false by simp [validB]; omega)
    go_enter Tryz.func28, Tryz.ntmps28
    go_wp2
    go_ret
    exact ⟨by rw [hfin.out]; rfl, (Below.refl _ _).alloc (Nat.le_refl _) _⟩
  by_cases t3 : O.length = X.length
  rotate_left
  · have hfin := Lib.hid (show validB X O = false by simp [validB, t3])
    have t4 : ((O.length : Int) != (X.length : Int)) = true := by simp; omega
    clear t3
    go_enter Tryz.func28, Tryz.ntmps28
    go_wp2
    go_ret
    exact ⟨by rw [hfin.out]; rfl, (Below.refl _ _).alloc (Nat.le_refl _) _⟩
  have t4 : ((O.length : Int) != (X.length : Int)) = false := by simp; omega
  have q1 : decide (2 ≤ X.length) = true := by simp; omega
  have q2 : decide (X.length ≤ 40) = true := by simp; omega
  have q3 : decide (O.length = X.length) = true := by simp; omega
  have hv := Lib.hid (show validB X O = (neqB (X.drop 0) (O.drop 0) && permB X && permB O) by simp only [validB, q1, q2, q3, Bool.true_and, List.drop_zero])
  clear q1 q2 q3
  have HL := Lib.hid t3
  clear t3
  go_enter Tryz.func28, Tryz.ntmps28
  go_wp2_with fail
  clear t4
  go_loopw [22] (fun i wr => ∃ k : Nat, k ≤ X.length ∧ i = .int .i64 k ∧ Arr wr w.heap.size 24 [.slice A X.length c, .slice A' O.length c'] ∧ Below w.heap.size w wr ∧ Hid (validB X O = (neqB (X.drop k) (O.drop k) && permB X && permB O))) (fun i _ => X.length - (intOf i).toNat)
  case atStart => exact ⟨0, Nat.zero_le _, rfl, Arr.new w _ [_, _], (Below.refl _ _).alloc (Nat.le_refl _) _, hv⟩
  case round =>
    clear hv
    obtain ⟨k, hk, rfl, harr, hbel, hv⟩ := hrel
    have hb0 := harr.cell 0
    have hb1 := harr.cell 1
    by_cases hlt : k < X.length
    · have hlt' : k < O.length := by rw [HL.out]; exact hlt
      obtain ⟨b, o, rfl, hbl, hcell⟩ := hX0.at_ hlt
      obtain ⟨b', o', rfl, hbl', hcell'⟩ := hO0.at_ hlt'
      have hcX := (hbel.cell (p := ⟨b, o + k, none⟩) hbl).trans hcell
      have hcO := (hbel.cell (p := ⟨b', o' + k, none⟩) hbl').trans hcell'
      rw [neqB_drop X O hlt hlt'] at hv
      generalize X[k] = x at *
      generalize O[k] = y at *
      clear hcell hcell' hX0 hO0
      by_cases hxy : x = y
      · have h1 : (x == y) = true := by simpa using hxy
        have hfin := Lib.hid (show validB X O = false by rw [hv.out]; simp [bne, h1])
        clear hxy
        go_wp2_with fail
        go_quiet (fail)
        go_wp2_with fail
        go_ret
        exact ⟨by rw [hfin.out]; rfl, bdrewN hbel _⟩
      · have h1 : (x == y) = false := by simpa using hxy
        have hv' := Lib.hid (show validB X O = (neqB (X.drop (k + 1)) (O.drop (k + 1)) && permB X && permB O) by rw [hv.out]; simp [bne, h1])
        clear hxy
        go_wp2_with fail
        go_quiet (fail)
        go_wp2_with fail
        go_roundw
        case rel => exact ⟨k + 1, by omega, by go_num, harr.drewN _, bdrewN hbel _, hv'⟩
        case measure => simp [intOf]; omega
    · obtain rfl : k = X.length := by omega
      rw [List.drop_length] at hv
      have hv := Lib.hid (show validB X O = (permB X && permB O) by rw [hv.out]; simp [neqB])
      go_wp2_with fail
      refine (permutation_any _ X _ (hX0.below hbel) hn).mono ?_
      rintro e w1 ⟨rfl, hb2⟩
      have hO1 := (hO0.below hbel).below hb2
      have harr1 := harr.below hb2 harr.lt
      have hb1 := harr1.cell 1
      have hbel1 := hbel.trans (hb2.mono hbel.size)
      generalize permB X = px at *
      cases px with
      | false =>
        have hfin := Lib.hid (show validB X O = false by rw [hv.out]; rfl)
        go_wp2_with fail
        go_ret
        exact ⟨by rw [hfin.out]; rfl, hbel1⟩
      | true =>
        have hfin := Lib.hid (show validB X O = permB O by rw [hv.out]; rfl)
        go_wp2_with fail
        refine (permutation_any _ O _ hO1 hn').mono ?_
        rintro e w2 ⟨rfl, hb3⟩
        go_wp2_with fail
        go_ret
        exact ⟨by rw [hfin.out]; rfl, hbel1.trans (hb3.mono hbel1.size)⟩
end Go.Proofs.YteliflcbegcdlaaGreatDoor
