/- grid.Components. -/
import Derived.Test.YteliflcbegcdlaaGreatDoorWwGcol
import Derived.Test.YteliflcbegcdlaaGreatDoorWwCmq
import Derived.Deep.LoopGhost
namespace Go.Proofs.YteliflcbegcdlaaGreatDoor
open Go.RowKit
set_option linter.unusedVariables false
theorem gt_tr_fC {X O : List Int} (h : Vd X O) {i : Nat} (hi : i < X.length) : gt (tr X) (gt O i).toNat = fC X O i := by
  have hf := fC_spec h hi
  rw [← hf.2]
  exact gt_tr h.pX hf.1
set_option maxHeartbeats 2000000 in
theorem components_any (vx vo : Value) (X O : List Int) (w : World) (hX : Ints w vx X) (hO : Ints w vo O) (hv : Vd X O) :
    Calls Tryz.prog 33 #[.agg #[vx, vo]] w fun e w' => e = .returned (.int .i64 (comp X O)) ∧ Below w.heap.size w w' := by
  obtain ⟨i0, hi0, hz0, hz1, hz2⟩ := info_parts info_bool
  have hn := hv.most
  have hmk := fun W => run_make_one (P := Tryz.prog) 101 4 i0 (.bool false) Tryz.underlying101 hi0 hz0 hz1 rfl (by rw [hz2]; decide) X.length (by omega) W
  clear hi0 hz0 hz1 hz2
  have hX0 := hX
  have hO0 := hO
  obtain ⟨A, c, rfl, hc, hh⟩ := hX
  obtain ⟨A', c', rfl, hc', hh'⟩ := hO
  clear hh hh'
  have HL := Lib.hid hv.len
  have lO : O.length ≤ 40 := by have := HL.out; omega
  have HV := Lib.hid hv
  clear hv
  go_enter Tryz.func33, Tryz.ntmps33
  go_wp2_with fail
  have hW : Arr (w.alloc (.cells #[.slice A X.length c, .slice A' O.length c'] 24)) w.heap.size 24 [.slice A X.length c, .slice A' O.length c'] ∧ Below w.heap.size w (w.alloc (.cells #[.slice A X.length c, .slice A' O.length c'] 24)) :=
    ⟨Arr.new _ _ [_, _], (Below.refl _ _).alloc (Nat.le_refl _) _⟩
  generalize w.alloc (.cells #[.slice A X.length c, .slice A' O.length c'] 24) = w4 at hW ⊢
  obtain ⟨q0, hb4⟩ := hW
  refine (valid_any _ _ X O _ (hX0.below hb4) (hO0.below hb4) (by omega) (by omega)).mono ?_
  rw [(validB_iff X O).2 HV.out]
  rintro e w5 ⟨rfl, hb5⟩
  have hbw5 := hb4.trans (hb5.mono hb4.size)
  have p0 := q0.below hb5 q0.lt
  clear q0 hb5 hb4
  have y0 := p0.cell 0
  have y1 := p0.cell 1
  go_wp2_with fail
  refine (gcolumns_any _ X _ (hX0.below hbw5) HV.out.pX (by omega)).mono ?_
  rintro e w6 ⟨v6, rfl, ⟨g, h, rfl, a1, a2⟩, hb6⟩
  have hbw6 := hbw5.trans (hb6.mono hbw5.size)
  have p6 := p0.below hb6 p0.lt
  clear p0 hb6 hbw5 y0 y1
  have y0 := p6.cell 0
  have y1 := p6.cell 1
  have l6 := p6.lt
  go_wp2_with fail
  have hW : Arr (w6.alloc (.cells (rowOf (List.replicate X.length (Value.bool false))) 4)) w6.heap.size 4 (marks X.length (fun _ => false)) ∧ Arr (w6.alloc (.cells (rowOf (List.replicate X.length (Value.bool false))) 4)) w.heap.size 24 [.slice A X.length c, .slice A' O.length c'] ∧ Arr (w6.alloc (.cells (rowOf (List.replicate X.length (Value.bool false))) 4)) g 22 [.slice (some ⟨h, 0, none⟩) X.length X.length] ∧ Arr (w6.alloc (.cells (rowOf (List.replicate X.length (Value.bool false))) 4)) h 3 (ints (tr X)) ∧ Below w.heap.size w (w6.alloc (.cells (rowOf (List.replicate X.length (Value.bool false))) 4)) :=
    ⟨by rw [marks_nil]; exact Arr.new w6 _ _, p6.alloc _, a1.alloc _, a2.alloc _, hbw6.alloc hbw6.size _⟩
  have lg := a1.lt
  have lh := a2.lt
  have lw := hbw6.size
  clear hmk y0 y1 p6 a1 a2 hbw6
  generalize hB : w6.heap.size = B at *
  generalize w6.alloc (.cells (rowOf (List.replicate X.length (Value.bool false))) 4) = w7 at hW ⊢
  clear hB
  obtain ⟨s0, p0, a1, a2, hbw⟩ := hW
  go_loopg [5, 6, 20] X.length (fun gk s5 s6 s20 wr => ∃ (k cnt : Nat) (S : Nat → Bool), k ≤ X.length ∧ gk = X.length - k ∧ s5 = .int .i64 cnt ∧ s20 = .int .i64 k ∧ Arr wr B 4 (marks X.length S) ∧ Arr wr w.heap.size 24 [.slice A X.length c, .slice A' O.length c'] ∧ Arr wr g 22 [.slice (some ⟨h, 0, none⟩) X.length X.length] ∧ Arr wr h 3 (ints (tr X)) ∧ Below w.heap.size w wr ∧ Hid (Mk (fC X O) X.length k S cnt))
  case atStart => exact ⟨0, 0, _, Nat.zero_le _, rfl, rfl, rfl, s0, p0, a1, a2, hbw, Mk.start⟩
  case round =>
    clear s0 p0 a1 a2 hbw
    obtain ⟨k, cnt, S, hk, rfl, rfl, rfl, s0, p0, a1, a2, hbr, HM⟩ := hrel
    have y0 := p0.cell 0
    have y1 := p0.cell 1
    have hcn := HM.out.cnt_le
    by_cases hlt : k < X.length
    · have z0 := (s0.cell k).trans (marks_get hlt)
      have z1 : (k : Int) < (X.length : Int) := by omega
      cases hS : S k with
      | true =>
        rw [hS] at z0
        have HM' := Lib.hid (HM.out.skip (fC_perm HV.out) hlt hS)
        clear hS HM
        go_wp2_with fail
        go_roundg (X.length - (k + 1))
        case measure => omega
        case rel => exact ⟨k + 1, cnt, S, by omega, rfl, rfl, by go_num, s0, p0, a1, a2, hbr, HM'⟩
      | false =>
        rw [hS] at z0
        have HS := Lib.hid hS
        clear hS
        go_wp2_with fail
        obtain ⟨wo, rfl⟩ : ∃ wo : World, wo = wr := ⟨_, rfl⟩
        go_loopg [6] X.length (fun gt' s6 wi => ∃ (t : Nat) (T : Nat → Bool), t ≤ X.length ∧ gt' = X.length - t ∧ s6 = .int .i64 (itr (fC X O) t k) ∧ Arr wi B 4 (marks X.length T) ∧ Arr wi w.heap.size 24 [.slice A X.length c, .slice A' O.length c'] ∧ Arr wi g 22 [.slice (some ⟨h, 0, none⟩) X.length X.length] ∧ Arr wi h 3 (ints (tr X)) ∧ Below w.heap.size w wi ∧ Hid (Mi (fC X O) X.length k t S T))
        case atStart => exact ⟨0, S, Nat.zero_le _, rfl, rfl, s0, p0, a1, a2, hbr, Mi.start⟩
        case round =>
          clear s0 p0 a1 a2 hbr y0 y1 z0
          obtain ⟨t, T, ht, rfl, rfl, s0, p0, a1, a2, hbi, HI⟩ := hrel
          have hi := (fC_perm HV.out).itr_lt hlt t
          have z0 := (s0.cell (itr (fC X O) t k)).trans (marks_get hi)
          have zf := s0.frozen (itr (fC X O) t k)
          have y0 := p0.cell 0
          have y1 := p0.cell 1
          cases hT : T (itr (fC X O) t k) with
          | true =>
            rw [hT] at z0
            have HM' := Lib.hid (HI.out.done (fC_perm HV.out) hlt HM.out HS.out hT)
            clear hT
            generalize itr (fC X O) t k = i at *
            have z1 : (i : Int) < (X.length : Int) := by omega
            go_wp2_with fail
            go_roundg (X.length - (k + 1))
            case measure => omega
            case rel => exact ⟨k + 1, cnt + 1, T, by omega, rfl, by go_num, by go_num, s0, p0, a1, a2, hbi, HM'⟩
          | false =>
            rw [hT] at z0
            obtain ⟨hm, hle⟩ := HI.out.step (fC_perm HV.out) hlt hT
            have HI' := Lib.hid hm
            have hiO : itr (fC X O) t k < O.length := by have := HL.out; omega
            obtain ⟨b2, o2, rfl, hb2, hc2⟩ := hO0.at_ hiO
            rw [← gt_get hiO] at hc2
            have hr := HV.out.oX hi
            have HF := Lib.hid (gt_tr_fC HV.out hi)
            have hnx := Lib.hid (show itr (fC X O) (t + 1) k = fC X O (itr (fC X O) t k) from rfl)
            clear hT hm
            generalize itr (fC X O) t k = i at *
            generalize gt O i = r at *
            obtain ⟨r, rfl⟩ := Int.eq_ofNat_of_zero_le hr.1
            rw [Int.toNat_natCast] at HF
            have z1 : (i : Int) < (X.length : Int) := by omega
            have z2 : (i : Int) < (O.length : Int) := by omega
            have hne1 : B ≠ w.heap.size := by omega
            have hne2 : B ≠ g := by omega
            have hne3 : B ≠ h := by omega
            have hbi' : Below w.heap.size w (wr.setCell ⟨B, i, none⟩ (.bool true)) := hbi.setCell (by show w.heap.size ≤ B; omega) _
            have p0' : Arr (wr.setCell ⟨B, i, none⟩ (.bool true)) w.heap.size 24 _ := p0.far (p := ⟨B, i, none⟩) (Ne.symm hne1) _
            have a1' : Arr (wr.setCell ⟨B, i, none⟩ (.bool true)) g 22 _ := a1.far (p := ⟨B, i, none⟩) (Ne.symm hne2) _
            have a2' : Arr (wr.setCell ⟨B, i, none⟩ (.bool true)) h 3 _ := a2.far (p := ⟨B, i, none⟩) (Ne.symm hne3) _
            have s0' : Arr (wr.setCell ⟨B, i, none⟩ (.bool true)) B 4 (marks X.length (mark T i)) := by rw [← marks_set]; exact s0.set i (.bool true)
            have x2 := (hbi'.cell (p := ⟨b2, o2 + i, none⟩) hb2).trans hc2
            have x0 := p0'.cell 1
            clear hc2
            go_wp2_with fail
            refine (gcolumns1_any g h X r _ HV.out.pX (by omega) a1' a2').mono ?_
            rw [HF.out, ← hnx.out]
            rintro e w9 ⟨rfl, rfl⟩
            go_wp2_with fail
            go_roundg (X.length - (t + 1))
            case measure => omega
            case rel => exact ⟨t + 1, mark T i, by omega, rfl, rfl, s0', p0', a1', a2', hbi', HI'⟩
    · have hk2 : k = X.length := by omega
      have hfin := Lib.hid (show cnt = comp X O by have := HM.out; rw [hk2] at this; exact this.full)
      clear hk2
      go_wp2_with fail
      go_ret
      exact ⟨by rw [hfin.out]; rfl, hbr⟩
end Go.Proofs.YteliflcbegcdlaaGreatDoor
