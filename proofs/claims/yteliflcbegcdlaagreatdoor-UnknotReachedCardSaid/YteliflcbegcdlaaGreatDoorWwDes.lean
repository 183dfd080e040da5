/- gridmove.destabilize. -/
import Derived.Test.YteliflcbegcdlaaGreatDoorProg
import Derived.Test.YteliflcbegcdlaaGreatDoorWwBase
import Derived.Test.YteliflcbegcdlaaGreatDoorWwBase2
import Derived.Test.YteliflcbegcdlaaGreatDoorWwGrf
import Derived.Test.YteliflcbegcdlaaGreatDoorWwPerm
import Derived.Test.YteliflcbegcdlaaGreatDoorWwSwp
import Derived.Test.YteliflcbegcdlaaGreatDoorWwTrans
import Derived.KernelRfl
import Derived.Outline
import Derived.Deep.RegionHeld3
import Derived.Deep.DeepCutAuto
namespace Go.Proofs.YteliflcbegcdlaaGreatDoor
set_option linter.unusedVariables false
open Go.RowKit
/-- no other column than a has its marks in the two rows the other way round -/
def desAll (a : Nat) (x o : Int) : Nat → List Int → List Int → Bool
  | i, p :: ps, q :: qs => !(decide (i ≠ a) && q == x && p == o) && desAll a x o (i + 1) ps qs
  | _, _, _ => true
def desOk (X O : List Int) (a : Nat) (x o : Int) : Bool := decide (3 ≤ X.length) && decide (maxG x o = minG x o + 1) && desAll a x o 0 X O
theorem desAll_drop (a : Nat) (x o : Int) (X O : List Int) {k : Nat} (h : k < X.length) (h' : k < O.length) :
    desAll a x o k (X.drop k) (O.drop k) = (!(decide (k ≠ a) && O[k] == x && X[k] == o) && desAll a x o (k + 1) (X.drop (k + 1)) (O.drop (k + 1))) := by
  rw [List.drop_eq_getElem_cons h, List.drop_eq_getElem_cons h', desAll]
def DesPost (B : Nat) (w : World) (X O : List Int) (a : Nat) (x o : Int) (e : Ending) (w' : World) : Prop :=
  Below B w w' ∧
  if desOk X O a x o = true then ∃ v, e = .returned (.tuple #[v, .int .i64 0]) ∧ NewGrid B w' v (reloc (mvDel (minG x o) a) true (X.length - 1) X) (reloc (mvDel (minG x o) a) false (X.length - 1) O)
  else e = .returned (.tuple #[.agg #[.slice none 0 0, .slice none 0 0], .int .i64 6])
def DesMid (B : Nat) (w : World) (g : Nat) (vx vo : Value) (a low : Int) : Prop :=
  Arr w B 24 [vx, vo] ∧ Arr w (B + 1) 3 [.int .i64 a] ∧ Arr w (B + 2) 24 [.slice none 0 0, .slice none 0 0] ∧ Arr w g 3 [.int .i64 low] ∧ B + 3 ≤ g
theorem DesMid.below {B : Nat} {w w' : World} {g : Nat} {vx vo : Value} {a low : Int} (h : DesMid B w g vx vo a low) (hb : Below w.heap.size w w') : DesMid B w' g vx vo a low :=
  ⟨h.1.below hb h.1.lt, h.2.1.below hb h.2.1.lt, h.2.2.1.below hb h.2.2.1.lt, h.2.2.2.1.below hb h.2.2.2.1.lt, h.2.2.2.2⟩
theorem mvDel_lt (low r : Int) (b : Bool) (a k : Nat) {n : Nat} (hk : k < n) (ha : a < n) : (mvDel low a k r b).1 < ((n - 1 : Nat) : Int) := by
  simp only [mvDel]
  repeat' split
  all_goals omega
set_option maxHeartbeats 1000000 in
theorem destabilize_any (vx vo : Value) (X O : List Int) (a : Nat) (w : World) (hX : Ints w vx X) (hO : Ints w vo O) (hl : X.length ≤ 1000) (hlen : X.length = O.length) (ha : a < X.length) (hb : a < O.length)
    (rX : Rows X.length X) (rO : Rows X.length O) :
    Calls Tryz.prog 94 #[.agg #[vx, vo], .int .i64 a] w (DesPost w.heap.size w X O a X[a] O[a]) := by
  have HL := Lib.hid hlen
  clear hlen
  have hX0 := hX
  have hO0 := hO
  obtain ⟨A, c, rfl, hc, hh⟩ := hX
  obtain ⟨A', c', rfl, hc', hh'⟩ := hO
  clear hh hh'
  obtain ⟨b1, o1, rfl, hlt, c1⟩ := hX0.at_ ha
  obtain ⟨b2, o2, rfl, hlt', c2⟩ := hO0.at_ hb
  have hx := rX.get ha
  have ho := rO.get hb
  generalize X[a] = x at *
  generalize O[a] = o at *
  go_enter Tryz.func94, Tryz.ntmps94
  go_upto_region 2 with fail
  have hW : Arr (((w.alloc (.cells #[.slice (some ⟨b1, o1, none⟩) X.length c, .slice (some ⟨b2, o2, none⟩) O.length c'] 24)).alloc (.cells #[.int .i64 (a : Int)] 3)).alloc (.cells #[.slice none 0 0, .slice none 0 0] 24)) w.heap.size 24 [.slice (some ⟨b1, o1, none⟩) X.length c, .slice (some ⟨b2, o2, none⟩) O.length c'] ∧
      Arr (((w.alloc (.cells #[.slice (some ⟨b1, o1, none⟩) X.length c, .slice (some ⟨b2, o2, none⟩) O.length c'] 24)).alloc (.cells #[.int .i64 (a : Int)] 3)).alloc (.cells #[.slice none 0 0, .slice none 0 0] 24)) (w.heap.size + 1) 3 [.int .i64 (a : Int)] ∧ Arr (((w.alloc (.cells #[.slice (some ⟨b1, o1, none⟩) X.length c, .slice (some ⟨b2, o2, none⟩) O.length c'] 24)).alloc (.cells #[.int .i64 (a : Int)] 3)).alloc (.cells #[.slice none 0 0, .slice none 0 0] 24)) (w.heap.size + 2) 24 [.slice none 0 0, .slice none 0 0] ∧ Below w.heap.size w (((w.alloc (.cells #[.slice (some ⟨b1, o1, none⟩) X.length c, .slice (some ⟨b2, o2, none⟩) O.length c'] 24)).alloc (.cells #[.int .i64 (a : Int)] 3)).alloc (.cells #[.slice none 0 0, .slice none 0 0] 24)) ∧ (((w.alloc (.cells #[.slice (some ⟨b1, o1, none⟩) X.length c, .slice (some ⟨b2, o2, none⟩) O.length c'] 24)).alloc (.cells #[.int .i64 (a : Int)] 3)).alloc (.cells #[.slice none 0 0, .slice none 0 0] 24)).heap.size = w.heap.size + 3 :=
    ⟨((Arr.new _ _ [_, _]).alloc _).alloc _, (Arr.newAt (w.alloc _) _ [_] _ (by simp)).alloc _, Arr.newAt ((w.alloc _).alloc _) _ [_, _] _ (by simp), (((Below.refl _ _).alloc (Nat.le_refl _) _).alloc (by simp) _).alloc (by simp <;> omega) _, by simp⟩
  generalize (((w.alloc (.cells #[.slice (some ⟨b1, o1, none⟩) X.length c, .slice (some ⟨b2, o2, none⟩) O.length c'] 24)).alloc (.cells #[.int .i64 (a : Int)] 3)).alloc (.cells #[.slice none 0 0, .slice none 0 0] 24)) = w3 at hW ⊢
  obtain ⟨g0, g1, g2, hb3, hs3⟩ := hW
  have c1' := (hb3.cell (p := ⟨b1, o1 + a, none⟩) hlt).trans c1
  have c2' := (hb3.cell (p := ⟨b2, o2 + a, none⟩) hlt').trans c2
  have d0 := g0.cell 0
  have d1 := g0.cell 1
  have d2 := g1.cell 0
  have l1 : b1 < w3.heap.size := by omega
  have l2 : b2 < w3.heap.size := by omega
  have l3 : w.heap.size < w3.heap.size := by omega
  have l4 : w.heap.size + 1 < w3.heap.size := by omega
  have HS := Lib.hid hs3
  clear hs3
  go_cut [7, 8] (fun s7 s8 wx => ∃ g : Nat, s7 = .pointer (some ⟨g, 0, none⟩) ∧ s8 = .int .i64 (maxG x o) ∧ DesMid w.heap.size wx g (.slice (some ⟨b1, o1, none⟩) X.length c) (.slice (some ⟨b2, o2, none⟩) O.length c') a (minG x o) ∧ Below w.heap.size w wx)
  case first =>
    have n1 : w3.heap.size ≠ w.heap.size := by omega
    have n2 : w3.heap.size ≠ w.heap.size + 1 := by omega
    have n3 : w3.heap.size ≠ b1 := by omega
    have n4 : w3.heap.size ≠ b2 := by omega
    go_region_held3 (fun w' => w'.cell? ⟨w.heap.size, 0, none⟩ = some (.slice (some ⟨b1, o1, none⟩) X.length c) ∧ w'.cell? ⟨w.heap.size, 1, none⟩ = some (.slice (some ⟨b2, o2, none⟩) O.length c') ∧ w'.cell? ⟨w.heap.size + 1, 0, none⟩ = some (.int .i64 (a : Int)) ∧ w'.cell? ⟨b1, o1 + a, none⟩ = some (.int .i64 x) ∧ w'.cell? ⟨b2, o2 + a, none⟩ = some (.int .i64 o)) (go_keep) (first | fail)
    all_goals
      rw [show (if o < x then o else x) = minG x o from rfl, show (if x < o then o else x) = maxG x o from rfl]
      go_wp2_with fail
      go_meet
      exact ⟨_, rfl, rfl, ⟨g0.alloc _, g1.alloc _, g2.alloc _, (Arr.new w3 _ [_]).drew, by have := HS.out; omega⟩, (hb3.alloc (by omega) _).drew⟩
  case rest =>
    clear c1' c2' d0 d1 d2 l1 l2 l3 l4 g0 g1 g2
    obtain ⟨g, rfl, rfl, hm, hbx⟩ := hcut
    have hd0 := hm.2.2.2.1.cell 0
    have hz0 := hm.2.2.1.cell 0
    have hz1 := hm.2.2.1.cell 1
    have hz2 := hm.2.2.1.frozen 0
    have hz3 := hm.2.2.1.frozen 1
    have hzr := Lib.hid ((hm.2.2.1.set 0 (.slice none 0 0)).set 1 (.slice none 0 0))
    have hmm : minG x o ≤ 1000 ∧ maxG x o ≤ 1000 ∧ 0 ≤ minG x o ∧ 0 ≤ maxG x o := by unfold minG maxG; repeat' split <;> omega
    obtain ⟨k1, k2, k3, k4⟩ := hmm
    by_cases t1 : X.length < 3
    · have hfin := Lib.hid (show ¬ desOk X O a x o = true by simp [desOk]; omega)
      go_wp2_with fail
      refine bodyPost_ret (v := .tuple #[.agg #[.slice none 0 0, .slice none 0 0], .int .i64 6]) (results_ct Tryz.results94 _ _ (w.heap.size + 2) 24 _ _ rfl hzr.out Tryz.underlying24 rfl info_grid) rfl ⟨bset2 (r := w.heap.size + 2) hbx (by omega), ?_⟩
      rw [if_neg hfin.out]
    have t1' : 3 ≤ X.length := by omega
    have t1'' : (3 : Int) ≤ X.length := by omega
    clear t1
    by_cases t2 : maxG x o = minG x o + 1
    rotate_left
    · have hfin := Lib.hid (show ¬ desOk X O a x o = true by simp [desOk, t2])
      have t3 : (maxG x o != minG x o + 1) = true := by simpa using t2
      clear t2
      go_wp2_with fail
      refine bodyPost_ret (v := .tuple #[.agg #[.slice none 0 0, .slice none 0 0], .int .i64 6]) (results_ct Tryz.results94 _ _ (w.heap.size + 2) 24 _ _ rfl hzr.out Tryz.underlying24 rfl info_grid) rfl ⟨bset2 (r := w.heap.size + 2) hbx (by omega), ?_⟩
      rw [if_neg hfin.out]
    have t3 : (maxG x o != minG x o + 1) = false := by simp [t2]
    have hv := Lib.hid (show desOk X O a x o = desAll a x o 0 (X.drop 0) (O.drop 0) by simp [desOk, t2]; omega)
    have T2 := Lib.hid t2
    have t5 : decide ((X.length : Int) < 3) = false := by simp; omega
    have t6 : ¬ ((X.length : Int) < 3) := by omega
    clear t2
    go_wp2_with fail
    clear t5 t6
    clear t3 hz0 hz1 hz2 hz3 hzr hd0
    go_loopw [45] (fun i wr => ∃ k : Nat, k ≤ X.length ∧ i = .int .i64 k ∧ DesMid w.heap.size wr g (.slice (some ⟨b1, o1, none⟩) X.length c) (.slice (some ⟨b2, o2, none⟩) O.length c') a (minG x o) ∧ Below w.heap.size w wr ∧ Hid (desOk X O a x o = desAll a x o k (X.drop k) (O.drop k))) (fun i _ => X.length - (intOf i).toNat)
    case atStart => exact ⟨0, Nat.zero_le _, rfl, hm, hbx, hv⟩
    case round =>
      clear hv hm hbx
      obtain ⟨k, hk, rfl, hm, hbx, hv⟩ := hrel
      have hz0 := hm.2.2.1.cell 0
      have hz1 := hm.2.2.1.cell 1
      have hz2 := hm.2.2.1.frozen 0
      have hz3 := hm.2.2.1.frozen 1
      have hzr := Lib.hid ((hm.2.2.1.set 0 (.slice none 0 0)).set 1 (.slice none 0 0))
      have d0 := hm.1.cell 0
      have d1 := hm.1.cell 1
      have d2 := hm.2.1.cell 0
      by_cases hlt2 : k < X.length
      · have hlt3 : k < O.length := by have := HL.out; omega
        obtain ⟨b, o', e1, hbl, hcell⟩ := hX0.at_ hlt2
        obtain ⟨b', o'', e2, hbl', hcell'⟩ := hO0.at_ hlt3
        injection e1 with e1
        injection e1 with e1 e1'
        injection e2 with e2
        injection e2 with e2 e2'
        subst e1 e1' e2 e2'
        have hcX := (hbx.cell (p := ⟨b1, o1 + k, none⟩) hbl).trans hcell
        have hcO := (hbx.cell (p := ⟨b2, o2 + k, none⟩) hbl').trans hcell'
        have c1' := (hbx.cell (p := ⟨b1, o1 + a, none⟩) hlt).trans c1
        have c2' := (hbx.cell (p := ⟨b2, o2 + a, none⟩) hlt').trans c2
        rw [desAll_drop a x o X O hlt2 hlt3] at hv
        generalize X[k] = p at *
        generalize O[k] = q at *
        clear hcell hcell' c1 c2
        by_cases u1 : k = a
        · have u2 : ((k : Int) != (a : Int)) = false := by simp [u1]
          have hv' := Lib.hid (show desOk X O a x o = desAll a x o (k + 1) (X.drop (k + 1)) (O.drop (k + 1)) by rw [hv.out]; simp [u1])
          clear u1
          go_wp2_with fail
          go_quiet (fail)
          go_wp2_with fail
          go_roundw
          case rel => exact ⟨k + 1, by omega, by go_num, hm.below (bdrewN (Below.refl _ _) _), bdrewN hbx _, hv'⟩
          case measure => simp [intOf]; omega
        have u2 : ((k : Int) != (a : Int)) = true := by simp; omega
        by_cases u3 : q = x
        rotate_left
        · have u4 : (q == x) = false := by simpa using u3
          have hv' := Lib.hid (show desOk X O a x o = desAll a x o (k + 1) (X.drop (k + 1)) (O.drop (k + 1)) by rw [hv.out]; simp [u4])
          clear u1 u3
          go_wp2_with fail
          go_quiet (fail)
          go_wp2_with fail
          go_roundw
          case rel => exact ⟨k + 1, by omega, by go_num, hm.below (bdrewN (Below.refl _ _) _), bdrewN hbx _, hv'⟩
          case measure => simp [intOf]; omega
        have u4 : (q == x) = true := by simpa using u3
        by_cases u5 : p = o
        · have u6 : (p == o) = true := by simpa using u5
          have hfin := Lib.hid (show ¬ desOk X O a x o = true by rw [hv.out]; simp [u1, u4, u6])
          clear u1 u3 u5
          go_wp2_with fail
          go_quiet (fail)
          go_wp2_with fail
          refine bodyPost_ret (v := .tuple #[.agg #[.slice none 0 0, .slice none 0 0], .int .i64 6]) (results_ct Tryz.results94 _ _ (w.heap.size + 2) 24 _ _ rfl (hzr.out.drewN _) Tryz.underlying24 rfl info_grid) rfl ⟨bdrewN (bset2 (r := w.heap.size + 2) hbx (by omega)) _, ?_⟩
          rw [if_neg hfin.out]
        · have u6 : (p == o) = false := by simpa using u5
          have hv' := Lib.hid (show desOk X O a x o = desAll a x o (k + 1) (X.drop (k + 1)) (O.drop (k + 1)) by rw [hv.out]; simp [u6])
          clear u1 u3 u5
          go_wp2_with fail
          go_quiet (fail)
          go_wp2_with fail
          go_roundw
          case rel => exact ⟨k + 1, by omega, by go_num, hm.below (bdrewN (Below.refl _ _) _), bdrewN hbx _, hv'⟩
          case measure => simp [intOf]; omega
      · obtain rfl : k = X.length := by omega
        rw [List.drop_length] at hv
        have hfin := Lib.hid (show desOk X O a x o = true by rw [hv.out]; simp [desAll])
        clear c1 c2
        go_wp2_with fail
        rw [show ((X.length : Int) - 1) = ((X.length - 1 : Nat) : Int) from by omega]
        refine (relocate_any _ _ X O (X.length - 1) 104 #[.pointer (some ⟨g, 0, none⟩), .pointer (some ⟨w.heap.size + 1, 0, none⟩)] (mvDel (minG x o) a) _ Tryz.call104 hl (hX0.below hbx) (hO0.below hbx) HL.out (by omega)
          (fun W hW k h => destabilize1_any k X[k] (minG x o) a true g (w.heap.size + 1) W (by omega) (by omega) (by omega) (by omega) (rX.get h).1 (by have := (rX.get h).2; omega) k3 k1 ((hm.2.2.2.1.below hW hm.2.2.2.1.lt).cell 0) ((hm.2.1.below hW hm.2.1.lt).cell 0))
          (fun W hW k h => destabilize1_any k O[k] (minG x o) a false g (w.heap.size + 1) W (by omega) (by have := HL.out; omega) (by omega) (by omega) (rO.get h).1 (by have := (rO.get h).2; omega) k3 k1 ((hm.2.2.2.1.below hW hm.2.2.2.1.lt).cell 0) ((hm.2.1.below hW hm.2.1.lt).cell 0))
          (fun k h => mvDel_lt _ _ _ _ _ h ha) (fun k h => mvDel_lt _ _ _ _ _ (by have := HL.out; omega) ha)).mono ?_
        rintro e w2 ⟨v, rfl, ⟨gx, go, rfl, e1, e2, e3, a1, a2⟩, hb2⟩
        have hr := hm.2.2.1.below hb2 hm.2.2.1.lt
        have hbw := hbx.trans (hb2.mono hbx.size)
        have hsz := hbx.size
        have hlt5 := hm.2.2.1.lt
        have s0 := hr.cell 0
        have s1 := hr.cell 1
        have s2 := hr.frozen 0
        have s3 := hr.frozen 1
        have hres := Lib.hid ((hr.set 0 (.slice (some ⟨gx, 0, none⟩) (reloc (mvDel (minG x o) a) true (X.length - 1) X).length (reloc (mvDel (minG x o) a) true (X.length - 1) X).length)).set 1 (.slice (some ⟨go, 0, none⟩) (reloc (mvDel (minG x o) a) false (X.length - 1) O).length (reloc (mvDel (minG x o) a) false (X.length - 1) O).length))
        clear hz0 hz1 hz2 hz3 d0 d1 d2
        go_wp2_with fail
        refine bodyPost_ret (v := .tuple #[.agg #[.slice (some ⟨gx, 0, none⟩) (reloc (mvDel (minG x o) a) true (X.length - 1) X).length (reloc (mvDel (minG x o) a) true (X.length - 1) X).length, .slice (some ⟨go, 0, none⟩) (reloc (mvDel (minG x o) a) false (X.length - 1) O).length (reloc (mvDel (minG x o) a) false (X.length - 1) O).length], .int .i64 0]) (results_ct Tryz.results94 _ _ (w.heap.size + 2) 24 _ _ rfl hres.out Tryz.underlying24 rfl info_grid) rfl ⟨bset2 (r := w.heap.size + 2) hbw (by omega), ?_⟩
        rw [if_pos hfin.out]
        exact ⟨_, rfl, gx, go, rfl, e1, by omega, by omega, a1.far2 (r := w.heap.size + 2) (by omega), a2.far2 (r := w.heap.size + 2) (by omega)⟩
end Go.Proofs.YteliflcbegcdlaaGreatDoor
